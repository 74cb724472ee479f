/- Regions whose operations come in any order. -/
import Derived.Test.YtnmjgpnidpgimaaGreatDoorDiRun
namespace Go.Di
open Go.RowKit
set_option linter.unusedSectionVars false
set_option linter.unusedSimpArgs false
set_option linter.unusedVariables false

/-! ## What is checked -/

def slotOf : DOpd → Option Nat
  | .tmp n => some n
  | .con _ => none

/-- The slots that an operation reads. -/
def looks (o : DOper) : List Nat := (match o.grd with | some (s, _) => [s] | none => []) ++ (opds o.op).filterMap slotOf

def hits (a : Option Nat) (l : List Nat) : Bool := match a with
  | some n => l.any (Nat.beq n)
  | none => false

/-- May two operations change places, as far as slots go? -/
def slotFree (x y : DOper) : Bool := !hits x.dst (looks y) && !hits y.dst (looks x) && !(match x.dst, y.dst with | some a, some b => Nat.beq a b | _, _ => false)

def slot1 (m : Nat) (y : DOper) : Nat → List DOper → Bool
  | _, [] => true
  | k, x :: l => (slotFree x y || Nat.testBit m k) && slot1 m y (k + 1) l

def slotAll : List DOper → List Nat → List DOper → Bool
  | _, _, [] => true
  | pr, m :: ms, d :: ds => slot1 m d 0 pr && slotAll (pr ++ [d]) ms ds
  | _, [], _ :: _ => false

/-- What comes ahead of each, as bits. -/
def edgeMask (ms : List Nat) : List Edge → Nat
  | [] => 0
  | e :: es => match Region.binds .any e with
    | true => Nat.lor (Nat.lor (Nat.shiftLeft 1 e.on) (ms.getD e.on 0)) (edgeMask ms es)
    | false => edgeMask ms es

def edgeLt (k : Nat) : List Edge → Bool
  | [] => true
  | e :: es => (match Region.binds .any e with | true => Nat.blt e.on k | false => true) && edgeLt k es

def masks : List Nat → List Oper → Option (List Nat)
  | ms, [] => some ms
  | ms, o :: os => match edgeLt ms.length o.after.toList with
    | true => masks (ms ++ [edgeMask ms o.after.toList]) os
    | false => none

def Hl.names : Hl → List Tok
  | [] => []
  | (t, _) :: l => t :: Hl.names l

def tokFree (x y : Option Eff) : Bool := disj (resUpds x).names (resReads y) && disj (resUpds x).names (resUpds y).names && disj (resUpds y).names (resReads x)

def tok1 (m : Nat) (y : Option Eff) : Nat → List (Option Eff) → Bool
  | _, [] => true
  | k, x :: l => (tokFree x y || Nat.testBit m k) && tok1 m y (k + 1) l

def tokAll : List (Option Eff) → List Nat → List (Option Eff) → Bool
  | _, _, [] => true
  | pr, m :: ms, d :: ds => tok1 m d 0 pr && tokAll (pr ++ [d]) ms ds
  | _, [], _ :: _ => false

def deadAt (p : Option Nat) (m : Nat) : Bool := match p with
  | some q => Nat.testBit m q
  | none => false

/-- The operations in the order of the text, up to the end, or past one that panics: what comes behind that by its edges is not carried out. What each came to, what names it made. -/
def traceRun (P : Program) (Γ : Gam) : Option Nat → Nat → List DOper → List Nat → EnvL → Hl → Option (List (Option Eff) × List (List Tok) × Option Nat × EnvL × Hl)
  | p, _, [], _, g, h => some ([], [], p, g, h)
  | _, _, _ :: _, [], _, _ => none
  | p, k, o :: os, m :: ms, g, h => match deadAt p m with
    | true => match traceRun P Γ p (k + 1) os ms g h with
      | some (rs, fs, q) => some (none :: rs, [] :: fs, q)
      | none => none
    | false => match opStep P Γ o g.get h.get with
      | none => none
      | some none => match traceRun P Γ p (k + 1) os ms (g.put o.dst (.tup [])) h with
        | some (rs, fs, q) => some (none :: rs, [] :: fs, q)
        | none => none
      | some (some e) => match e.out with
        | .ret v => match traceRun P Γ p (k + 1) os ms (g.put o.dst v) (Hl.upd e.upds h) with
          | some (rs, fs, q) => some (some e :: rs, made o.dst (getOpd g.get) o.op e :: fs, q)
          | none => none
        | .pnc _ => match p with
          | some _ => none
          | none => match traceRun P Γ (some k) (k + 1) os ms g h with
            | some (rs, fs, q) => some (some e :: rs, made o.dst (getOpd g.get) o.op e :: fs, q)
            | none => none

/-- The names made, each once. -/
def flags : List (List Tok) → List Tok → Option (List Tok)
  | [], acc => some acc
  | [] :: fs, acc => flags fs acc
  | (t :: ts) :: fs, acc => match disj (t :: ts) acc with
    | false => none
    | true => flags fs ((t :: ts) ++ acc)

/-- What is changed beside the operation that panics comes ahead of it. -/
def updsOk (p m : Nat) : Nat → List (Option Eff) → Bool
  | _, [] => true
  | k, r :: rs => (Nat.beq k p || (match resUpds r with | [] => true | _ => Nat.testBit m k)) && updsOk p m (k + 1) rs

def dropSlots (ds : List DOper) : EnvL → EnvL
  | [] => []
  | (k, v) :: l => match ds.any fun d => match d.dst with | some n => Nat.beq n k | none => false with
    | true => (k, .any) :: dropSlots ds l
    | false => (k, v) :: dropSlots ds l

def drawRun (P : Program) (Γ : Gam) (ds : List DOper) (ms : List Nat) (g : EnvL) (h : Hl) : Option RR :=
  match traceRun P Γ none 0 ds ms g h with
  | some (rs, fs, p, g', h') => match tokAll [] ms rs, flags fs [] with
    | true, some cr => match freshN cr g h with
      | true => match p with
        | none => some (.ok g' h')
        | some p => match updsOk p (ms.getD p 0) 0 rs, rs.getD p none with
          | true, some e => match e.out with
            | .pnc v => some (.pnc v (dropSlots ds g) (Hl.upd e.upds h'))
            | .ret _ => none
          | _, _ => none
      | false => none
    | _, _ => none
  | none => none

/-! ## What the checks say -/

theorem names_iff : ∀ {l : Hl} {t : Tok}, t ∈ l.names ↔ ∃ o, (t, o) ∈ l
  | [], t => by simp [Hl.names]
  | (u, o) :: l, t => by
    simp only [Hl.names, List.mem_cons, names_iff (l := l), Prod.mk.injEq]
    constructor
    · rintro (rfl | ⟨o', h⟩)
      · exact ⟨o, .inl ⟨rfl, rfl⟩⟩
      · exact ⟨o', .inr h⟩
    · rintro ⟨o', ⟨rfl, rfl⟩ | h⟩
      · exact .inl rfl
      · exact .inr ⟨o', h⟩

theorem hits_iff {a : Option Nat} {l : List Nat} : hits a l = true ↔ ∃ n, a = some n ∧ n ∈ l := by
  cases a with
  | none => simp [hits]
  | some n =>
    simp only [hits, List.any_eq_true, Option.some.injEq, exists_eq_left']
    constructor
    · rintro ⟨m, hm, hb⟩; rwa [Nat.eq_of_beq_eq_true hb]
    · intro h; exact ⟨n, h, Nat.beq_refl n⟩

theorem slotFree_spec {x y : DOper} (h : slotFree x y = true) : ∀ n, (x.dst = some n → n ∉ looks y ∧ y.dst ≠ some n) ∧ (y.dst = some n → n ∉ looks x) := fun n => by
  simp only [slotFree, Bool.and_eq_true, Bool.not_eq_true'] at h
  obtain ⟨⟨h1, h2⟩, h3⟩ := h
  refine ⟨fun hx => ⟨fun hm => ?_, fun hy => ?_⟩, fun hy hm => ?_⟩
  · rw [hits_iff.2 ⟨n, hx, hm⟩] at h1; cases h1
  · rw [hx, hy] at h3; simp at h3
  · rw [hits_iff.2 ⟨n, hy, hm⟩] at h2; cases h2

theorem slot1_spec {m : Nat} {y : DOper} : ∀ {l : List DOper} {k : Nat}, slot1 m y k l = true → ∀ (j : Nat) x, l[j]? = some x → slotFree x y = true ∨ Nat.testBit m (k + j) = true
  | [], _, _, j, x, hx => by simp at hx
  | z :: l, k, h, j, x, hx => by
    simp only [slot1, Bool.and_eq_true, Bool.or_eq_true] at h
    cases j with
    | zero => simp at hx; subst hx; exact h.1
    | succ j =>
      have := slot1_spec h.2 j x (by simpa using hx)
      rwa [show k + 1 + j = k + (j + 1) by omega] at this

theorem slotAll_spec : ∀ {ds pr : List DOper} {ms : List Nat}, slotAll pr ms ds = true → ∀ (i : Nat) y, ds[i]? = some y → ∃ m, ms[i]? = some m ∧ ∀ (j : Nat) x, j < pr.length + i → (pr ++ ds)[j]? = some x → slotFree x y = true ∨ Nat.testBit m j = true
  | [], _, _, _, i, y, hy => by simp at hy
  | d :: ds, pr, [], h, i, y, hy => by simp [slotAll] at h
  | d :: ds, pr, m :: ms, h, i, y, hy => by
    simp only [slotAll, Bool.and_eq_true] at h
    cases i with
    | zero =>
      simp at hy
      subst hy
      refine ⟨m, rfl, fun j x hj hx => ?_⟩
      have := slot1_spec h.1 j x (by rwa [List.getElem?_append_left (by simpa using hj)] at hx)
      simpa using this
    | succ i =>
      obtain ⟨m', h1, h2⟩ := slotAll_spec h.2 i y (by simpa using hy)
      refine ⟨m', by simpa using h1, fun j x hj hx => h2 j x (by simp; omega) (by simpa using hx)⟩

theorem tok1_spec {m : Nat} {y : Option Eff} : ∀ {l : List (Option Eff)} {k : Nat}, tok1 m y k l = true → ∀ (j : Nat) x, l[j]? = some x → tokFree x y = true ∨ Nat.testBit m (k + j) = true
  | [], _, _, j, x, hx => by simp at hx
  | z :: l, k, h, j, x, hx => by
    simp only [tok1, Bool.and_eq_true, Bool.or_eq_true] at h
    cases j with
    | zero => simp at hx; subst hx; exact h.1
    | succ j =>
      have := tok1_spec h.2 j x (by simpa using hx)
      rwa [show k + 1 + j = k + (j + 1) by omega] at this

theorem tokAll_spec : ∀ {ds pr : List (Option Eff)} {ms : List Nat}, tokAll pr ms ds = true → ∀ (i : Nat) y, ds[i]? = some y → ∃ m, ms[i]? = some m ∧ ∀ (j : Nat) x, j < pr.length + i → (pr ++ ds)[j]? = some x → tokFree x y = true ∨ Nat.testBit m j = true
  | [], _, _, _, i, y, hy => by simp at hy
  | d :: ds, pr, [], h, i, y, hy => by simp [tokAll] at h
  | d :: ds, pr, m :: ms, h, i, y, hy => by
    simp only [tokAll, Bool.and_eq_true] at h
    cases i with
    | zero =>
      simp at hy
      subst hy
      refine ⟨m, rfl, fun j x hj hx => ?_⟩
      have := tok1_spec h.1 j x (by rwa [List.getElem?_append_left (by simpa using hj)] at hx)
      simpa using this
    | succ i =>
      obtain ⟨m', h1, h2⟩ := tokAll_spec h.2 i y (by simpa using hy)
      refine ⟨m', by simpa using h1, fun j x hj hx => h2 j x (by simp; omega) (by simpa using hx)⟩

theorem flags_spec : ∀ {fs : List (List Tok)} {acc cr : List Tok}, flags fs acc = some cr → (∀ t ∈ acc, t ∈ cr) ∧
    (∀ (i : Nat) l, fs[i]? = some l → ∀ t ∈ l, t ∈ cr ∧ t ∉ acc) ∧ ∀ (i j : Nat) l l', fs[i]? = some l → fs[j]? = some l' → i < j → ∀ t ∈ l, t ∉ l'
  | [], acc, cr, h => by simp only [flags, Option.some.injEq] at h; subst h; exact ⟨fun _ h => h, fun i l hx => by simp at hx, fun i j l l' hx => by simp at hx⟩
  | [] :: fs, acc, cr, h => by
    obtain ⟨h1, h2, h3⟩ := flags_spec (fs := fs) (by simpa only [flags] using h)
    refine ⟨h1, fun i l hi t ht => ?_, fun i j l l' hi hj hij t ht => ?_⟩
    · cases i with
      | zero => simp at hi; subst hi; cases ht
      | succ i => exact h2 i l (by simpa using hi) t ht
    · cases i with
      | zero => simp at hi; subst hi; cases ht
      | succ i => cases j with
        | zero => omega
        | succ j => exact h3 i j l l' (by simpa using hi) (by simpa using hj) (by omega) t ht
  | (m :: ms) :: fs, acc, cr, h => by
    simp only [flags] at h
    split at h
    · cases h
    · rename_i hdis
      obtain ⟨h1, h2, h3⟩ := flags_spec h
      have hm := disj_iff.1 hdis
      refine ⟨fun t ht => h1 t (List.mem_append_right _ ht), fun i l hi t ht => ?_, fun i j l l' hi hj hij t ht => ?_⟩
      · cases i with
        | zero => simp at hi; subst hi; exact ⟨h1 t (List.mem_append_left _ ht), hm t ht⟩
        | succ i =>
          have := h2 i l (by simpa using hi) t ht
          exact ⟨this.1, fun hn => this.2 (List.mem_append_right _ hn)⟩
      · cases j with
        | zero => omega
        | succ j =>
          cases i with
          | zero =>
            simp at hi
            subst hi
            exact fun hm' => (h2 j l' (by simpa using hj) t hm').2 (List.mem_append_left _ ht)
          | succ i => exact h3 i j l l' (by simpa using hi) (by simpa using hj) (by omega) t ht

/-! ## Masks -/

theorem edgeMask_spec {ms : List Nat} : ∀ {es : List Edge} {j : Nat}, Nat.testBit (edgeMask ms es) j = true → ∃ e ∈ es, Region.binds .any e = true ∧ (e.on = j ∨ Nat.testBit (ms.getD e.on 0) j = true)
  | [], j, h => by simp [edgeMask] at h
  | e :: es, j, h => by
    simp only [edgeMask] at h
    split at h
    · rename_i hb
      have h : Nat.testBit (((1 <<< e.on) ||| (ms.getD e.on 0)) ||| edgeMask ms es) j = true := h
      rw [Nat.testBit_or, Nat.testBit_or, Bool.or_eq_true, Bool.or_eq_true] at h
      rcases h with (h | h) | h
      · refine ⟨e, by simp, hb, .inl ?_⟩
        rw [Nat.one_shiftLeft, Nat.testBit_two_pow] at h
        simpa using h
      · exact ⟨e, by simp, hb, .inr h⟩
      · obtain ⟨e', h1, h2⟩ := edgeMask_spec h
        exact ⟨e', by simp [h1], h2⟩
    · obtain ⟨e', h1, h2⟩ := edgeMask_spec h
      exact ⟨e', by simp [h1], h2⟩

theorem edgeLt_spec {k : Nat} : ∀ {es : List Edge}, edgeLt k es = true → ∀ e ∈ es, Region.binds .any e = true → e.on < k
  | [], _, e, he, _ => by cases he
  | x :: es, h, e, he, hb => by
    simp only [edgeLt, Bool.and_eq_true] at h
    rcases List.mem_cons.1 he with rfl | he
    · have := h.1
      rw [hb] at this
      simp only at this
      rwa [Nat.blt_eq] at this
    · exact edgeLt_spec h.2 e he hb

/-- Each operation has its mask: what is in it comes by an edge, or ahead of an edge's. -/
theorem masks_spec : ∀ {os : List Oper} {ms out : List Nat}, masks ms os = some out → (∃ l, out = ms ++ l) ∧ out.length = ms.length + os.length ∧
    ∀ (k : Nat) o, os[k]? = some o → (∀ e ∈ o.after.toList, Region.binds .any e = true → e.on < ms.length + k) ∧
      ∃ m, out[ms.length + k]? = some m ∧ ∀ j, Nat.testBit m j = true → ∃ e ∈ o.after.toList, Region.binds .any e = true ∧ (e.on = j ∨ Nat.testBit (out.getD e.on 0) j = true)
  | [], ms, out, h => by
    simp only [masks, Option.some.injEq] at h
    subst h
    exact ⟨⟨[], by simp⟩, by simp, fun k o ho => by simp at ho⟩
  | o :: os, ms, out, h => by
    simp only [masks] at h
    split at h
    · rename_i hlt
      obtain ⟨⟨l, h1⟩, h2, h3⟩ := masks_spec h
      refine ⟨⟨_ :: l, by rw [h1, List.append_assoc]; rfl⟩, by rw [h2]; simp; omega, fun k o' ho => ?_⟩
      cases k with
      | zero =>
        simp at ho
        subst ho
        refine ⟨edgeLt_spec hlt, edgeMask ms o.after.toList, by rw [h1]; simp, fun j hj => ?_⟩
        obtain ⟨e, he, hb, hor⟩ := edgeMask_spec hj
        refine ⟨e, he, hb, hor.imp id fun hh => ?_⟩
        have hl := edgeLt_spec hlt e he hb
        have : out.getD e.on 0 = ms.getD e.on 0 := by
          rw [h1, List.append_assoc, List.getD_eq_getElem?_getD, List.getD_eq_getElem?_getD, List.getElem?_append_left hl]
        rw [this]
        exact hh
      | succ k =>
        have := h3 k o' (by simpa using ho)
        simp only [List.length_append, List.length_cons, List.length_nil] at this
        rw [show ms.length + (0 + 1) + k = ms.length + (k + 1) by omega] at this
        exact this
    · cases h

/-! ## Folds over what is listed -/

section
variable (D : Nat → DOper) (R : Nat → Option Eff) (g0 : Env) (h0 : Hp)

def foldE (S : Nat → Bool) : Nat → Env
  | 0 => g0
  | k + 1 => match S k with
    | true => setEnv (foldE S k) (D k).dst (resVal (R k))
    | false => foldE S k

def foldH (S : Nat → Bool) : Nat → Hp
  | 0 => h0
  | k + 1 => match S k with
    | true => (resUpds (R k)).app (foldH S k)
    | false => foldH S k

variable {D R g0 h0}

theorem setEnv_ne {g : Env} {d : Option Nat} {v : DV} {n : Nat} (h : d ≠ some n) : setEnv g d v n = g n := by
  cases d with
  | none => rfl
  | some m => simp only [setEnv]; rw [if_neg]; rintro rfl; exact h rfl

theorem setEnv_eq {g : Env} {v : DV} {n : Nat} : setEnv g (some n) v n = v := by simp [setEnv]

theorem foldE_congr {S S' : Nat → Bool} {n : Nat} : ∀ {k : Nat}, (∀ j, j < k → (D j).dst = some n → S j = S' j) → foldE D R g0 S k n = foldE D R g0 S' k n
  | 0, _ => rfl
  | k + 1, h => by
    have ih := foldE_congr (S := S) (S' := S') (n := n) (k := k) fun j hj => h j (by omega)
    simp only [foldE]
    by_cases hd : (D k).dst = some n
    · rw [h k (by omega) hd]
      cases S' k with
      | true => simp only; rw [hd, setEnv_eq, setEnv_eq]
      | false => exact ih
    · cases S k <;> cases S' k <;> simp only [setEnv_ne hd] <;> exact ih

theorem foldE_cut {Lv : Nat → Bool} {i : Nat} : ∀ {k : Nat}, foldE D R g0 (fun j => Lv j && decide (j < i)) k = foldE D R g0 Lv (min k i)
  | 0 => by simp [foldE]
  | k + 1 => by
    simp only [foldE]
    by_cases hk : k < i
    · rw [decide_eq_true hk, show min (k + 1) i = k + 1 by omega, Bool.and_true]
      simp only [foldE]
      rw [foldE_cut (k := k), show min k i = k by omega]
    · rw [decide_eq_false hk, show min (k + 1) i = i by omega, Bool.and_false]
      simp only
      rw [foldE_cut (k := k), show min k i = i by omega]

theorem foldE_last {S : Nat → Bool} {n i : Nat} : ∀ {k : Nat}, i < k → S i = true → (D i).dst = some n → (∀ j, i < j → j < k → (D j).dst = some n → S j = false) → foldE D R g0 S k n = resVal (R i)
  | 0, h, _, _, _ => by omega
  | k + 1, h, hS, hd, hn => by
    simp only [foldE]
    by_cases e : k = i
    · subst e; rw [hS, hd]; exact setEnv_eq
    · have ih := foldE_last (k := k) (by omega) hS hd fun j h1 h2 => hn j h1 (by omega)
      by_cases hdk : (D k).dst = some n
      · rw [hn k (by omega) (by omega) hdk]; exact ih
      · cases S k with
        | true => simp only; rw [setEnv_ne hdk]; exact ih
        | false => exact ih

theorem app_notin {u : Hl} {h : Hp} {t : Tok} (hn : t ∉ u.names) : u.app h t = h t :=
  app_ne fun v o hm e => hn (names_iff.2 ⟨o, e ▸ hm⟩)

theorem app_in : ∀ {u : Hl} {h h' : Hp} {t : Tok}, t ∈ u.names → u.app h t = u.app h' t
  | [], _, _, _, hm => by simp [Hl.names] at hm
  | (v, o) :: u, h, h', t, hm => by
    simp only [Hl.app]
    by_cases ht : t ∈ Hl.names u
    · exact app_in ht
    · rw [app_notin ht, app_notin ht]
      simp only [Hl.names, List.mem_cons] at hm
      have := hm.resolve_right ht
      subst this
      rw [Hp.set_same, Hp.set_same]

theorem foldH_congr {S S' : Nat → Bool} {t : Tok} : ∀ {k : Nat}, (∀ j, j < k → t ∈ (resUpds (R j)).names → S j = S' j) → foldH R h0 S k t = foldH R h0 S' k t
  | 0, _ => rfl
  | k + 1, h => by
    have ih := foldH_congr (S := S) (S' := S') (t := t) (k := k) fun j hj => h j (by omega)
    simp only [foldH]
    by_cases hd : t ∈ (resUpds (R k)).names
    · rw [h k (by omega) hd]
      cases S' k with
      | true => exact app_in hd
      | false => exact ih
    · cases S k <;> cases S' k <;> simp only [app_notin hd] <;> exact ih

theorem foldH_cut {Lv : Nat → Bool} {i : Nat} : ∀ {k : Nat}, foldH R h0 (fun j => Lv j && decide (j < i)) k = foldH R h0 Lv (min k i)
  | 0 => by simp [foldH]
  | k + 1 => by
    simp only [foldH]
    by_cases hk : k < i
    · rw [decide_eq_true hk, show min (k + 1) i = k + 1 by omega, Bool.and_true]
      simp only [foldH]
      rw [foldH_cut (k := k), show min k i = k by omega]
    · rw [decide_eq_false hk, show min (k + 1) i = i by omega, Bool.and_false]
      simp only
      rw [foldH_cut (k := k), show min k i = i by omega]

theorem foldH_last {S : Nat → Bool} {t : Tok} {i : Nat} {h' : Hp} : ∀ {k : Nat}, i < k → S i = true → t ∈ (resUpds (R i)).names → (∀ j, i < j → j < k → t ∈ (resUpds (R j)).names → S j = false) → foldH R h0 S k t = (resUpds (R i)).app h' t
  | 0, h, _, _, _ => by omega
  | k + 1, h, hS, hd, hn => by
    simp only [foldH]
    by_cases e : k = i
    · subst e; rw [hS]; exact app_in hd
    · have ih := foldH_last (h' := h') (k := k) (by omega) hS hd fun j h1 h2 => hn j h1 (by omega)
      by_cases hdk : t ∈ (resUpds (R k)).names
      · rw [hn k (by omega) (by omega) hdk]; exact ih
      · cases S k with
        | true => simp only; rw [app_notin hdk]; exact ih
        | false => exact ih

end

/-! ## The whole -/

instance : Inhabited DOper := ⟨⟨none, .mv (.con .any), none⟩⟩

section
variable {P : Program} {SX : List Nat} {W0 : World} {ρ0 : Rho} {F0 : Nat → Prop} {hh : Hp} {w0 : World} {dfs : List Deferred} {Γ : Gam} {N : Nat}

theorem opStep_congr {o : DOper} {g g' : Env} {h h' : Hp} {r : Option Eff} (hr : opStep P Γ o g h = some r) (hg : ∀ s ∈ looks o, g' s = g s) (hh : ∀ t ∈ resReads r, h' t = h t) : opStep P Γ o g' h' = some r := by
  have hw : gWant o.grd g' = gWant o.grd g := by
    cases hgr : o.grd with
    | none => rfl
    | some sw =>
      obtain ⟨s, want⟩ := sw
      simp only [gWant]
      rw [hg s (by simp [looks, hgr])]
  unfold opStep at hr ⊢
  rw [hw]
  split at hr
  · simp only [Option.map_eq_some_iff] at hr ⊢
    obtain ⟨e, he, rfl⟩ := hr
    refine ⟨e, opEff_congr he (fun x hx => ?_) hh, rfl⟩
    cases x with
    | con d => rfl
    | tmp n => exact hg n (List.mem_append_right _ (List.mem_filterMap.2 ⟨.tmp n, hx, rfl⟩))
  · exact hr
  · cases hr

variable (ds : List DOper) (rs : List (Option Eff))
abbrev Dk (i : Nat) : DOper := ds.getD i default
abbrev Rk (i : Nat) : Option Eff := rs.getD i none

variable {ds rs}

theorem made_congr {o : DOper} {g g' : Env} {r : Option Eff} (hg : ∀ s ∈ looks o, g' s = g s) : madeOf o g' r = madeOf o g r := by
  cases r with
  | none => rfl
  | some e =>
    have hm : mk (getOpd g') o.op = mk (getOpd g) o.op := by
      cases ho : o.op with
      | app ty sz x y =>
        simp only [mk]
        cases x with
        | con d => rfl
        | tmp n =>
          have := hg n (List.mem_append_right _ (List.mem_filterMap.2 ⟨.tmp n, by rw [ho]; simp [opds], rfl⟩))
          simp only [getOpd, this]
      | _ => rfl
    simp only [madeOf, made]
    split
    · rfl
    · rfl
    · rw [hm]

/-- What is carried out beside the one that panics. -/
def live (pf : Option Nat) (ms : List Nat) (k : Nat) : Bool := match pf with
  | none => true
  | some p => !(Nat.beq k p) && !(Nat.blt p k && Nat.testBit (ms.getD k 0) p)

theorem trace_pf {pf : Option Nat} {g' : EnvL} {h' : Hl} : ∀ {rest : List DOper} {k : Nat} {p : Option Nat} {msr : List Nat} {g : EnvL} {h : Hl} {rs' : List (Option Eff)} {fs' : List (List Tok)}, traceRun P Γ p k rest msr g h = some (rs', fs', pf, g', h') →
    (∀ q, p = some q → pf = some q) ∧ (p = none → ∀ q, pf = some q → k ≤ q ∧ q < k + rest.length) := by
  intro rest
  induction rest with
  | nil =>
    intro k p msr g h rs' fs' ht
    simp only [traceRun, Option.some.injEq, Prod.mk.injEq] at ht
    obtain ⟨_, _, rfl, _⟩ := ht
    exact ⟨fun q h => h, fun h q hq => by rw [h] at hq; cases hq⟩
  | cons o os ih =>
    intro k p msr g h rs' fs' ht
    cases msr with
    | nil => simp [traceRun] at ht
    | cons m msr =>
      have same : ∀ {g1 h1 rs1 fs1}, traceRun P Γ p (k + 1) os msr g1 h1 = some (rs1, fs1, pf, g', h') → (∀ q, p = some q → pf = some q) ∧ (p = none → ∀ q, pf = some q → k ≤ q ∧ q < k + (o :: os).length) := fun hx => by
        obtain ⟨h1, h2⟩ := ih hx
        refine ⟨h1, fun hp q hq => ?_⟩
        obtain ⟨h3, h4⟩ := h2 hp q hq
        simp only [List.length_cons]
        omega
      simp only [traceRun] at ht
      split at ht
      · split at ht
        · rename_i q hp; cases ht; exact same hp
        · cases ht
      · split at ht
        · cases ht
        · split at ht
          · rename_i q hp; cases ht; exact same hp
          · cases ht
        · split at ht
          · split at ht
            · rename_i q hp; cases ht; exact same hp
            · cases ht
          · split at ht
            · cases ht
            · split at ht
              · rename_i q hp
                cases ht
                obtain ⟨h1, _⟩ := ih hp
                have := h1 k rfl
                subst this
                refine ⟨fun q hq => (by cases hq), fun _ q hq => ?_⟩
                cases hq
                simp only [List.length_cons]
                omega
              · cases ht

theorem trace_spec {G0 : Env} {H0 : Hp} {g' : EnvL} {h' : Hl} {fs : List (List Tok)} {pf : Option Nat} {ms : List Nat} : ∀ {rest : List DOper} {i : Nat} {p : Option Nat} {msr : List Nat} {g : EnvL} {h : Hl} {rs' : List (Option Eff)} {fs' : List (List Tok)}, ds.drop i = rest → i + rest.length = ds.length → ms.drop i = msr → (∀ q, p = some q → q < i) → traceRun P Γ p i rest msr g h = some (rs', fs', pf, g', h') → rs.drop i = rs' → fs.drop i = fs' →
    g.get = foldE (Dk ds) (Rk rs) G0 (live pf ms) i → h.get = foldH (Rk rs) H0 (live pf ms) i →
    rs'.length = rest.length ∧ (∀ k, i ≤ k → k < ds.length → (live pf ms k = true → opStep P Γ (Dk ds k) (foldE (Dk ds) (Rk rs) G0 (live pf ms) k) (foldH (Rk rs) H0 (live pf ms) k) = some (Rk rs k) ∧ resPanics (Rk rs k) = false) ∧
      (p = none → pf = some k → resPanics (Rk rs k) = true ∧ opStep P Γ (Dk ds k) (foldE (Dk ds) (Rk rs) G0 (live pf ms) k) (foldH (Rk rs) H0 (live pf ms) k) = some (Rk rs k)) ∧
      fs[k]? = some (madeOf (Dk ds k) (foldE (Dk ds) (Rk rs) G0 (live pf ms) k) (Rk rs k))) ∧
    g'.get = foldE (Dk ds) (Rk rs) G0 (live pf ms) ds.length ∧ h'.get = foldH (Rk rs) H0 (live pf ms) ds.length := by
  intro rest
  induction rest with
  | nil =>
    intro i p msr g h rs' fs' hdr hl hms hp ht hrs hfs hg hh
    simp only [traceRun, Option.some.injEq, Prod.mk.injEq] at ht
    obtain ⟨rfl, rfl, rfl, rfl, rfl⟩ := ht
    simp only [List.length_nil, Nat.add_zero] at hl
    subst hl
    exact ⟨rfl, fun k h1 h2 => by omega, hg, hh⟩
  | cons o os ih =>
    intro i p msr g h rs' fs' hdr hl hms hp ht hrs hfs hg hh
    have hoi : ds[i]? = some o := by
      have := congrArg (fun l => l[0]?) hdr
      simpa using this
    have hD : Dk ds i = o := by simp [Dk, List.getD_eq_getElem?_getD, hoi]
    have hdr' : ds.drop (i + 1) = os := by
      have := congrArg (List.drop 1) hdr
      simpa [List.drop_drop] using this
    have hl' : i + 1 + os.length = ds.length := by simp only [List.length_cons] at hl; omega
    have hp' : ∀ q, p = some q → q < i + 1 := fun q hq => by have := hp q hq; omega
    have hpf := trace_pf ht
    cases msr with
    | nil => simp [traceRun] at ht
    | cons m msr =>
      have hmi : ms.getD i 0 = m := by
        have := congrArg (fun l => l[0]?) hms
        simp at this
        simp [List.getD_eq_getElem?_getD, this]
      have hms' : ms.drop (i + 1) = msr := by
        have := congrArg (List.drop 1) hms
        simpa [List.drop_drop] using this
      have hR : ∀ {x : Option Eff} {l}, rs' = x :: l → Rk rs i = x ∧ rs.drop (i + 1) = l := fun {x l} e => by
        subst e
        have h1 := congrArg (fun l => l[0]?) hrs
        have h2 := congrArg (List.drop 1) hrs
        simp at h1
        refine ⟨by simp [Rk, List.getD_eq_getElem?_getD, h1], by simpa [List.drop_drop] using h2⟩
      have hF : ∀ {x : List Tok} {l}, fs' = x :: l → fs[i]? = some x ∧ fs.drop (i + 1) = l := fun {x l} e => by
        subst e
        have h1 := congrArg (fun l => l[0]?) hfs
        have h2 := congrArg (List.drop 1) hfs
        simp at h1
        refine ⟨h1, by simpa [List.drop_drop] using h2⟩
      -- what is carried out is live
      have liveT : deadAt p m = false → (p = none → pf ≠ some i) → live pf ms i = true := fun h1 h2 => by
        cases hpc : p with
        | some q =>
          have h1 : Nat.testBit m q = false := by rw [hpc] at h1; exact h1
          have := hpf.1 q hpc
          subst this
          have hq := hp q hpc
          simp only [live, hmi, h1, Bool.and_false, Bool.not_false, Bool.and_true, Bool.not_eq_true']
          cases hb : Nat.beq i q with
          | false => rfl
          | true => have := Nat.eq_of_beq_eq_true hb; omega
        | none =>
          cases hpfc : pf with
          | none => rfl
          | some q =>
            obtain ⟨h3, _⟩ := hpf.2 hpc q hpfc
            have h4 := h2 hpc
            rw [hpfc] at h4
            have hne : i ≠ q := fun e => h4 (by rw [e])
            simp only [live, Bool.and_eq_true, Bool.not_eq_true', Bool.and_eq_false_imp]
            refine ⟨?_, fun hb => ?_⟩
            · cases hb : Nat.beq i q with
              | false => rfl
              | true => exact absurd (Nat.eq_of_beq_eq_true hb) hne
            · rw [Nat.blt_eq] at hb; omega
      have fin : ∀ {q1 : Option Nat} {x : Option Eff} {l1 : List (Option Eff)} {l2 : List (List Tok)} {g1 h1}, traceRun P Γ q1 (i + 1) os msr g1 h1 = some (l1, l2, pf, g', h') → rs' = x :: l1 → (fs' = madeOf o g.get x :: l2) → (∀ q, q1 = some q → q < i + 1) → (p = none → q1 = none ∨ q1 = some i) → (∀ q, p = some q → q1 = some q) →
          g1.get = foldE (Dk ds) (Rk rs) G0 (live pf ms) (i + 1) → h1.get = foldH (Rk rs) H0 (live pf ms) (i + 1) →
          ((live pf ms i = true → opStep P Γ o g.get h.get = some x ∧ resPanics x = false) ∧ (p = none → pf = some i → resPanics x = true ∧ opStep P Γ o g.get h.get = some x)) →
          rs'.length = (o :: os).length ∧ (∀ k, i ≤ k → k < ds.length → (live pf ms k = true → opStep P Γ (Dk ds k) (foldE (Dk ds) (Rk rs) G0 (live pf ms) k) (foldH (Rk rs) H0 (live pf ms) k) = some (Rk rs k) ∧ resPanics (Rk rs k) = false) ∧
            (p = none → pf = some k → resPanics (Rk rs k) = true ∧ opStep P Γ (Dk ds k) (foldE (Dk ds) (Rk rs) G0 (live pf ms) k) (foldH (Rk rs) H0 (live pf ms) k) = some (Rk rs k)) ∧
            fs[k]? = some (madeOf (Dk ds k) (foldE (Dk ds) (Rk rs) G0 (live pf ms) k) (Rk rs k))) ∧
          g'.get = foldE (Dk ds) (Rk rs) G0 (live pf ms) ds.length ∧ h'.get = foldH (Rk rs) H0 (live pf ms) ds.length := by
        intro q1 x l1 l2 g1 h1 hx hrs1 hfs1 hq1 hq2 hq3 hg1 hh1 hstep
        obtain ⟨hRi, hrs2⟩ := hR hrs1
        obtain ⟨hFi, hfs2⟩ := hF hfs1
        obtain ⟨h2, h3, h4⟩ := ih hdr' hl' hms' hq1 hx hrs2 hfs2 hg1 hh1
        refine ⟨by rw [hrs1]; simp [h2], fun k hk1 hk2 => ?_, h4⟩
        by_cases e : k = i
        · subst e
          rw [hD, hRi, ← hg, ← hh]
          exact ⟨hstep.1, hstep.2, hFi⟩
        · obtain ⟨h5, h6, h7⟩ := h3 k (by omega) hk2
          refine ⟨h5, fun hpn hpk => ?_, h7⟩
          rcases hq2 hpn with h8 | h8
          · exact h6 h8 hpk
          · have := (trace_pf hx).1 i h8
            rw [hpk] at this
            cases this
            exact absurd rfl e
      simp only [traceRun] at ht
      split at ht
      · rename_i hdead
        split at ht
        · rename_i rs2 fs2 q hx
          cases ht
          have hlf : live pf ms i = false := by
            cases hpc : p with
            | none => rw [hpc] at hdead; cases hdead
            | some q =>
              have hdead : Nat.testBit m q = true := by rw [hpc] at hdead; exact hdead
              have := hpf.1 q hpc
              subst this
              have hq := hp q hpc
              have hb : Nat.blt q i = true := by rw [Nat.blt_eq]; exact hq
              simp only [live, hmi, hdead, hb, Bool.and_true, Bool.not_true, Bool.and_false]
          refine fin hx rfl rfl hp' (fun h => .inl h) (fun q h => h) (by simp only [foldE, hlf]; exact hg) (by simp only [foldH, hlf]; exact hh) ⟨fun h => (by rw [hlf] at h; cases h), fun hpn hpi => ?_⟩
          rw [hpn] at hdead
          cases hdead
        · cases ht
      · rename_i hnd
        split at ht
        · cases ht
        · rename_i hs
          split at ht
          · rename_i rs2 fs2 q hx
            cases ht
            have hni : p = none → pf ≠ some i := fun hpn e => by have := (trace_pf hx).2 hpn i e; omega
            have hlt := liveT (by simpa using hnd) hni
            obtain ⟨hRi, _⟩ := hR rfl
            exact fin hx rfl rfl hp' (fun h => .inl h) (fun q h => h) (by rw [EnvL.get_put, hg]; simp only [foldE, hlt, hD, hRi, resVal]) (by rw [hh]; simp only [foldH, hlt, hRi, resUpds, Hl.app]) ⟨fun _ => ⟨hs, rfl⟩, fun hpn hpi => absurd hpi (hni hpn)⟩
          · cases ht
        · rename_i e hs
          split at ht
          · rename_i v hv
            split at ht
            · rename_i rs2 fs2 q hx
              cases ht
              have hni : p = none → pf ≠ some i := fun hpn e => by have := (trace_pf hx).2 hpn i e; omega
              have hlt := liveT (by simpa using hnd) hni
              obtain ⟨hRi, _⟩ := hR rfl
              exact fin hx rfl rfl hp' (fun h => .inl h) (fun q h => h) (by rw [EnvL.get_put, hg]; simp only [foldE, hlt, hD, hRi, resVal, hv, Out.dv]) (by rw [Hl.get_upd, hh]; simp only [foldH, hlt, hRi, resUpds]) ⟨fun _ => ⟨hs, by simp [resPanics, hv]⟩, fun hpn hpi => absurd hpi (hni hpn)⟩
            · cases ht
          · rename_i v hv
            split at ht
            · cases ht
            · split at ht
              · rename_i rs2 fs2 q hx
                cases ht
                have hpi := (trace_pf hx).1 i rfl
                have hlf : live pf ms i = false := by subst hpi; simp [live]
                refine fin hx rfl rfl (fun q hq => by cases hq; omega) (fun _ => .inr rfl) (fun q hq => by cases hq) (by simp only [foldE, hlf]; exact hg) (by simp only [foldH, hlf]; exact hh) ⟨fun h => (by rw [hlf] at h; cases h), fun _ _ => ⟨by simp [resPanics, hv], hs⟩⟩
              · cases ht

/-- All that is listed with whatever comes ahead of it. -/
def Closed (ops : Array Oper) (S : Nat → Bool) : Prop := ∀ (i : Nat) o, ops[i]? = some o → S i = true → ∀ e ∈ o.after, Region.binds .any e = true → S e.on = true

theorem anc_closed {ops : Array Oper} {ms : List Nat} (hm : masks [] ops.toList = some ms) {S : Nat → Bool} (hc : Closed ops S) : ∀ (n k : Nat), k < n → S k = true → ∀ j, Nat.testBit (ms.getD k 0) j = true → S j = true
  | 0, k, hk, _, _, _ => by omega
  | n + 1, k, hk, hS, j, hj => by
    obtain ⟨_, hlen, hsp⟩ := masks_spec hm
    cases ho : ops.toList[k]? with
    | none =>
      have : ms[k]? = none := by
        rw [List.getElem?_eq_none_iff] at ho ⊢
        simp only [List.length_nil] at hlen
        omega
      rw [List.getD_eq_getElem?_getD, this] at hj
      simp at hj
    | some o =>
      obtain ⟨h1, m, h2, h3⟩ := hsp k o ho
      simp only [List.length_nil, Nat.zero_add] at h1 h2
      rw [List.getD_eq_getElem?_getD, h2] at hj
      obtain ⟨e, he, hb, hor⟩ := h3 j hj
      have hSe := hc k o (by simpa using ho) hS e (by simpa using he) hb
      rcases hor with rfl | hor
      · exact hSe
      · exact anc_closed hm hc n e.on (by have := h1 e he hb; omega) hSe j hor

theorem anc_ready {ops : Array Oper} {ms : List Nat} (hm : masks [] ops.toList = some ms) {S : Nat → Bool} (hc : Closed ops S) {i : Nat} {o : Oper} (ho : ops[i]? = some o) (hr : ∀ e ∈ o.after, Region.binds .any e = true → S e.on = true) :
    ∀ j, Nat.testBit (ms.getD i 0) j = true → S j = true := fun j hj => by
  obtain ⟨_, hlen, hsp⟩ := masks_spec hm
  obtain ⟨h1, m, h2, h3⟩ := hsp i o (by simpa using ho)
  simp only [List.length_nil, Nat.zero_add] at h1 h2
  rw [List.getD_eq_getElem?_getD, h2] at hj
  obtain ⟨e, he, hb, hor⟩ := h3 j hj
  have hSe := hr e (by simpa using he) hb
  rcases hor with rfl | hor
  · exact hSe
  · exact anc_closed hm hc _ e.on (Nat.lt_succ_self _) hSe j hor

theorem any_sound (hΓ : ∀ f sp, Γ f = some sp → FnOk P W0 f sp) {ops : Array Oper} (hd : DigOps P ops N ds) (hSX : ∀ d ∈ ds, ∀ n, d.dst = some n → n ∉ SX) {ms : List Nat} (hm : masks [] ops.toList = some ms) (hsl : slotAll [] ms ds = true) (htk : tokAll [] ms rs = true) (hrl : rs.length = ds.length)
    {G0 : Env} {H0 : Hp} {Lv : Nat → Bool} (hst : ∀ k, k < ds.length → Lv k = true → opStep P Γ (Dk ds k) (foldE (Dk ds) (Rk rs) G0 Lv k) (foldH (Rk rs) H0 Lv k) = some (Rk rs k) ∧ resPanics (Rk rs k) = false)
    (hdist : ∀ i j t, i < ds.length → j < ds.length → i ≠ j → t ∈ madeOf (Dk ds i) (foldE (Dk ds) (Rk rs) G0 Lv i) (Rk rs i) → t ∉ madeOf (Dk ds j) (foldE (Dk ds) (Rk rs) G0 Lv j) (Rk rs j)) {Q : Exit → Act → World → Prop}
    (hbad : ∀ (i : Nat) (o : Oper) (S : Nat → Bool), i < ds.length → Lv i = false → ops[i]? = some o → S i = false → Closed ops S → (∀ j, S j = true → j < ds.length → Lv j = true) → (∀ j, Nat.testBit (ms.getD i 0) j = true → S j = true) →
      (∀ j, j < ds.length → S j = false → ∀ t ∈ madeOf (Dk ds j) (foldE (Dk ds) (Rk rs) G0 Lv j) (Rk rs j), FreshTok t (foldE (Dk ds) (Rk rs) G0 S ds.length) (foldH (Rk rs) H0 S ds.length)) →
      ∀ ρ F a w (K : Act → World → Prop), At SX W0 ρ0 F0 hh w0 dfs N ρ F (foldE (Dk ds) (Rk rs) G0 S ds.length) (foldH (Rk rs) H0 S ds.length) a w → wpOp P ops Q i K a w)
    (hQ : (∀ j, j < ds.length → Lv j = true) → ∀ ρ' F' a' w', At SX W0 ρ0 F0 hh w0 dfs N ρ' F' (foldE (Dk ds) (Rk rs) G0 Lv ds.length) (foldH (Rk rs) H0 Lv ds.length) a' w' → Q .normal a' w') :
    ∀ (fuel : Nat) (listed : Array Bool) (T : List Nat) (ρ : Rho) (F : Nat → Prop) (a : Act) (w : World), listed.size = ops.size → T.length ≤ fuel → (∀ j, j < ops.size → listed.getD j false = false → j ∈ T) →
    Closed ops (fun j => listed.getD j false) → (∀ j, listed.getD j false = true → j < ds.length → Lv j = true) → At SX W0 ρ0 F0 hh w0 dfs N ρ F (foldE (Dk ds) (Rk rs) G0 (fun j => listed.getD j false) ds.length) (foldH (Rk rs) H0 (fun j => listed.getD j false) ds.length) a w →
    (∀ j, j < ds.length → listed.getD j false = false → ∀ t ∈ madeOf (Dk ds j) (foldE (Dk ds) (Rk rs) G0 Lv j) (Rk rs j), FreshTok t (foldE (Dk ds) (Rk rs) G0 (fun j => listed.getD j false) ds.length) (foldH (Rk rs) H0 (fun j => listed.getD j false) ds.length)) →
    wpAny P .any ops Q fuel listed a w := by
  have hn : ds.length = ops.size := hd.1
  -- all is listed when nothing is ready
  have hend : ∀ (listed : Array Bool) ρ F a w, listed.size = ops.size → Region.ready .any ops listed = [] → (∀ j, listed.getD j false = true → j < ds.length → Lv j = true) →
      At SX W0 ρ0 F0 hh w0 dfs N ρ F (foldE (Dk ds) (Rk rs) G0 (fun j => listed.getD j false) ds.length) (foldH (Rk rs) H0 (fun j => listed.getD j false) ds.length) a w → Q .normal a w := by
    intro listed ρ F a w hsz hr hsub at_
    have hall : ∀ n j, j < n → j < ops.size → listed.getD j false = true := by
      intro n
      induction n with
      | zero => intro j h; omega
      | succ n ih =>
        intro j hj hjs
        cases hb : listed.getD j false with
        | true => rfl
        | false =>
          exfalso
          have : j ∈ Region.ready .any ops listed := by
            rw [mem_ready]
            have hj' : j < listed.size := by omega
            refine ⟨by simpa [Array.getD_eq_getD_getElem?, hj'] using hb, ops[j], by simp [hjs], fun e he hbd => ?_⟩
            obtain ⟨_, _, hsp⟩ := masks_spec hm
            have := (hsp j ops[j] (by simp [hjs])).1 e (by simpa using he) hbd
            simp only [List.length_nil, Nat.zero_add] at this
            exact ih e.on (by omega) (by omega)
          rw [hr] at this
          cases this
    have h1 : foldE (Dk ds) (Rk rs) G0 (fun j => listed.getD j false) ds.length = foldE (Dk ds) (Rk rs) G0 Lv ds.length := by
      funext s; exact foldE_congr fun j hj _ => by have e := hall (j + 1) j (by omega) (by omega); rw [hsub j e hj]; exact e
    have h2 : foldH (Rk rs) H0 (fun j => listed.getD j false) ds.length = foldH (Rk rs) H0 Lv ds.length := by
      funext s; exact foldH_congr fun j hj _ => by have e := hall (j + 1) j (by omega) (by omega); rw [hsub j e hj]; exact e
    rw [h1, h2] at at_
    exact hQ (fun j hj => hsub j (hall (j + 1) j (by omega) (by omega)) hj) ρ F a w at_
  intro fuel
  induction fuel with
  | zero =>
    intro listed T ρ F a w hsz hT hTm hc hsub at_ hf
    have : T = [] := List.eq_nil_of_length_eq_zero (by omega)
    subst this
    have hr : Region.ready .any ops listed = [] := by
      rw [List.eq_nil_iff_forall_not_mem]
      intro j hj
      rw [mem_ready] at hj
      obtain ⟨h1, o, ho, _⟩ := hj
      have hjs : j < ops.size := (Array.getElem?_eq_some_iff.1 ho).1
      have := hTm j hjs (by
        have hj' : j < listed.size := by omega
        simpa [Array.getD_eq_getD_getElem?, hj'] using h1)
      cases this
    exact ⟨hr, hend listed ρ F a w hsz hr hsub at_⟩
  | succ fuel ih =>
    intro listed T ρ F a w hsz hT hTm hc hsub at_ hf
    refine ⟨fun hr => hend listed ρ F a w hsz hr hsub at_, fun i hi => ?_⟩
    rw [mem_ready] at hi
    obtain ⟨hi1, o, ho, hed⟩ := hi
    have hio : i < ops.size := (Array.getElem?_eq_some_iff.1 ho).1
    have hil : i < listed.size := by omega
    have hi0 : listed.getD i false = false := by simpa [Array.getD_eq_getD_getElem?, hil] using hi1
    have hin : i < ds.length := by omega
    generalize hS : (fun j => listed.getD j false) = S at *
    have hSi : S i = false := by rw [← hS]; exact hi0
    have hanc : ∀ j, Nat.testBit (ms.getD i 0) j = true → S j = true := anc_ready hm hc ho (fun e he hb => by rw [← hS]; exact hed e he hb)
    have hsub' : ∀ j, S j = true → j < ds.length → Lv j = true := fun j hj => hsub j (by rw [← hS] at hj; exact hj)
    by_cases hLi : Lv i = true
    case neg =>
      exact hbad i o S hin (by simpa using hLi) ho hSi hc hsub' hanc (fun j hj hjS => hf j hj (by rw [← hS] at hjS; exact hjS)) ρ F a w _ at_
    have hafter : ∀ j, Nat.testBit (ms.getD j 0) i = true → S j = false := fun j hj => by
      cases hb : S j with
      | false => rfl
      | true =>
        have := anc_closed hm hc _ j (Nat.lt_succ_self _) hb i hj
        rw [hSi] at this
        cases this
    have hsf : ∀ j k, j < k → k < ds.length → slotFree (Dk ds j) (Dk ds k) = true ∨ Nat.testBit (ms.getD k 0) j = true := fun j k hjk hk => by
      obtain ⟨m, h1, h2⟩ := slotAll_spec hsl k ds[k] (by simp [hk])
      have := h2 j ds[j] (by simpa using hjk) (by simp)
      simpa [Dk, List.getD_eq_getElem?_getD, hk, show j < ds.length by omega, h1] using this
    have htf : ∀ j k, j < k → k < ds.length → tokFree (Rk rs j) (Rk rs k) = true ∨ Nat.testBit (ms.getD k 0) j = true := fun j k hjk hk => by
      have hk' : k < rs.length := by omega
      obtain ⟨m, h1, h2⟩ := tokAll_spec htk k rs[k] (by simp [hk'])
      have := h2 j rs[j] (by simpa using hjk) (by simp)
      simpa [Rk, List.getD_eq_getElem?_getD, hk', show j < rs.length by omega, h1] using this
    have hE : ∀ s ∈ looks (Dk ds i), foldE (Dk ds) (Rk rs) G0 S ds.length s = foldE (Dk ds) (Rk rs) G0 Lv i s := fun s hs => by
      have hcut := congrFun (foldE_cut (Lv := Lv) (D := Dk ds) (R := Rk rs) (g0 := G0) (i := i) (k := ds.length)) s
      rw [show min ds.length i = i by omega] at hcut
      rw [← hcut]
      refine foldE_congr fun j hj hds => ?_
      rcases Nat.lt_trichotomy j i with h1 | h1 | h1
      · have e := hanc j ((hsf j i h1 hin).resolve_left fun hfree => ((slotFree_spec hfree s).1 hds).1 hs)
        rw [decide_eq_true h1, e, hsub' j e hj]; rfl
      · subst h1; rw [hSi]; simp
      · rw [decide_eq_false (by omega), Bool.and_false]
        exact hafter j ((hsf i j h1 hj).resolve_left fun hfree => (slotFree_spec hfree s).2 hds hs)
    have tf : ∀ {x y : Option Eff}, tokFree x y = true → ∀ t ∈ (resUpds x).names, t ∉ resReads y ∧ t ∉ (resUpds y).names := fun h t ht => by
      simp only [tokFree, Bool.and_eq_true, disj_iff] at h
      exact ⟨h.1.1 t ht, h.1.2 t ht⟩
    have tf2 : ∀ {x y : Option Eff}, tokFree x y = true → ∀ t ∈ (resUpds y).names, t ∉ resReads x := fun h t ht => by
      simp only [tokFree, Bool.and_eq_true, disj_iff] at h
      exact h.2 t ht
    have hH : ∀ t ∈ resReads (Rk rs i), foldH (Rk rs) H0 S ds.length t = foldH (Rk rs) H0 Lv i t := fun t hs => by
      have hcut := congrFun (foldH_cut (Lv := Lv) (R := Rk rs) (h0 := H0) (i := i) (k := ds.length)) t
      rw [show min ds.length i = i by omega] at hcut
      rw [← hcut]
      refine foldH_congr fun j hj hds => ?_
      rcases Nat.lt_trichotomy j i with h1 | h1 | h1
      · have e := hanc j ((htf j i h1 hin).resolve_left fun hfree => (tf hfree t hds).1 hs)
        rw [decide_eq_true h1, e, hsub' j e hj]; rfl
      · subst h1; rw [hSi]; simp
      · rw [decide_eq_false (by omega), Bool.and_false]
        exact hafter j ((htf i j h1 hj).resolve_left fun hfree => tf2 hfree t hds hs)
    have hSset : ∀ j, (listed.setIfInBounds i true).getD j false = if j = i then true else S j := fun j => by
      by_cases e : j = i
      · subst e; simp [hil]
      · rw [if_neg e, getD_set_ne false (Ne.symm e), ← hS]
    have hE2 : foldE (Dk ds) (Rk rs) G0 (fun j => (listed.setIfInBounds i true).getD j false) ds.length = setEnv (foldE (Dk ds) (Rk rs) G0 S ds.length) (Dk ds i).dst (resVal (Rk rs i)) := by
      funext s
      by_cases hds : (Dk ds i).dst = some s
      · rw [hds, setEnv_eq]
        refine foldE_last hin (by rw [hSset, if_pos rfl]) hds fun j h1 h2 h3 => ?_
        rw [hSset, if_neg (by omega)]
        exact hafter j ((hsf i j h1 h2).resolve_left fun hfree => ((slotFree_spec hfree s).1 hds).2 h3)
      · rw [setEnv_ne hds]
        refine foldE_congr fun j _ hj => ?_
        rw [hSset, if_neg]
        rintro rfl
        exact hds hj
    have hH2 : foldH (Rk rs) H0 (fun j => (listed.setIfInBounds i true).getD j false) ds.length = (resUpds (Rk rs i)).app (foldH (Rk rs) H0 S ds.length) := by
      funext t
      by_cases hds : t ∈ (resUpds (Rk rs i)).names
      · refine foldH_last hin (by rw [hSset, if_pos rfl]) hds fun j h1 h2 h3 => ?_
        rw [hSset, if_neg (by omega)]
        exact hafter j ((htf i j h1 h2).resolve_left fun hfree => (tf hfree t hds).2 h3)
      · rw [app_notin hds]
        refine foldH_congr fun j _ hj => ?_
        rw [hSset, if_neg]
        rintro rfl
        exact hds hj
    obtain ⟨hs1, hs2⟩ := hst i hin hLi
    have hstep : opStep P Γ (Dk ds i) (foldE (Dk ds) (Rk rs) G0 S ds.length) (foldH (Rk rs) H0 S ds.length) = some (Rk rs i) := opStep_congr hs1 hE hH
    have hget : ∀ j, j < ds.length → ds[j]? = some (Dk ds j) := fun j hj => by simp [Dk, List.getD_eq_getElem?_getD, hj]
    obtain ⟨⟨o', ho', hdig⟩, hN⟩ := hd.2 i _ (hget i hin)
    rw [ho] at ho'
    cases ho'
    have hfl : madeOf (Dk ds i) (foldE (Dk ds) (Rk rs) G0 S ds.length) (Rk rs i) = madeOf (Dk ds i) (foldE (Dk ds) (Rk rs) G0 Lv i) (Rk rs i) := made_congr hE
    have hfi : FreshOp (Dk ds i) (foldE (Dk ds) (Rk rs) G0 S ds.length) (foldH (Rk rs) H0 S ds.length) (Rk rs i) := fun t ht => hf i hin (by rw [← hS] at hSi; exact hSi) t (by rw [← hfl]; exact ht)
    refine oper_at hΓ ho hdig at_ hstep hfi hN (hSX _ (List.mem_of_getElem? (hget i hin))) (fun _ ρ' F' a' w' at' => ?_) (fun hp => by rw [hs2] at hp; cases hp)
    rw [← hE2, ← hH2] at at'
    refine ih (listed.setIfInBounds i true) (T.erase i) ρ' F' a' w' (by simp [hsz]) ?_ ?_ ?_ ?_ at' ?_
    · have : i ∈ T := hTm i hio hi0
      rw [List.length_erase_of_mem this]
      have := List.length_pos_of_mem this
      omega
    · intro j hj hjl
      rw [hSset] at hjl
      by_cases e : j = i
      · rw [if_pos e] at hjl; cases hjl
      · rw [if_neg e] at hjl
        exact (List.mem_erase_of_ne e).2 (hTm j hj (by rw [← hS] at hjl; exact hjl))
    · intro j oj hoj hj e he hb
      have hSj : (fun j => (listed.setIfInBounds i true).getD j false) j = if j = i then true else S j := hSset j
      have hSe : (fun j => (listed.setIfInBounds i true).getD j false) e.on = if e.on = i then true else S e.on := hSset e.on
      rw [hSj] at hj
      rw [hSe]
      by_cases h1 : e.on = i
      · rw [if_pos h1]
      · rw [if_neg h1]
        by_cases h2 : j = i
        · subst h2
          rw [ho] at hoj
          cases hoj
          rw [← hS]
          exact hed e he hb
        · rw [if_neg h2] at hj
          exact hc j oj hoj hj e he hb
    · intro j hj hjn
      rw [hSset] at hj
      by_cases e : j = i
      · subst e; exact hLi
      · rw [if_neg e] at hj; exact hsub' j hj hjn
    · intro j hj hjl n hn
      rw [hSset] at hjl
      by_cases e : j = i
      · rw [if_pos e] at hjl; cases hjl
      · rw [if_neg e] at hjl
        rw [hE2, hH2]
        refine fresh_step (opStep_digs hdig) at_.inv hstep (hf j hj (by rw [← hS] at hjl; exact hjl) n hn) ?_
        rw [hfl]
        exact hdist j i n hj hin e hn

theorem at_drawn {n : Nat} {g : Env} {h : Hp} {ρ : Rho} {F : Nat → Prop} {a : Act} {w : World} (at_ : At SX W0 ρ0 F0 hh w0 dfs N ρ F g h a w) : At SX W0 ρ0 F0 hh w0 dfs N ρ F g h a { w with drawn := n } := by
  have k : Keep (fun _ => True) ρ F h w ρ F h { w with drawn := n } :=
    ⟨fun _ h => h, fun _ _ => rfl, fun t _ hn => ⟨hn, fun _ h => h⟩, fun t m _ hm => ⟨m, hm, Nat.le_refl _, fun _ b hb => ⟨hb, fun k hk => hk⟩⟩⟩
  have r := at_.inv.rel
  have r' : Rel W0 ρ F h { w with drawn := n } := ⟨r.base, fun t o ho => RepO.keep k rfl (fun _ _ _ => rfl) (fun _ _ => trivial) (r.obj t o ho), r.fin, r.sep, r.inj⟩
  exact ⟨⟨r', fun s => RepV.keep k _ _ (fun _ _ => trivial) (at_.inv.env s), at_.inv.size⟩,
    at_.good.trans ⟨r', k.weaken fun _ _ => trivial, ⟨rfl, rfl, rfl, Nat.le_refl _, fun _ _ _ => rfl, fun _ h => h, fun _ _ h => .inl h, fun _ _ h => h⟩⟩, at_.dfs⟩

theorem anc_lt {ops : Array Oper} {ms : List Nat} (hm : masks [] ops.toList = some ms) : ∀ (n k : Nat), k < n → ∀ j, Nat.testBit (ms.getD k 0) j = true → j < k
  | 0, k, hk, _, _ => by omega
  | n + 1, k, hk, j, hj => by
    obtain ⟨_, hlen, hsp⟩ := masks_spec hm
    cases ho : ops.toList[k]? with
    | none =>
      have : ms[k]? = none := by
        rw [List.getElem?_eq_none_iff] at ho ⊢
        simp only [List.length_nil] at hlen
        omega
      rw [List.getD_eq_getElem?_getD, this] at hj
      simp at hj
    | some o =>
      obtain ⟨h1, m, h2, h3⟩ := hsp k o ho
      simp only [List.length_nil, Nat.zero_add] at h1 h2
      rw [List.getD_eq_getElem?_getD, h2] at hj
      obtain ⟨e, he, hb, hor⟩ := h3 j hj
      have hlt := h1 e he hb
      rcases hor with rfl | hor
      · exact hlt
      · have := anc_lt hm n e.on (by omega) j hor; omega

theorem updsOk_spec {p m : Nat} : ∀ {rs : List (Option Eff)} {k : Nat}, updsOk p m k rs = true → ∀ j, j < rs.length → k + j = p ∨ resUpds (rs.getD j none) = [] ∨ Nat.testBit m (k + j) = true
  | [], _, _, j, hj => by simp at hj
  | r :: rs, k, h, j, hj => by
    simp only [updsOk, Bool.and_eq_true, Bool.or_eq_true] at h
    cases j with
    | zero =>
      rcases h.1 with h1 | h1
      · exact .inl (Nat.eq_of_beq_eq_true h1)
      · refine .inr ?_
        simp only [List.getD_cons_zero, Nat.add_zero]
        split at h1
        · rename_i hu; exact .inl hu
        · exact .inr h1
    | succ j =>
      have := updsOk_spec h.2 j (by simpa using hj)
      rw [show k + 1 + j = k + (j + 1) by omega] at this
      simpa using this

theorem dropSlots_get {ds : List DOper} : ∀ {g : EnvL} (n : Nat), (dropSlots ds g).get n = .any ∨ ((dropSlots ds g).get n = g.get n ∧ ((∀ d ∈ ds, d.dst ≠ some n) ∨ g.get n = .any))
  | [], n => .inr ⟨rfl, .inr rfl⟩
  | (k, v) :: l, n => by
    simp only [dropSlots]
    split
    · rename_i hany
      simp only [EnvL.get]
      cases hb : Nat.beq n k with
      | true => exact .inl rfl
      | false => exact dropSlots_get n
    · rename_i hany
      simp only [EnvL.get]
      cases hb : Nat.beq n k with
      | true =>
        have := Nat.eq_of_beq_eq_true hb
        subst this
        refine .inr ⟨rfl, .inl fun d hd hdn => ?_⟩
        have : (ds.any fun d => match d.dst with | some n' => Nat.beq n' n | none => false) = true := List.any_eq_true.2 ⟨d, hd, by rw [hdn]; exact Nat.beq_refl n⟩
        rw [this] at hany
        cases hany
      | false => exact dropSlots_get n

theorem foldE_none {D : Nat → DOper} {R : Nat → Option Eff} {g0 : Env} {S : Nat → Bool} {n : Nat} : ∀ {k : Nat}, (∀ j, j < k → (D j).dst ≠ some n) → foldE D R g0 S k n = g0 n
  | 0, _ => rfl
  | k + 1, h => by
    simp only [foldE]
    cases S k with
    | true => simp only; rw [setEnv_ne (h k (by omega))]; exact foldE_none fun j hj => h j (by omega)
    | false => exact foldE_none fun j hj => h j (by omega)

/-- A region in any order. -/
theorem draw_sound (hΓ : ∀ f sp, Γ f = some sp → FnOk P W0 f sp) (hmix : P.follows .mixedOrders = true) {id : Nat} {ops : Array Oper} (hd : DigOps P ops N ds) (hSX : ∀ d ∈ ds, ∀ n, d.dst = some n → n ∉ SX) {ms : List Nat} (hm : masks [] ops.toList = some ms) (hsl : slotAll [] ms ds = true)
    {g : EnvL} {h : Hl} {r : RR} (hr : drawRun P Γ ds ms g h = some r) {ρ : Rho} {F : Nat → Prop} {a : Act} {w : World} (at_ : At SX W0 ρ0 F0 hh w0 dfs N ρ F g.get h.get a w) {Q : Exit → Act → World → Prop}
    (hQ : ∀ g' h', r = .ok g' h' → ∀ ρ' F' a' w', At SX W0 ρ0 F0 hh w0 dfs N ρ' F' g'.get h'.get a' w' → Q .normal a' w')
    (hP : ∀ d g' h', r = .pnc d g' h' → ∀ ρ' F' v a' w', AtP SX W0 ρ0 F0 hh w0 dfs N ρ' F' g'.get h'.get d v a' w' → Q (.panic [{ v, recovered := false }]) a' w') : (Code.region id ops true).wp P Q a w := by
  unfold drawRun at hr
  split at hr
  · rename_i rs fs pf g' h' ht
    split at hr
    · rename_i cr htk hfl
      split at hr
      · rename_i hfresh
        have hsp := trace_spec (ds := ds) (rs := rs) (fs := fs) (ms := ms) (G0 := g.get) (H0 := h.get) (rest := ds) (i := 0) (p := none) (by simp) (by simp) (by simp) (fun q hq => by cases hq) ht (by simp) (by simp) rfl rfl
        obtain ⟨h1, h2, h3, h4⟩ := hsp
        have hpf := (trace_pf ht).2 rfl
        obtain ⟨_, f2, f3⟩ := flags_spec hfl
        have hnone : ∀ j, (Array.replicate ops.size false).getD j false = false := fun j => by
          rw [Array.getD_eq_getD_getElem?, Array.getElem?_replicate]
          split <;> rfl
        have hS0 : (fun j => (Array.replicate ops.size false).getD j false) = fun _ => false := funext hnone
        have hE0 : ∀ k, foldE (Dk ds) (Rk rs) g.get (fun _ => false) k = g.get := fun k => by
          induction k with
          | zero => rfl
          | succ k ih => simpa only [foldE] using ih
        have hH0 : ∀ k, foldH (Rk rs) h.get (fun _ => false) k = h.get := fun k => by
          induction k with
          | zero => rfl
          | succ k ih => simpa only [foldH] using ih
        have hget : ∀ j, j < ds.length → ds[j]? = some (Dk ds j) := fun j hj => by simp [Dk, List.getD_eq_getElem?_getD, hj]
        refine wp_region_any hmix ?_
        refine any_sound (ds := ds) (rs := rs) (G0 := g.get) (H0 := h.get) (Lv := live pf ms) (ρ0 := ρ0) (F0 := F0) (hh := hh) (w0 := w0) (dfs := dfs) hΓ hd hSX hm hsl htk h1 (fun k hk hl => (h2 k (by omega) hk).1 hl) ?_ ?_ (fun hall ρ' F' a' w' at' => ?_) ops.size _ (List.range ops.size) ρ F a _ (by simp) (by simp) (fun j hj _ => by simpa using hj) ?_ ?_ ?_ ?_
        · intro i j n hi hj hij hn hn2
          have e1 := (h2 i (by omega) hi).2.2
          have e2 := (h2 j (by omega) hj).2.2
          rcases Nat.lt_or_gt_of_ne hij with hlt | hlt
          · exact f3 i j _ _ e1 e2 hlt n hn hn2
          · exact f3 j i _ _ e2 e1 hlt n hn2 hn
        · -- one that is not carried out beside the others: it is the one that panics
          intro i o S hin hLi ho hSi hc hsub hanc hfr ρ1 F1 a1 w1 K at1
          cases hpfc : pf with
          | none => rw [hpfc] at hLi; cases hLi
          | some p =>
            have hpn : p < ds.length := by have := (hpf p hpfc).2; omega
            have hLp : live pf ms p = false := by rw [hpfc]; simp [live]
            have hSp : S p = false := by
              cases hb : S p with
              | false => rfl
              | true => have := hsub p hb hpn; rw [hLp] at this; cases this
            have hip : i = p := by
              rw [hpfc] at hLi
              simp only [live, Bool.and_eq_false_iff, Bool.not_eq_false'] at hLi
              rcases hLi with h5 | h5
              · exact Nat.eq_of_beq_eq_true h5
              · simp only [Bool.and_eq_true] at h5
                have := hanc p h5.2
                rw [hSp] at this
                cases this
            subst hip
            obtain ⟨hpan, hstep⟩ := (h2 i (by omega) hpn).2.1 rfl hpfc
            have hafter : ∀ j, Nat.testBit (ms.getD j 0) i = true → S j = false := fun j hj => by
              cases hb : S j with
              | false => rfl
              | true =>
                have := anc_closed hm hc _ j (Nat.lt_succ_self _) hb i hj
                rw [hSi] at this
                cases this
            have hsf : ∀ j k, j < k → k < ds.length → slotFree (Dk ds j) (Dk ds k) = true ∨ Nat.testBit (ms.getD k 0) j = true := fun j k hjk hk => by
              obtain ⟨m, h1, h2⟩ := slotAll_spec hsl k ds[k] (by simp [hk])
              have := h2 j ds[j] (by simpa using hjk) (by simp)
              simpa [Dk, List.getD_eq_getElem?_getD, hk, show j < ds.length by omega, h1] using this
            have htf : ∀ j k, j < k → k < ds.length → tokFree (Rk rs j) (Rk rs k) = true ∨ Nat.testBit (ms.getD k 0) j = true := fun j k hjk hk => by
              have hk' : k < rs.length := by omega
              obtain ⟨m, h1, h2⟩ := tokAll_spec htk k rs[k] (by simp [hk'])
              have := h2 j rs[j] (by simpa using hjk) (by simp)
              simpa [Rk, List.getD_eq_getElem?_getD, hk', show j < rs.length by omega, h1] using this
            have hE : ∀ s ∈ looks (Dk ds i), foldE (Dk ds) (Rk rs) g.get S ds.length s = foldE (Dk ds) (Rk rs) g.get (live pf ms) i s := fun s hs => by
              have hcut := congrFun (foldE_cut (Lv := live pf ms) (D := Dk ds) (R := Rk rs) (g0 := g.get) (i := i) (k := ds.length)) s
              rw [show min ds.length i = i by omega] at hcut
              rw [← hcut]
              refine foldE_congr fun j hj hds => ?_
              rcases Nat.lt_trichotomy j i with h1 | h1 | h1
              · have e := hanc j ((hsf j i h1 hin).resolve_left fun hfree => ((slotFree_spec hfree s).1 hds).1 hs)
                rw [decide_eq_true h1, e, hsub j e hj]; rfl
              · subst h1; rw [hSi]; simp
              · rw [decide_eq_false (by omega), Bool.and_false]
                exact hafter j ((hsf i j h1 hj).resolve_left fun hfree => (slotFree_spec hfree s).2 hds hs)
            have tf : ∀ {x y : Option Eff}, tokFree x y = true → ∀ t ∈ (resUpds x).names, t ∉ resReads y := fun h t ht => by
              simp only [tokFree, Bool.and_eq_true, disj_iff] at h
              exact h.1.1 t ht
            have tf2 : ∀ {x y : Option Eff}, tokFree x y = true → ∀ t ∈ (resUpds y).names, t ∉ resReads x := fun h t ht => by
              simp only [tokFree, Bool.and_eq_true, disj_iff] at h
              exact h.2 t ht
            have hH : ∀ t ∈ resReads (Rk rs i), foldH (Rk rs) h.get S ds.length t = foldH (Rk rs) h.get (live pf ms) i t := fun t hs => by
              have hcut := congrFun (foldH_cut (Lv := live pf ms) (R := Rk rs) (h0 := h.get) (i := i) (k := ds.length)) t
              rw [show min ds.length i = i by omega] at hcut
              rw [← hcut]
              refine foldH_congr fun j hj hds => ?_
              rcases Nat.lt_trichotomy j i with h1 | h1 | h1
              · have e := hanc j ((htf j i h1 hin).resolve_left fun hfree => tf hfree t hds hs)
                rw [decide_eq_true h1, e, hsub j e hj]; rfl
              · subst h1; rw [hSi]; simp
              · rw [decide_eq_false (by omega), Bool.and_false]
                exact hafter j ((htf i j h1 hj).resolve_left fun hfree => tf2 hfree t hds hs)
            have hstepS : opStep P Γ (Dk ds i) (foldE (Dk ds) (Rk rs) g.get S ds.length) (foldH (Rk rs) h.get S ds.length) = some (Rk rs i) := opStep_congr hstep hE hH
            obtain ⟨⟨o', ho', hdig⟩, hN⟩ := hd.2 i _ (hget i hin)
            rw [ho] at ho'
            cases ho'
            have hfl' : madeOf (Dk ds i) (foldE (Dk ds) (Rk rs) g.get S ds.length) (Rk rs i) = madeOf (Dk ds i) (foldE (Dk ds) (Rk rs) g.get (live pf ms) i) (Rk rs i) := made_congr hE
            have hfi : FreshOp (Dk ds i) (foldE (Dk ds) (Rk rs) g.get S ds.length) (foldH (Rk rs) h.get S ds.length) (Rk rs i) := fun t ht => hfr i hin hSi t (by rw [← hfl']; exact ht)
            refine oper_at hΓ ho hdig at1 hstepS hfi hN (hSX _ (List.mem_of_getElem? (hget i hin))) (fun hp => by rw [hpan] at hp; cases hp) (fun _ ρ' F' v a' w' at' => ?_)
            -- what was computed for it
            rw [hpfc] at hr
            simp only at hr
            split at hr
            · rename_i e hup he
              split at hr
              · rename_i dv hdv
                cases hr
                have hRe : Rk rs i = some e := he
                have hheap : foldH (Rk rs) h.get S ds.length = foldH (Rk rs) h.get (live pf ms) ds.length := by
                  funext t
                  refine foldH_congr fun j hj hds => ?_
                  rcases updsOk_spec hup j (by omega) with h5 | h5 | h5
                  · rw [Nat.zero_add] at h5; subst h5; rw [hSi, hLp]
                  · rw [show Rk rs j = rs.getD j none from rfl, h5] at hds; simp [Hl.names] at hds
                  · rw [Nat.zero_add] at h5
                    have e := hanc j h5
                    rw [e, hsub j e hj]
                refine hP _ _ _ rfl ρ' F' v a' w' ⟨fun n => ?_, at'.size, ?_, ?_, at'.dfs⟩
                · rw [Hl.get_upd, h4, ← hheap]
                  have henv := at'.env n
                  rw [hRe] at henv
                  rcases dropSlots_get (ds := ds) (g := g) n with h5 | ⟨h5, h6⟩
                  · rw [h5]; simp [RepV]
                  · rw [h5]
                    rcases h6 with h6 | h6
                    · rw [foldE_none fun j hj => h6 _ (List.mem_of_getElem? (hget j hj))] at henv
                      exact henv
                    · rw [h6]; simp [RepV]
                · have := at'.good
                  rw [hRe] at this
                  rw [Hl.get_upd, h4, ← hheap]
                  exact this
                · have := at'.rep
                  rw [hRe] at this
                  simp only [resVal, hdv, Out.dv] at this
                  rw [Hl.get_upd, h4, ← hheap]
                  exact this
              · cases hr
            · cases hr
        · cases hpfc : pf with
          | some p =>
            have hpn : p < ds.length := by have := (hpf p hpfc).2; omega
            have := hall p hpn
            rw [hpfc] at this
            simp [live] at this
          | none =>
            rw [hpfc] at hr
            cases hr
            rw [← h3, ← h4] at at'
            exact hQ _ _ rfl ρ' F' a' w' at'
        · intro i o _ hi
          simp only [hnone] at hi
          cases hi
        · intro j hj
          rw [hnone] at hj
          cases hj
        · rw [hS0, hE0, hH0]
          exact at_drawn at_
        · intro j hj _ n hn
          rw [hS0, hE0, hH0]
          exact freshN_at hfresh (f2 j _ (h2 j (by omega) hj).2.2 n hn).1
      · cases hr
    · cases hr
  · cases hr
end
end Go.Di
