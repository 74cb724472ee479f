/- Operations that came later. -/
import Derived.Test.YtnmjgpnidpgimaaGreatDoorDiDig
namespace Go.Di
open Go.RowKit
set_option linter.unusedSectionVars false
set_option linter.unusedSimpArgs false
set_option linter.unusedVariables false

def nilVal : NK → Value
  | .slice => .slice none 0 0
  | .ptr => .pointer none
  | .map => .map none
  | .func => .nilFunc
  | .iface => .nilIface

section
variable {P : Program} {W0 : World} {T : Tok → Prop} {ρ : Rho} {F : Nat → Prop} {h : Hp} {w : World}

theorem nil_slice {t : TypeId} (ht : nilTy P t .slice = true) (A : Option Addr) (n c : Nat) : (Op.equal t (.slice A n c) (.slice none 0 0)).run P w = .ok A.isNone w := by
  simp only [nilTy] at ht
  split at ht
  · rename_i e he
    unfold Op.equal Op.maxDepth
    rw [Op.equalIn]
    simp only [Sem.run_bind, run_underlying he, Result.andThen_ok]
    cases A <;> rfl
  · cases ht

theorem nil_ptr {t : TypeId} (ht : nilTy P t .ptr = true) (A : Option Addr) : (Op.equal t (.pointer A) (.pointer none)).run P w = .ok A.isNone w := by
  simp only [nilTy] at ht
  split at ht
  · rename_i e he
    unfold Op.equal Op.maxDepth
    rw [Op.equalIn]
    simp only [Sem.run_bind, run_underlying he, Result.andThen_ok]
    cases A <;> rfl
  · cases ht

theorem nil_map {t : TypeId} (ht : nilTy P t .map = true) (A : Option Nat) : (Op.equal t (.map A) (.map none)).run P w = .ok A.isNone w := by
  simp only [nilTy] at ht
  split at ht
  · rename_i k e he
    unfold Op.equal Op.maxDepth
    rw [Op.equalIn]
    simp only [Sem.run_bind, run_underlying he, Result.andThen_ok]
    cases A <;> rfl
  · cases ht

theorem nil_func {t : TypeId} (ht : nilTy P t .func = true) : (Op.equal t .nilFunc .nilFunc).run P w = .ok true w ∧ ∀ f a b, (Op.equal t (.func f a b) .nilFunc).run P w = .ok false w := by
  simp only [nilTy] at ht
  split at ht
  · rename_i e1 e2 e3 he
    refine ⟨?_, fun f a b => ?_⟩ <;>
    · unfold Op.equal Op.maxDepth
      rw [Op.equalIn]
      simp only [Sem.run_bind, run_underlying he, Result.andThen_ok]
      rfl
  · cases ht

theorem nil_iface {t : TypeId} (ht : nilTy P t .iface = true) : (Op.equal t .nilIface .nilIface).run P w = .ok true w ∧ ∀ u v, (Op.equal t (.iface u v) .nilIface).run P w = .ok false w := by
  simp only [nilTy] at ht
  split at ht
  · rename_i e he
    refine ⟨?_, fun u v => ?_⟩ <;>
    · unfold Op.equal Op.maxDepth
      rw [Op.equalIn]
      simp only [Sem.run_bind, run_underlying he, Result.andThen_ok]
      rfl
  · cases ht

theorem nilOf_run {t : TypeId} {nk : NK} (ht : nilTy P t nk = true) {x : DV} {b : Bool} {ts : List Tok} (hn : nilOf h nk x = some (b, ts)) {xv : Value} (hx : RepV ρ F h w x xv) :
    (Op.equal t xv (nilVal nk)).run P w = .ok b w ∧ (∀ k n, xv ≠ .int k n) ∧ (∀ k n, xv ≠ .float k n) ∧ (∀ k n m, xv ≠ .complex k n m) ∧ ∀ s, xv ≠ .string s := by
  cases nk with
  | slice =>
    cases x with
    | lst sz xs k =>
      simp only [RepV] at hx
      obtain ⟨A, c, rfl, h1, h2, h3, _, _, h4⟩ := hx
      refine ⟨?_, (fun _ _ h => by cases h), (fun _ _ h => by cases h), (fun _ _ _ h => by cases h), (fun _ h => by cases h)⟩
      show (Op.equal t (.slice A xs.length c) (.slice none 0 0)).run P w = _
      rw [nil_slice ht]
      cases xs with
      | cons y ys =>
        simp only [nilOf, Option.some.injEq, Prod.mk.injEq] at hn
        obtain ⟨rfl, _⟩ := hn
        obtain ⟨bb, off, rfl, _⟩ := h4 (by simp)
        rfl
      | nil =>
        cases k <;> simp [nilOf] at hn
        · obtain ⟨rfl, _⟩ := hn; rw [(h2 rfl).1]; rfl
        · obtain ⟨rfl, _⟩ := hn; rw [h3.2.1 rfl]; rfl
        · obtain ⟨rfl, _⟩ := hn
          cases A with
          | none => exact absurd rfl (h3.2.2 rfl)
          | some _ => rfl
    | row sz tk n off len =>
      simp only [nilOf] at hn
      split at hn
      · rename_i hc
        cases hn
        simp only [RepV] at hx
        obtain ⟨A, c, rfl, h1, h2⟩ := hx
        obtain ⟨_, h3⟩ := h2 n hc.1
        obtain ⟨_, h4⟩ := h3 rfl
        obtain ⟨bb, _, rfl, _⟩ := h4 (by omega)
        refine ⟨?_, (fun _ _ h => by cases h), (fun _ _ h => by cases h), (fun _ _ _ h => by cases h), (fun _ h => by cases h)⟩
        show (Op.equal t (.slice _ len c) (.slice none 0 0)).run P w = _
        rw [nil_slice ht]; rfl
      · cases hn
    | _ => simp [nilOf] at hn
  | ptr =>
    have fin : ∀ {A : Option Addr}, xv = .pointer A → b = A.isNone → (Op.equal t xv (nilVal .ptr)).run P w = .ok b w ∧ (∀ k n, xv ≠ .int k n) ∧ (∀ k n, xv ≠ .float k n) ∧ (∀ k n m, xv ≠ .complex k n m) ∧ ∀ s, xv ≠ .string s := fun {A} e1 e2 => by
      subst e1 e2
      exact ⟨nil_ptr ht A, (fun _ _ h => by cases h), (fun _ _ h => by cases h), (fun _ _ _ h => by cases h), (fun _ h => by cases h)⟩
    cases x with
    | sc v =>
      simp only [RepV] at hx
      obtain ⟨rfl, _⟩ := hx
      cases xv with
      | pointer a => cases a with
        | none => simp [nilOf] at hn; exact fin rfl (by simp [hn.1])
        | some _ => simp [nilOf] at hn
      | _ => simp [nilOf] at hn
    | ptr tk o =>
      simp only [nilOf] at hn
      split at hn
      · rename_i hc
        cases hn
        simp only [RepV] at hx
        obtain ⟨bb, _, e⟩ := hx.2 hc
        exact fin e rfl
      · cases hn
    | rptr sz tk n i r =>
      simp only [nilOf] at hn
      split at hn
      · rename_i hc
        cases hn
        simp only [RepV] at hx
        obtain ⟨_, _, bb, _, e⟩ := (hx.2 n hc).2 rfl
        exact fin e rfl
      · cases hn
    | pref cs =>
      simp only [nilOf, Option.some.injEq, Prod.mk.injEq] at hn
      simp only [RepV] at hx
      obtain ⟨bb, off, e, _⟩ := hx
      exact fin e hn.1.symm
    | _ => simp [nilOf] at hn
  | map =>
    have fin : ∀ {A : Option Nat}, xv = .map A → b = A.isNone → (Op.equal t xv (nilVal .map)).run P w = .ok b w ∧ (∀ k n, xv ≠ .int k n) ∧ (∀ k n, xv ≠ .float k n) ∧ (∀ k n m, xv ≠ .complex k n m) ∧ ∀ s, xv ≠ .string s := fun {A} e1 e2 => by
      subst e1 e2
      exact ⟨nil_map ht A, (fun _ _ h => by cases h), (fun _ _ h => by cases h), (fun _ _ _ h => by cases h), (fun _ h => by cases h)⟩
    cases x with
    | sc v =>
      simp only [RepV] at hx
      obtain ⟨rfl, _⟩ := hx
      cases xv with
      | map a => cases a with
        | none => simp [nilOf] at hn; exact fin rfl (by simp [hn.1])
        | some _ => simp [nilOf] at hn
      | _ => simp [nilOf] at hn
    | map tk =>
      simp only [nilOf] at hn
      split at hn
      · rename_i hc
        cases hn
        simp only [RepV] at hx
        obtain ⟨bb, _, e⟩ := hx.2 hc
        exact fin e rfl
      · cases hn
    | _ => simp [nilOf] at hn
  | func =>
    cases x with
    | sc v =>
      simp only [RepV] at hx
      obtain ⟨rfl, _⟩ := hx
      cases xv with
      | nilFunc =>
        simp [nilOf] at hn
        obtain ⟨rfl, _⟩ := hn
        exact ⟨(nil_func ht).1, (fun _ _ h => by cases h), (fun _ _ h => by cases h), (fun _ _ _ h => by cases h), (fun _ h => by cases h)⟩
      | _ => simp [nilOf] at hn
    | fn f a c =>
      simp [nilOf] at hn
      obtain ⟨rfl, _⟩ := hn
      simp only [RepV] at hx
      obtain ⟨u, v, rfl, _⟩ := hx
      exact ⟨(nil_func ht).2 _ _ _, (fun _ _ h => by cases h), (fun _ _ h => by cases h), (fun _ _ _ h => by cases h), (fun _ h => by cases h)⟩
    | _ => simp [nilOf] at hn
  | iface =>
    cases x with
    | sc v =>
      simp only [RepV] at hx
      obtain ⟨rfl, _⟩ := hx
      cases xv with
      | nilIface =>
        simp [nilOf] at hn
        obtain ⟨rfl, _⟩ := hn
        exact ⟨(nil_iface ht).1, (fun _ _ h => by cases h), (fun _ _ h => by cases h), (fun _ _ _ h => by cases h), (fun _ h => by cases h)⟩
      | _ => simp [nilOf] at hn
    | iface u v =>
      simp [nilOf] at hn
      obtain ⟨rfl, _⟩ := hn
      simp only [RepV] at hx
      obtain ⟨y, rfl, _⟩ := hx
      exact ⟨(nil_iface ht).2 _ _, (fun _ _ h => by cases h), (fun _ _ h => by cases h), (fun _ _ _ h => by cases h), (fun _ h => by cases h)⟩
    | _ => simp [nilOf] at hn

theorem nilKind_val {y : Operand} {nk : NK} (hy : nilKind y = some nk) : y = .const (nilVal nk) := by
  unfold nilKind at hy
  split at hy <;> first | (cases hy; rfl) | cases hy

theorem ok_isnil (r : Rel W0 ρ F h w) {op : BinOp} {neg : Bool} (hop : (match op with | .eql => some false | .neq => some true | _ => none) = some neg) {t : TypeId} {x y : Operand} {nk : NK} (hy : nilKind y = some nk) (ht : nilTy P t nk = true)
    {dx : DV} {b : Bool} {ts : List Tok} (hn : nilOf h nk dx = some (b, ts)) {a : Act} (hx : RepV ρ F h w dx (a.eval x)) :
    OpOk P W0 T ρ F h w ⟨.ret (.sc (.bool (if neg then !b else b))), ts, []⟩ (do eqGuard op t x y (a.eval x) (a.eval y); binOp op t (a.eval x) (a.eval y)) := by
  have hyv := nilKind_val hy
  subst hyv
  obtain ⟨h1, n1, n2, n3, n4⟩ := nilOf_run ht hn hx
  have hev : a.eval (.const (nilVal nk)) = nilVal nk := rfl
  rw [hev]
  generalize a.eval x = xv at *
  have hg : eqGuard op t x (.const (nilVal nk)) xv (nilVal nk) = pure () := by
    cases op <;> simp at hop <;> cases xv <;> cases nk <;> cases x <;> rfl
  refine OpOk.ret r (v := .bool (if neg then !b else b)) ?_ (by simp [RepV, plain])
  rw [hg]
  simp only [Sem.run_bind, Sem.run_pure, Result.andThen_ok]
  have hb : (neg = false → binOp op t xv (nilVal nk) = (do let e ← Op.equal t xv (nilVal nk); pure (.bool e))) ∧ (neg = true → binOp op t xv (nilVal nk) = (do let e ← Op.equal t xv (nilVal nk); pure (.bool (!e)))) := by
    cases op <;> simp at hop <;> subst hop <;> refine ⟨fun h => ?_, fun h => ?_⟩ <;> first
      | exact absurd h (by decide)
      | (cases xv <;> cases nk <;> rfl)
  cases neg with
  | false => rw [hb.1 rfl]; simp [h1]
  | true => rw [hb.2 rfl]; simp [h1]

/-! ## Maps -/
def kkTd : KK → TypeDesc → Bool
  | .str, .string => true
  | .int, .int _ => true
  | .bool, .bool => true
  | _, _ => false

theorem kkOf_run {t : TypeId} {kk : KK} (hk : kkOf P t = some kk) : ∃ td, P.underlying t = some td ∧ kkTd kk td = true := by
  unfold kkOf at hk
  split at hk <;> first | (cases hk; done) | skip
  · rename_i h; cases hk; exact ⟨_, h, rfl⟩
  · rename_i k h; cases hk; exact ⟨_, h, rfl⟩
  · rename_i h; cases hk; exact ⟨_, h, rfl⟩

theorem checkKey_run {t : TypeId} {kk : KK} (hk : kkOf P t = some kk) {k : Value} (hkk : keyOf kk k = true) (b : Bool) : (Instr.checkKey b 10000 t k).run P w = .ok () w := by
  obtain ⟨td, h1, h2⟩ := kkOf_run hk
  rw [show (10000 : Nat) = 9999 + 1 from rfl, Instr.checkKey]
  simp only [Sem.run_bind, run_underlying h1, Result.andThen_ok]
  cases kk <;> cases td <;> simp [kkTd] at h2 <;> cases k <;> simp [keyOf] at hkk <;> rfl

theorem bytes_beq (a b : ByteArray) : (a == b) = true ↔ a = b := by
  obtain ⟨x⟩ := a
  obtain ⟨y⟩ := b
  constructor
  · intro h
    have e : x = y := by simpa using (show (x == y) = true from h)
    rw [e]
  · intro h
    cases h
    show (x == x) = true
    simp

theorem keyEq_same {kk : KK} {td : TypeDesc} (h : kkTd kk td = true) (k q : Value) : Instr.sameNow td k q = keyEq kk k q := by
  cases kk <;> cases td <;> simp [kkTd] at h <;> cases k <;> cases q <;> simp [Instr.sameNow, keyEq]

theorem keyEq_true {kk : KK} {k q : Value} (h : keyEq kk k q = some true) : k = q := by
  cases kk <;> cases k <;> cases q <;> simp [keyEq] at h
  · rw [(bytes_beq _ _).1 h]
  · obtain ⟨h1, h2⟩ := h; subst h1 h2; rfl
  · subst h; rfl

theorem findNow_rep {kk : KK} {td : TypeDesc} (hkt : kkTd kk td = true) {k : Value} :
    ∀ {l : List (Value × DV × Nat)} {es : List MapEntry} {i : Nat} {r : Option (Nat × DV)}, RepM ρ F h w l es → findD kk k l i = some r →
    match r with
    | none => Instr.findNow td k es i = some none
    | some (j, d) => ∃ v, Instr.findNow td k es i = some (some (j, v)) ∧ RepV ρ F h w d v ∧ i ≤ j ∧ ∃ e, es[j - i]? = some e ∧ e.key = k
  | [], es, i, r, hr, hf => by
    simp only [RepM] at hr
    subst hr
    simp only [findD, Option.some.injEq] at hf
    subst hf
    rfl
  | (q, d, n) :: l, es, i, r, hr, hf => by
    simp only [RepM] at hr
    obtain ⟨e, es', rfl, hq, hn, hv, hr'⟩ := hr
    simp only [findD] at hf
    have hs := keyEq_same hkt k e.key
    rw [hq] at hs
    split at hf
    · rename_i hk
      cases hf
      refine ⟨e.val, ?_, hv, Nat.le_refl _, e, by simp, ?_⟩
      · simp only [Instr.findNow]; rw [hq, hs, hk]
      · rw [hq]; exact (keyEq_true hk).symm
    · rename_i hk
      have ih := findNow_rep hkt hr' hf
      have hstep : Instr.findNow td k (e :: es') i = Instr.findNow td k es' (i + 1) := by
        simp only [Instr.findNow]; rw [hq, hs, hk]
      cases r with
      | none => rw [hstep]; exact ih
      | some p =>
        obtain ⟨j, d'⟩ := p
        obtain ⟨v, h1, h2, h3, e', h4, h5⟩ := ih
        refine ⟨v, by rw [hstep]; exact h1, h2, by omega, e', ?_, h5⟩
        rw [show j - i = (j - (i + 1)) + 1 by omega]
        simpa using h4
    · cases hf

theorem findKey_run {kt : TypeId} {kk : KK} (hk : kkOf P kt = some kk) {k : Value} {l : List (Value × DV × Nat)} {es : List MapEntry} {r : Option (Nat × DV)} (hr : RepM ρ F h w l es) (hf : findD kk k l 0 = some r) {w' : World} :
    match r with
    | none => (Instr.findKey kt k es).run P w' = .ok none w'
    | some (j, d) => ∃ v e, (Instr.findKey kt k es).run P w' = .ok (some (j, v)) w' ∧ RepV ρ F h w d v ∧ es[j]? = some e ∧ e.key = k := by
  obtain ⟨td, h1, h2⟩ := kkOf_run hk
  have hn := findNow_rep h2 hr hf
  cases r with
  | none =>
    simp only at hn ⊢
    simp only [Instr.findKey, Sem.run_bind, run_underlying h1, Result.andThen_ok, hn]
    rfl
  | some p =>
    obtain ⟨j, d⟩ := p
    simp only at hn ⊢
    obtain ⟨v, e1, e2, _, e, e3, e4⟩ := hn
    refine ⟨v, e, ?_, e2, by simpa using e3, e4⟩
    simp only [Instr.findKey, Sem.run_bind, run_underlying h1, Result.andThen_ok, e1]
    rfl

theorem ok_mmap (r : Rel W0 ρ F h w) {t : TypeId} {tk : Tok} (hf : Fresh T h tk) :
    OpOk P W0 T ρ F h w ⟨.ret (.map tk), [], [(tk, .mp [] 0)]⟩ (Instr.makeMap t none) := by
  have g := good_new (T := T) r (t := tk) (o := .mp [] 0) (ob := .map #[] 0) hf.ne (fun u o _ ho => hf.obj u o ho) (by simp only [RepO, RepM]; exact ⟨w.heap.size, #[], Rho.set_same .., alloc_new .., rfl⟩)
  refine ⟨_, .map (some w.heap.size), _, _, _, rfl, ?_, g, ?_⟩
  · simp [Instr.makeMap]
  · simp only [RepV]
    exact ⟨⟨_, rfl⟩, fun _ => ⟨_, Rho.set_same .., rfl⟩⟩

theorem rep_lkRes {ok : Bool} {d : DV} {v : Value} {b : Bool} (hv : RepV ρ F h w d v) : RepV ρ F h w (lkRes ok d b) (if ok then .tuple #[v, .bool b] else v) := by
  cases ok with
  | false => exact hv
  | true =>
    simp only [lkRes, RepV, RepL, if_true]
    exact ⟨_, rfl, _, _, rfl, hv, _, _, rfl, ⟨rfl, rfl⟩, rfl⟩

theorem ok_lkup (r : Rel W0 ρ F h w) {t kt et : TypeId} (ht : P.underlying t = some (.map kt et)) {kk : KK} (hkk : kkOf P kt = some kk) {z : DV} (hz : zeroTy P et = some z) {ok : Bool} {dm dk : DV} {e : Eff} (he : lkupEff kk z ok h dm dk = some e)
    {mv kv : Value} (hm : RepV ρ F h w dm mv) (hk : RepV ρ F h w dk kv) : OpOk P W0 T ρ F h w e (Instr.lookup t mv kv ok) := by
  unfold lkupEff at he
  split at he <;> try (cases he; done)
  rename_i k
  rw [rep_sc hk]
  split at he <;> try (cases he; done)
  rename_i hko
  obtain ⟨zv, hz1, hz2, _, _⟩ := zeroTy_run (P := P) (w := w) (ρ := ρ) (F := F) (h := h) hz
  split at he <;> try (cases he; done)
  · rename_i tk
    split at he <;> try (cases he; done)
    rename_i es c hob
    have hO := r.obj tk _ hob
    simp only [RepO] at hO
    obtain ⟨b, arr, hb, hblk, hM⟩ := hO
    simp only [RepV] at hm
    obtain ⟨b', hb', rfl⟩ := hm.2 (by simp [Hp.len?, hob, AObj.len?])
    rw [hb] at hb'; cases hb'
    have hget : (getObj b).run P w = .ok (.map arr c) w := by simp [getObj, Sem.run, hblk]
    split at he <;> try (cases he; done)
    · rename_i j d hf
      cases he
      obtain ⟨v, en, f1, f2, f3, f4⟩ := findKey_run (P := P) (w' := w) hkk hM hf
      refine OpOk.ret r ?_ (rep_lkRes (b := true) f2)
      cases ok <;> simp [Instr.lookup, run_underlying ht, hget, checkKey_run hkk hko, f1]
    · rename_i hf
      cases he
      have f1 := findKey_run (P := P) (w' := w) hkk hM hf
      simp only at f1
      refine OpOk.ret r ?_ (rep_lkRes (b := false) hz2)
      cases ok <;> simp [Instr.lookup, run_underlying ht, hget, checkKey_run hkk hko, f1, hz1]
  · cases he
    rw [rep_sc hm]
    have f1 := findKey_run (P := P) (ρ := ρ) (F := F) (h := h) (w := w) (w' := w) (l := []) (es := []) (r := none) (k := k) hkk (by simp [RepM]) rfl
    simp only at f1
    refine OpOk.ret r ?_ (rep_lkRes (b := false) hz2)
    cases ok <;> simp [Instr.lookup, run_underlying ht, checkKey_run hkk hko, f1, hz1]

theorem RepM.set {l : List (Value × DV × Nat)} {es : List MapEntry} (hr : RepM ρ F h w l es) {i : Nat} {e : MapEntry} (he : es[i]? = some e) {d : DV} {v : Value} (hv : RepV ρ F h w d v) :
    RepM ρ F h w (setEnt l i d) (es.modify i fun e => { e with val := v }) := by
  induction l generalizing es i with
  | nil => simp only [RepM] at hr; subst hr; simp at he
  | cons p l ih =>
    obtain ⟨q, d0, n⟩ := p
    simp only [RepM] at hr
    obtain ⟨e0, es', rfl, hq, hn, hv0, hr'⟩ := hr
    cases i with
    | zero => simp only [setEnt, List.modify_zero_cons, RepM]; exact ⟨_, _, rfl, hq, hn, hv, hr'⟩
    | succ i => simp only [setEnt, List.modify_succ_cons, RepM]; exact ⟨_, _, rfl, hq, hn, hv0, ih hr' (by simpa using he)⟩

theorem RepM.push {l : List (Value × DV × Nat)} {es : List MapEntry} (hr : RepM ρ F h w l es) {k : Value} {d : DV} {v : Value} {c : Nat} (hv : RepV ρ F h w d v) :
    RepM ρ F h w (l ++ [(k, d, c)]) (es ++ [{ key := k, val := v, born := c }]) := by
  induction l generalizing es with
  | nil => simp only [RepM] at hr; subst hr; simp only [List.nil_append, RepM]; exact ⟨_, _, rfl, rfl, rfl, hv, rfl⟩
  | cons p l ih =>
    obtain ⟨q, d0, n⟩ := p
    simp only [RepM] at hr
    obtain ⟨e0, es', rfl, hq, hn, hv0, hr'⟩ := hr
    simp only [List.cons_append, RepM]
    exact ⟨_, _, rfl, hq, hn, hv0, ih hr'⟩

theorem sameBits_self {kk : KK} {k : Value} (hk : keyOf kk k = true) (n : Nat) : Instr.sameBits n k k = true := by
  cases kk <;> cases k <;> simp [keyOf] at hk <;> cases n <;> simp [Instr.sameBits, (bytes_beq _ _).2]

theorem good_map (r : Rel W0 ρ F h w) {tk : Tok} {es es' : List (Value × DV × Nat)} {c c' : Nat} {arr arr' : Array MapEntry} {b : Nat} (hob : h tk = some (.mp es c)) (hb : ρ tk = some b) (hblk : w.heap[b]? = some (.map arr c)) (hM : RepM ρ F h w es' arr'.toList) :
    Good W0 T ρ F h w ρ F (h.set tk (.mp es' c')) { w with heap := w.heap.setIfInBounds b (.map arr' c') } := by
  have hfar : ∀ x, x ≠ b → ({ w with heap := w.heap.setIfInBounds b (.map arr' c') } : World).heap[x]? = w.heap[x]? := fun x hx => by
    show (w.heap.setIfInBounds b _)[x]? = _
    rw [Array.getElem?_setIfInBounds_ne (Ne.symm hx)]
  have hbl : b < w.heap.size := (Array.getElem?_eq_some_iff.1 hblk).1
  have hself : ({ w with heap := w.heap.setIfInBounds b (.map arr' c') } : World).heap[b]? = some (.map arr' c') := by
    show (w.heap.setIfInBounds b _)[b]? = _
    simp [hbl]
  have hcap : ∀ k, CapOk w b k → CapOk { w with heap := w.heap.setIfInBounds b (.map arr' c') } b k := fun k hk => by
    obtain ⟨arr, t2, h1, _⟩ := hk; rw [hblk] at h1; cases h1
  have k := keep_upd r (o' := .mp es' c') (w' := { w with heap := w.heap.setIfInBounds b (.map arr' c') }) hob rfl hb (fun _ => rfl) (fun m hm => by cases hm) hcap hfar
  refine good_upd r hob rfl hb (fun _ => rfl) (fun m hm => by cases hm) hcap hfar (by simp) rfl rfl rfl ?_
  simp only [RepO]
  exact ⟨b, arr', hb, hself, RepM.keep k (fun _ _ => trivial) hM⟩

theorem ok_mupd (r : Rel W0 ρ F h w) {t kt et : TypeId} (ht : P.underlying t = some (.map kt et)) {kk : KK} (hkk : kkOf P kt = some kk) {dm dk dv : DV} {e : Eff} (he : mupdEff kk h dm dk dv = some e)
    {mv kv vv : Value} (hm : RepV ρ F h w dm mv) (hk : RepV ρ F h w dk kv) (hv : RepV ρ F h w dv vv) :
    ∃ w' ρ' F', e.out = .ret .any ∧ (Instr.mapUpdate t mv kv vv).run P w = .ok () w' ∧ Good W0 T ρ F h w ρ' F' (e.upds.app h) w' := by
  unfold mupdEff at he
  split at he <;> try (cases he; done)
  rename_i tk k
  rw [rep_sc hk]
  split at he <;> try (cases he; done)
  rename_i es c hko hst hob
  have hO := r.obj tk _ hob
  simp only [RepO] at hO
  obtain ⟨b, arr, hb, hblk, hM⟩ := hO
  simp only [RepV] at hm
  obtain ⟨b', hb', rfl⟩ := hm.2 (by simp [Hp.len?, hob, AObj.len?])
  rw [hb] at hb'; cases hb'
  have hget : (getObj b).run P w = .ok (.map arr c) w := by simp [getObj, Sem.run, hblk]
  split at he <;> try (cases he; done)
  · rename_i j d hf
    cases he
    obtain ⟨v, en, f1, f2, f3, f4⟩ := findKey_run (P := P) (w' := w) hkk hM hf
    have f3' : arr[j]? = some en := by simpa using f3
    have hset := RepM.set hM f3 hv
    refine ⟨{ w with heap := w.heap.setIfInBounds b (.map (arr.modify j fun e => { e with key := k, val := vv }) c) }, ρ, F, rfl, ?_, ?_⟩
    · unfold Instr.mapUpdate
      simp only [Sem.run_bind, run_underlying ht, Result.andThen_ok, hget, checkKey_run hkk hko, f1, f3', Option.map_some, Option.getD_some, f4]
      simp [Instr.keyThatStays, sameBits_self hko, setObj, Sem.run, hblk]
    · refine good_map r hob hb hblk ?_
      have : (arr.modify j fun e => { e with key := k, val := vv }).toList = (arr.toList.modify j fun e => { e with val := vv }) := by
        rw [Array.toList_modify]
        apply List.ext_getElem?
        intro q
        rw [List.getElem?_modify, List.getElem?_modify]
        by_cases e : j = q
        · subst e; simp [f3, f4.symm]
        · simp [e]
      rw [this]
      exact hset
  · rename_i hf
    cases he
    have f1 := findKey_run (P := P) (w' := w) hkk hM hf
    refine ⟨{ w with heap := w.heap.setIfInBounds b (.map (arr.push { key := k, val := vv, born := c }) (c + 1)) }, ρ, F, rfl, ?_, ?_⟩
    · unfold Instr.mapUpdate
      simp only [Sem.run_bind, run_underlying ht, Result.andThen_ok, hget, checkKey_run hkk hko, f1]
      simp [setObj, Sem.run, hblk]
    · refine good_map r hob hb hblk ?_
      rw [Array.toList_push]
      exact RepM.push hM hv

/-! ## Three of a kind -/
theorem ok_mx3 (r : Rel W0 ρ F h w) {mx : Bool} {k k' k'' : IntKind} {a b c : Int} {xv yv zv : Value} {ts : Array TypeId} {ty : TypeId} (hx : RepV ρ F h w (.sc (.int k a)) xv) (hy : RepV ρ F h w (.sc (.int k' b)) yv) (hz : RepV ρ F h w (.sc (.int k'' c)) zv) :
    OpOk P W0 T ρ F h w (.val (.sc (.int k (mx2 mx (mx2 mx a b) c)))) (if mx then Builtin.max_ ts ty #[xv, yv, zv] else Builtin.min_ ts ty #[xv, yv, zv]) := by
  rw [rep_sc hx, rep_sc hy, rep_sc hz]
  cases mx
  · exact OpOk.val r (v := .int k (mx2 false (mx2 false a b) c)) (by simp [Builtin.min_, Builtin.min2, mx2]) (rep_int _ _)
  · exact OpOk.val r (v := .int k (mx2 true (mx2 true a b) c)) (by simp [Builtin.max_, Builtin.max2, mx2]) (rep_int _ _)

/-! ## Bytes as a string -/
theorem bytesOf_get : ∀ {xs : List DV} {bs : List UInt8}, bytesOf xs = some bs → bs.length = xs.length ∧ ∀ (i : Nat) d, xs[i]? = some d → ∃ n : Int, d = .sc (.int .u8 n) ∧ bs[i]? = some (UInt8.ofNat n.toNat)
  | [], bs, hb => by simp only [bytesOf, Option.some.injEq] at hb; subst hb; simp
  | d :: ds, bs, hb => by
    unfold bytesOf at hb
    split at hb <;> try (cases hb; done)
    · rename_i heq; cases heq
    · rename_i n ds' heq
      cases heq
      split at hb
      · rename_i bs' hbs
        cases hb
        obtain ⟨h1, h2⟩ := bytesOf_get hbs
        refine ⟨by simp [h1], fun i d hd => ?_⟩
        cases i with
        | zero => simp at hd; subst hd; exact ⟨n, rfl, by simp⟩
        | succ i => simpa using h2 i d (by simpa using hd)
      · cases hb

theorem forIn_bytes : ∀ (cs : List Value) (bs : List UInt8) (s : ByteArray), cs.length = bs.length → (∀ (i : Nat) v b, cs[i]? = some v → bs[i]? = some b → ∃ n : Int, v = .int .u8 n ∧ b = UInt8.ofNat n.toNat) →
    ((forIn cs s fun c s => do
      let .int .u8 n := c | stuck "bytesToString: byte expected"
      pure (.yield (s.push (UInt8.ofNat n.toNat)))) : Sem ByteArray).run P w = .ok ⟨s.data ++ bs.toArray⟩ w
  | [], bs, s, hl, _ => by
    have : bs = [] := List.eq_nil_of_length_eq_zero hl.symm
    subst this
    simp
  | c :: cs, [], s, hl, _ => by simp at hl
  | c :: cs, b :: bs, s, hl, hg => by
    obtain ⟨n, rfl, rfl⟩ := hg 0 c b rfl rfl
    rw [List.forIn_cons]
    simp only [Sem.run_bind, Sem.run_pure, Result.andThen_ok]
    have := forIn_bytes cs bs (s.push (UInt8.ofNat n.toNat)) (by simpa using hl) fun i v b' h1 h2 => hg (i + 1) v b' (by simpa using h1) (by simpa using h2)
    erw [this]
    simp

theorem run_b2s {A : Addr} {n : Nat} {cs : Array Value} {bs : List UInt8} (hl : (loadCells A n).run P w = .ok cs w) (hn : cs.size = bs.length) (hg : ∀ (i : Nat) v b, cs.toList[i]? = some v → bs[i]? = some b → ∃ n : Int, v = .int .u8 n ∧ b = UInt8.ofNat n.toNat) (c : Nat) :
    (Conv.bytesToString (.slice (some A) n c)).run P w = .ok (.string ⟨bs.toArray⟩) w := by
  unfold Conv.bytesToString
  simp only [Sem.run_bind, hl, Result.andThen_ok]
  rw [← Array.forIn_toList]
  have := forIn_bytes (P := P) (w := w) cs.toList bs ByteArray.empty (by simpa using hn) hg
  erw [this]
  simp [ByteArray.empty, ByteArray.emptyWithCapacity]
  rfl

theorem flat_bytes : ∀ {xs : List DV} {bs : List UInt8}, bytesOf xs = some bs → flat xs = xs
  | [], _, _ => rfl
  | d :: ds, bs, hb => by
    obtain ⟨_, h2⟩ := bytesOf_get hb
    obtain ⟨n, rfl, _⟩ := h2 0 d rfl
    have : ∃ bs', bytesOf ds = some bs' := by
      simp only [bytesOf] at hb
      split at hb
      · rename_i bs' hbs; exact ⟨bs', hbs⟩
      · cases hb
    obtain ⟨bs', hbs⟩ := this
    have ih := flat_bytes hbs
    simp only [flat, List.flatMap_cons, DV.cells] at ih ⊢
    rw [ih]
    rfl

theorem b2s_cells {xs : List DV} {bs : List UInt8} (hb : bytesOf xs = some bs) {b off : Nat} (hr : RepC ρ F h w xs b off) (c : Nat) :
    (Conv.bytesToString (.slice (some ⟨b, off, none⟩) xs.length c)).run P w = .ok (.string ⟨bs.toArray⟩) w := by
  obtain ⟨h1, h2⟩ := bytesOf_get hb
  obtain ⟨vs, e1, e2, _⟩ := firstCells_C (P := P) hr xs.length c (k := xs.length) (sz := 1) (by simp)
  have e1 := e1 w rfl
  simp only [Builtin.firstCells, Nat.mul_one] at e1
  have hl := e2.length
  refine run_b2s e1 (by simp [hl, h1]) (fun i v b' q1 q2 => ?_) c
  have hi : i < xs.length := by have := (List.getElem?_eq_some_iff.1 q2).1; omega
  obtain ⟨n, f1, f2⟩ := h2 i _ (List.getElem?_eq_getElem hi)
  obtain ⟨v', g1, g2⟩ := e2.get i _ (List.getElem?_eq_getElem hi)
  simp only [List.toList_toArray] at q1
  rw [g1] at q1; cases q1
  rw [f2] at q2; cases q2
  rw [f1] at g2
  exact ⟨n, rep_sc g2, rfl⟩

theorem ok_b2s (r : Rel W0 ρ F h w) {x : DV} {e : Eff} (he : b2sEff h x = some e) {xv : Value} (hx : RepV ρ F h w x xv) : OpOk P W0 T ρ F h w e (Conv.bytesToString xv) := by
  unfold b2sEff at he
  split at he <;> try (cases he; done)
  · rename_i sz xs k
    simp only [Option.map_eq_some_iff] at he
    obtain ⟨bs, hbs, rfl⟩ := he
    simp only [RepV] at hx
    obtain ⟨A, c, rfl, _, _, _, hc, hs, hE⟩ := hx
    refine OpOk.val r ?_ (rep_str _)
    by_cases hn : xs = []
    · subst hn
      simp only [bytesOf, Option.some.injEq] at hbs
      subst hbs
      cases A with
      | none => rfl
      | some a =>
        have : (loadCells a 0).run P w = .ok #[] w := by simp [loadCells, loadCellsFrom]
        exact run_b2s this rfl (fun i v b' q1 => by simp at q1) c
    · obtain ⟨b, off, rfl, _, hE⟩ := hE hn
      have hC := (repE_flat (off := off) (o := 0) hs).1 hE
      rw [flat_bytes hbs] at hC
      exact b2s_cells hbs hC c
  · rename_i sz t n off len
    split at he <;> try (cases he; done)
    rename_i xs hrow
    split at he <;> try (cases he; done)
    rename_i hc
    simp only [Option.map_eq_some_iff] at he
    obtain ⟨bs, hbs, rfl⟩ := he
    obtain ⟨hlen, hcl, hsz, _, hE⟩ := row_block r hrow
    simp only [RepV] at hx
    obtain ⟨A, c, rfl, hlc, hx⟩ := hx
    refine OpOk.ret r ?_ (rep_str _)
    obtain ⟨_, hx⟩ := hx _ hlen
    obtain ⟨_, hx⟩ := hx hc.1
    have hl : ((xs.drop off).take len).length = len := by simp; omega
    by_cases hz : len = 0
    · subst hz
      simp [bytesOf] at hbs
      subst hbs
      cases A with
      | none => rfl
      | some a =>
        have : (loadCells a 0).run P w = .ok #[] w := by simp [loadCells, loadCellsFrom]
        exact run_b2s this rfl (fun i v b' q1 => by simp at q1) c
    · obtain ⟨b, hb, rfl, _⟩ := hx (by omega)
      obtain ⟨b', hb', hE⟩ := hE (fun e => by subst e; simp at hl; omega)
      rw [hb] at hb'; cases hb'
      have hE' := repE_seg hE off len
      have hC := (repE_flat (off := 0 + off * 1) (o := 0) (fun d hd => hsz d (List.mem_of_mem_drop (List.mem_of_mem_take hd)))).1 hE'
      rw [flat_bytes hbs] at hC
      have := b2s_cells (P := P) hbs hC c
      rw [hl] at this
      simpa using this

theorem b2s_slice {x : DV} {e : Eff} (he : b2sEff h x = some e) {xv : Value} (hx : RepV ρ F h w x xv) : ∃ A n c, xv = .slice A n c := by
  unfold b2sEff at he
  split at he <;> try (cases he; done)
  · simp only [RepV] at hx
    obtain ⟨A, c, rfl, _⟩ := hx
    exact ⟨_, _, _, rfl⟩
  · simp only [RepV] at hx
    obtain ⟨A, c, rfl, _⟩ := hx
    exact ⟨_, _, _, rfl⟩

/-! ## What came later, as operations -/
theorem wp_of_unit {o : Oper} {a : Act} {e : Eff} {s : Sem Unit} (hex : execOp a.eval o = (do s; pure Next.skip)) (hok : ∃ w' ρ' F', e.out = .ret .any ∧ s.run P w = .ok () w' ∧ Good W0 T ρ F h w ρ' F' (e.upds.app h) w')
    {next : Act → World → Prop} {Q : Exit → Act → World → Prop} (hret : ∀ d v w' ρ' F', e.out = .ret d → Good W0 T ρ F h w ρ' F' (e.upds.app h) w' → RepV ρ' F' (e.upds.app h) w' d v → next (a.put o.dst v) w') : o.wp P a w next Q := by
  obtain ⟨w', ρ', F', e1, e2, e3⟩ := hok
  unfold Oper.wp
  rw [hex]
  simp only [Sem.run_bind, e2, Result.andThen_ok, Sem.run_pure, Oper.upon_skip]
  exact hret .any undef _ _ _ e1 e3 (by simp [RepV])

theorem x_wp {o : Oper} {k : XOp} {ds : List DOpd} (hd : digX P o.op = some (k, ds)) {g : Env} {a : Act} {e : Eff} (he : xEff P o.dst h k (ds.map (getOpd g)) = some e) (r : Rel W0 ρ F h w) (hg : RepEnv ρ F h w g a)
    (hfr : ∀ t ∈ made o.dst (getOpd g) (.ex k ds) e, FreshTok t g h ∧ ∀ u, T u → u ≠ t)
    {next : Act → World → Prop} {Q : Exit → Act → World → Prop}
    (hret : ∀ d v w' ρ' F', e.out = .ret d → Good W0 T ρ F h w ρ' F' (e.upds.app h) w' → RepV ρ' F' (e.upds.app h) w' d v → next (a.put o.dst v) w') : o.wp P a w next Q := by
  have ev := fun {x d} (hx : digOpd x = some d) => opd_rep hg hx
  obtain ⟨dst, op, type, pos, after, guard⟩ := o
  simp only at *
  unfold digX at hd
  split at hd <;> try (cases hd; done)
  · -- against nil
    rename_i op t x y yt
    unfold digNil at hd
    split at hd <;> try (cases hd; done)
    rename_i neg nk hop hnk
    split at hd <;> try (cases hd; done)
    rename_i hty
    simp only [Option.map_eq_some_iff, Prod.mk.injEq] at hd
    obtain ⟨dx, hx, rfl, rfl⟩ := hd
    simp only [xEff, List.map_cons, List.map_nil, Option.map_eq_some_iff] at he
    obtain ⟨⟨b, ts⟩, hn, rfl⟩ := he
    exact wp_of_ok (T := T) (s := do eqGuard op t x y (a.eval x) (a.eval y); binOp op t (a.eval x) (a.eval y)) rfl (ok_isnil r hop hnk hty hn (ev hx)) hret
  · -- makeMap
    rename_i t
    simp only [Option.some.injEq, Prod.mk.injEq] at hd
    obtain ⟨rfl, rfl⟩ := hd
    simp only [xEff, List.map_nil, Option.map_eq_some_iff] at he
    obtain ⟨tk, htk, rfl⟩ := he
    cases dst with
    | none => simp [nameOf] at htk
    | some d =>
      obtain ⟨f1, f2⟩ := hfr [d + 1] (by simp [made, mk, creates, nameOf])
      exact wp_of_ok (T := T) (s := Instr.makeMap t none) rfl (ok_mmap r (fresh_of f1 f2 tk htk)) hret
  · -- lookup
    rename_i t m kx ok
    split at hd <;> try (cases hd; done)
    rename_i kt et ht
    split at hd <;> try (cases hd; done)
    rename_i kk z dm dk h1 h2 h3 h4
    simp only [Option.some.injEq, Prod.mk.injEq] at hd
    obtain ⟨rfl, rfl⟩ := hd
    simp only [xEff, List.map_cons, List.map_nil] at he
    exact wp_of_ok (T := T) (s := Instr.lookup t (a.eval m) (a.eval kx) ok) rfl (ok_lkup r ht h1 h2 he (ev h3) (ev h4)) hret
  · -- mapUpdate
    rename_i t m kx v
    split at hd <;> try (cases hd; done)
    rename_i kt et ht
    split at hd <;> try (cases hd; done)
    rename_i kk dm dk dv h1 h2 h3 h4
    simp only [Option.some.injEq, Prod.mk.injEq] at hd
    obtain ⟨rfl, rfl⟩ := hd
    simp only [xEff, List.map_cons, List.map_nil] at he
    exact wp_of_unit (T := T) (s := Instr.mapUpdate t (a.eval m) (a.eval kx) (a.eval v)) rfl (ok_mupd r ht h1 he (ev h2) (ev h3) (ev h4)) hret
  · -- bytes as a string
    rename_i s t x
    split at hd <;> try (cases hd; done)
    rename_i el h1 h2
    split at hd <;> try (cases hd; done)
    rename_i h3
    simp only [Option.map_eq_some_iff, Prod.mk.injEq] at hd
    obtain ⟨dx, hx, rfl, rfl⟩ := hd
    simp only [xEff, List.map_cons, List.map_nil] at he
    obtain ⟨d, v, w', ρ', F', e1, e2, e3, e4⟩ := ok_b2s (P := P) (T := T) r he (ev hx)
    refine wp_of_ok (T := T) (s := convert s t (a.eval x)) rfl ⟨d, v, w', ρ', F', e1, ?_, e3, e4⟩ hret
    obtain ⟨A, n, c, hsl⟩ := b2s_slice he (ev hx)
    rw [hsl] at e2 ⊢
    simp only [convert, Sem.run_bind, run_underlying h1, run_underlying h2, Result.andThen_ok]
    cases A <;> simp only [Sem.run_bind, run_underlying h3, Result.andThen_ok] <;> exact e2
  · -- three of a kind
    rename_i c
    split at hd <;> try (cases hd; done)
    · rename_i hcal
      split at hd <;> try (cases hd; done)
      rename_i x y z hargs
      have hca : c.args = #[x, y, z] := by rw [← Array.toList_inj]; simpa using hargs
      split at hd <;> try (cases hd; done)
      rename_i da db dc h1 h2 h3
      simp only [Option.some.injEq, Prod.mk.injEq] at hd
      obtain ⟨rfl, rfl⟩ := hd
      simp only [List.map_cons, List.map_nil] at he
      unfold xEff at he
      split at he <;> simp_all only [reduceCtorEq, List.cons.injEq, and_true, XOp.mx3.injEq, Option.some.injEq, and_false, false_and]
      rename_i mx k a' k' b' k'' c' e1 e2
      obtain ⟨q1, q2, q3⟩ := e2
      subst he
      have hv1 := ev h1; have hv2 := ev h2; have hv3 := ev h3
      rw [q1] at hv1; rw [q2] at hv2; rw [q3] at hv3
      refine wp_of_ok (T := T) (s := Builtin.max_ c.argTypes type #[a.eval x, a.eval y, a.eval z]) ?_ (by simpa [← e1] using ok_mx3 (T := T) (P := P) (mx := true) (ts := c.argTypes) (ty := type) r hv1 hv2 hv3) hret
      simp only [execOp, resolve, hcal, hca, pure_bind, invoke, builtin]
      simp
    · rename_i hcal
      split at hd <;> try (cases hd; done)
      rename_i x y z hargs
      have hca : c.args = #[x, y, z] := by rw [← Array.toList_inj]; simpa using hargs
      split at hd <;> try (cases hd; done)
      rename_i da db dc h1 h2 h3
      simp only [Option.some.injEq, Prod.mk.injEq] at hd
      obtain ⟨rfl, rfl⟩ := hd
      simp only [List.map_cons, List.map_nil] at he
      unfold xEff at he
      split at he <;> simp_all only [reduceCtorEq, List.cons.injEq, and_true, XOp.mx3.injEq, Option.some.injEq, and_false, false_and]
      rename_i mx k a' k' b' k'' c' e1 e2
      obtain ⟨q1, q2, q3⟩ := e2
      subst he
      have hv1 := ev h1; have hv2 := ev h2; have hv3 := ev h3
      rw [q1] at hv1; rw [q2] at hv2; rw [q3] at hv3
      refine wp_of_ok (T := T) (s := Builtin.min_ c.argTypes type #[a.eval x, a.eval y, a.eval z]) ?_ (by simpa [← e1] using ok_mx3 (T := T) (P := P) (mx := false) (ts := c.argTypes) (ty := type) r hv1 hv2 hv3) hret
      simp only [execOp, resolve, hcal, hca, pure_bind, invoke, builtin]
      simp
end
end Go.Di
