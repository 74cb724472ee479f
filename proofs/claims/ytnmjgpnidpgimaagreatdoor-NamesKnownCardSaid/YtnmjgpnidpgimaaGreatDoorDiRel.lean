/- How data and the memory of the machine hang together; what keeps it so. -/
import Derived.Test.YtnmjgpnidpgimaaGreatDoorDiBase
import Derived.Below
namespace Go.Di
set_option linter.unusedSectionVars false
open Go.RowKit

/-- What a name stands for: a block's number; none: a row that has no memory yet. -/
abbrev Rho := Tok → Option Nat

/-- A block of so many cells or more. -/
def CapOk (w : World) (b n : Nat) : Prop := ∃ arr ty, w.heap[b]? = some (.cells arr ty (0, 0)) ∧ n ≤ arr.size

/-- What more is known of a slice's place. -/
def LkOk (k : LK) (A : Option Addr) (c n : Nat) : Prop := (k = .full → c = n) ∧ (k = .no → A = none) ∧ (k = .nn → A ≠ none)

theorem LkOk.ro {A : Option Addr} {c n : Nat} : LkOk .ro A c n := ⟨(fun h => by cases h), (fun h => by cases h), (fun h => by cases h)⟩

mutual
def RepV (ρ : Rho) (F : Nat → Prop) (h : Hp) (w : World) : DV → Value → Prop
  | .sc v, x => x = v ∧ plain v = true
  | .ptr t off, x => (∃ a, x = .pointer a) ∧ (h.len? t = none → ∃ b, ρ t = some b ∧ x = .pointer (some ⟨b, off, none⟩))
  | .rptr sz t n i r, x => (∃ a, x = .pointer a) ∧ ∀ m, h.len? t = some m → n ≤ m ∧ (m = n → i < n ∧ r < sz ∧ ∃ b, ρ t = some b ∧ x = .pointer (some ⟨b, i * sz + r, none⟩))
  | .pref cs, x => ∃ b off, x = .pointer (some ⟨b, off, none⟩) ∧ (cs ≠ [] → F b) ∧ closedL cs = true ∧ RepC ρ F h w cs b off
  | .lst sz xs k, x => ∃ A c, x = .slice A xs.length c ∧ xs.length ≤ c ∧ (k = .nil → A = none ∧ c = 0) ∧ LkOk k A c xs.length ∧ closedL xs = true ∧
      (∀ d ∈ xs, d.cells.length = sz) ∧ (xs ≠ [] → ∃ b off, A = some ⟨b, off, none⟩ ∧ F b ∧ RepE ρ F h w sz xs b off)
  | .row sz t n off len, x => ∃ A c, x = .slice A len c ∧ len ≤ c ∧
      ∀ m, h.len? t = some m → n ≤ m ∧ (m = n → off + len ≤ n ∧ (0 < c → ∃ b, ρ t = some b ∧ A = some ⟨b, off * sz, none⟩ ∧ CapOk w b ((off + c) * sz)))
  | .map t, x => (∃ a, x = .map a) ∧ (h.len? t = none → ∃ b, ρ t = some b ∧ x = .map (some b))
  | .fn f a b, x => ∃ u v, x = .func f u v ∧ RepL ρ F h w a u.toList ∧ RepL ρ F h w b v.toList
  | .iface ty d, x => ∃ y, x = .iface ty y ∧ RepV ρ F h w d y
  | .agg cs, x => ∃ u, x = .agg u ∧ cs.all one = true ∧ RepL ρ F h w cs u.toList
  | .tup cs, x => ∃ u, x = .tuple u ∧ RepL ρ F h w cs u.toList
  | .any, _ => True
def RepL (ρ : Rho) (F : Nat → Prop) (h : Hp) (w : World) : List DV → List Value → Prop
  | [], xs => xs = []
  | d :: ds, xs => ∃ y ys, xs = y :: ys ∧ RepV ρ F h w d y ∧ RepL ρ F h w ds ys
def RepC (ρ : Rho) (F : Nat → Prop) (h : Hp) (w : World) : List DV → Nat → Nat → Prop
  | [], _, _ => True
  | d :: ds, b, off => (one d = true ∧ ∃ y, w.cell? ⟨b, off, none⟩ = some y ∧ RepV ρ F h w d y) ∧ RepC ρ F h w ds b (off + 1)
def RepE (ρ : Rho) (F : Nat → Prop) (h : Hp) (w : World) (sz : Nat) : List DV → Nat → Nat → Prop
  | [], _, _ => True
  | d :: ds, b, off => (match d with
      | .agg cs => RepC ρ F h w cs b off
      | d => one d = true ∧ ∃ y, w.cell? ⟨b, off, none⟩ = some y ∧ RepV ρ F h w d y) ∧ RepE ρ F h w sz ds b (off + sz)
end

/-- One datum laid out from a place on. -/
def RepD (ρ : Rho) (F : Nat → Prop) (h : Hp) (w : World) (d : DV) (b off : Nat) : Prop := RepC ρ F h w d.cells b off

theorem repE_cons {ρ F h w sz d ds b off} : RepE ρ F h w sz (d :: ds) b off ↔ RepD ρ F h w d b off ∧ RepE ρ F h w sz ds b (off + sz) := by
  cases d <;> simp [RepE, RepD, DV.cells, RepC, and_assoc]

/-! ## What is closed holds no names -/
mutual
theorem toks_closed : ∀ (d : DV), closed d = true → toks d = []
  | .sc _, _ => rfl
  | .ptr .., h => by simp [closed] at h
  | .rptr .., h => by simp [closed] at h
  | .pref _, _ => rfl
  | .lst .., _ => rfl
  | .row .., h => by simp [closed] at h
  | .map _, h => by simp [closed] at h
  | .fn _ a b, h => by
    simp only [closed, Bool.and_eq_true] at h
    simp [toks, toksL_closed a h.1, toksL_closed b h.2]
  | .iface _ v, h => by
    simp only [closed] at h
    simp [toks, toks_closed v h]
  | .agg cs, h => by
    simp only [closed] at h
    simp [toks, toksL_closed cs h]
  | .tup cs, h => by
    simp only [closed] at h
    simp [toks, toksL_closed cs h]
  | .any, h => by simp [closed] at h
theorem toksL_closed : ∀ (l : List DV), closedL l = true → toksL l = []
  | [], _ => rfl
  | d :: ds, h => by
    simp only [closedL, Bool.and_eq_true] at h
    simp [toksL, toks_closed d h.1, toksL_closed ds h.2]
end

theorem closedL_mem : ∀ {l : List DV} {d : DV}, closedL l = true → d ∈ l → closed d = true
  | d' :: ds, d, h, hm => by
    simp only [closedL, Bool.and_eq_true] at h
    rcases List.mem_cons.1 hm with rfl | hm
    · exact h.1
    · exact closedL_mem h.2 hm

theorem closedL_of : ∀ {l : List DV}, (∀ d ∈ l, closed d = true) → closedL l = true
  | [], _ => rfl
  | d :: ds, h => by
    simp only [closedL, Bool.and_eq_true]
    exact ⟨h d (by simp), closedL_of fun d hd => h d (by simp [hd])⟩

theorem closedL_append {a b : List DV} : closedL (a ++ b) = (closedL a && closedL b) := by
  induction a with
  | nil => simp [closedL]
  | cons x xs ih => simp [closedL, ih, Bool.and_assoc]

theorem toksL_mem {l : List DV} {d : DV} (h : d ∈ l) {t : Tok} (ht : t ∈ toks d) : t ∈ toksL l := by
  induction l with
  | nil => cases h
  | cons x xs ih =>
    simp only [toksL, List.mem_append]
    rcases List.mem_cons.1 h with rfl | h
    · exact .inl ht
    · exact .inr (ih h)

/-! ## Stability -/

/-- From one state to the next: what the names in T stand for is there as it was. -/
structure Keep (T : Tok → Prop) (ρ : Rho) (F : Nat → Prop) (h : Hp) (w : World) (ρ' : Rho) (F' : Nat → Prop) (h' : Hp) (w' : World) : Prop where
  imp : ∀ b, F b → F' b
  blk : ∀ b, F b → w'.heap[b]? = w.heap[b]?
  non : ∀ t, T t → h'.len? t = none → h.len? t = none ∧ ∀ b, ρ t = some b → ρ' t = some b
  row : ∀ t m', T t → h'.len? t = some m' → ∃ m, h.len? t = some m ∧ m ≤ m' ∧
    (m = m' → ∀ b, ρ t = some b → ρ' t = some b ∧ ∀ k, CapOk w b k → CapOk w' b k)

theorem cell_eq {w w' : World} {b off : Nat} (h : w'.heap[b]? = w.heap[b]?) : w'.cell? ⟨b, off, none⟩ = w.cell? ⟨b, off, none⟩ := by
  simp only [World.cell?, h]

section
variable {T : Tok → Prop} {ρ ρ' : Rho} {F F' : Nat → Prop} {h h' : Hp} {w w' : World} (k : Keep T ρ F h w ρ' F' h' w')
include k

mutual
theorem RepV.keep : ∀ (d : DV) (x : Value), (∀ t ∈ toks d, T t) → RepV ρ F h w d x → RepV ρ' F' h' w' d x
  | .sc v, x, _, hr => by simpa [RepV] using hr
  | .ptr t off, x, ht, hr => by
    simp only [RepV] at *
    refine ⟨hr.1, fun hn => ?_⟩
    obtain ⟨h1, h2⟩ := k.non t (ht t (by simp [toks])) hn
    obtain ⟨b, hb, hx⟩ := hr.2 h1
    exact ⟨b, h2 b hb, hx⟩
  | .rptr sz t n i r, x, ht, hr => by
    simp only [RepV] at *
    refine ⟨hr.1, fun m' hm' => ?_⟩
    obtain ⟨m, h1, h2, h3⟩ := k.row t m' (ht t (by simp [toks])) hm'
    obtain ⟨h4, h5⟩ := hr.2 m h1
    refine ⟨by omega, fun e => ?_⟩
    have hmn : m = n := by omega
    obtain ⟨hi, hr, b, hb, hx⟩ := h5 hmn
    exact ⟨hi, hr, b, (h3 (by omega) b hb).1, hx⟩
  | .pref cs, x, _, hr => by
    simp only [RepV] at *
    obtain ⟨b, off, hx, hF, hc, hr⟩ := hr
    refine ⟨b, off, hx, fun hn => k.imp _ (hF hn), hc, ?_⟩
    by_cases hn : cs = []
    · subst hn; simp [RepC]
    · exact RepC.keep cs b off (fun t ht => by rw [toksL_closed cs hc] at ht; cases ht) (k.blk b (hF hn)) hr
  | .lst sz xs kk, x, _, hr => by
    simp only [RepV] at *
    obtain ⟨A, c, hx, h1, h2, h3, hc, hs, he⟩ := hr
    refine ⟨A, c, hx, h1, h2, h3, hc, hs, fun hn => ?_⟩
    obtain ⟨b, off, hA, hF, hE⟩ := he hn
    exact ⟨b, off, hA, k.imp _ hF, RepE.keep sz xs b off (fun t ht => by rw [toksL_closed xs hc] at ht; cases ht) (k.blk b hF) hE⟩
  | .row sz t n off len, x, ht, hr => by
    simp only [RepV] at *
    obtain ⟨A, c, hx, h1, h2⟩ := hr
    refine ⟨A, c, hx, h1, fun m' hm' => ?_⟩
    obtain ⟨m, h3, h4, h5⟩ := k.row t m' (ht t (by simp [toks])) hm'
    obtain ⟨h6, h7⟩ := h2 m h3
    refine ⟨by omega, fun e => ?_⟩
    obtain ⟨h8, h9⟩ := h7 (by omega)
    refine ⟨h8, fun hc => ?_⟩
    obtain ⟨b, hb, hA, hcap⟩ := h9 hc
    obtain ⟨h10, h11⟩ := h5 (by omega) b hb
    exact ⟨b, h10, hA, h11 _ hcap⟩
  | .map t, x, ht, hr => by
    simp only [RepV] at *
    refine ⟨hr.1, fun hn => ?_⟩
    obtain ⟨h1, h2⟩ := k.non t (ht t (by simp [toks])) hn
    obtain ⟨b, hb, hx⟩ := hr.2 h1
    exact ⟨b, h2 b hb, hx⟩
  | .fn f a b, x, ht, hr => by
    simp only [RepV] at *
    obtain ⟨u, v, hx, h1, h2⟩ := hr
    exact ⟨u, v, hx, RepL.keep a _ (fun t h => ht t (by simp [toks, h])) h1, RepL.keep b _ (fun t h => ht t (by simp [toks, h])) h2⟩
  | .iface ty d, x, ht, hr => by
    simp only [RepV] at *
    obtain ⟨y, hx, h1⟩ := hr
    exact ⟨y, hx, RepV.keep d y (fun t h => ht t (by simp [toks, h])) h1⟩
  | .agg cs, x, ht, hr => by
    simp only [RepV] at *
    obtain ⟨u, hx, h0, h1⟩ := hr
    exact ⟨u, hx, h0, RepL.keep cs _ (fun t h => ht t (by simp [toks, h])) h1⟩
  | .tup cs, x, ht, hr => by
    simp only [RepV] at *
    obtain ⟨u, hx, h1⟩ := hr
    exact ⟨u, hx, RepL.keep cs _ (fun t h => ht t (by simp [toks, h])) h1⟩
  | .any, _, _, _ => by simp [RepV]
theorem RepL.keep : ∀ (l : List DV) (xs : List Value), (∀ t ∈ toksL l, T t) → RepL ρ F h w l xs → RepL ρ' F' h' w' l xs
  | [], xs, _, hr => by simpa [RepL] using hr
  | d :: ds, xs, ht, hr => by
    simp only [RepL] at *
    obtain ⟨y, ys, hx, h1, h2⟩ := hr
    exact ⟨y, ys, hx, RepV.keep d y (fun t h => ht t (by simp [toksL, h])) h1, RepL.keep ds ys (fun t h => ht t (by simp [toksL, h])) h2⟩
theorem RepC.keep : ∀ (l : List DV) (b off : Nat), (∀ t ∈ toksL l, T t) → w'.heap[b]? = w.heap[b]? → RepC ρ F h w l b off → RepC ρ' F' h' w' l b off
  | [], _, _, _, _, _ => by simp [RepC]
  | d :: ds, b, off, ht, hb, hr => by
    simp only [RepC] at *
    obtain ⟨⟨h0, y, hy, h1⟩, h2⟩ := hr
    exact ⟨⟨h0, y, (cell_eq hb).trans hy, RepV.keep d y (fun t h => ht t (by simp [toksL, h])) h1⟩, RepC.keep ds b (off + 1) (fun t h => ht t (by simp [toksL, h])) hb h2⟩
theorem RepE.keep : ∀ (sz : Nat) (l : List DV) (b off : Nat), (∀ t ∈ toksL l, T t) → w'.heap[b]? = w.heap[b]? → RepE ρ F h w sz l b off → RepE ρ' F' h' w' sz l b off
  | _, [], _, _, _, _, _ => by simp [RepE]
  | sz, d :: ds, b, off, ht, hb, hr => by
    have hds := fun hr => RepE.keep sz ds b (off + sz) (fun t h => ht t (by simp [toksL, h])) hb hr
    have h1 : ∀ t ∈ toks d, T t := fun t h => ht t (by simp [toksL, h])
    cases d with
    | agg cs =>
      simp only [RepE] at *
      exact ⟨RepC.keep cs b off (fun t h => h1 t (by simpa [toks] using h)) hb hr.1, hds hr.2⟩
    | _ =>
      simp only [RepE] at *
      obtain ⟨⟨h0, y, hy, h2⟩, h3⟩ := hr
      exact ⟨⟨h0, y, (cell_eq hb).trans hy, RepV.keep _ y h1 h2⟩, hds h3⟩
end
end

/-! ## One cell -/
theorem RepV.oneCell {ρ F h w} : ∀ {d : DV} {x : Value}, one d = true → RepV ρ F h w d x → x.oneCell' = true
  | .sc v, x, _, hr => by
    simp only [RepV] at hr
    obtain ⟨rfl, hp⟩ := hr
    cases x <;> simp_all [plain, Value.oneCell']
  | .ptr .., x, _, hr => by simp only [RepV] at hr; obtain ⟨⟨a, rfl⟩, _⟩ := hr; rfl
  | .rptr .., x, _, hr => by simp only [RepV] at hr; obtain ⟨⟨a, rfl⟩, _⟩ := hr; rfl
  | .pref _, x, _, hr => by simp only [RepV] at hr; obtain ⟨b, o, rfl, _⟩ := hr; rfl
  | .lst .., x, _, hr => by simp only [RepV] at hr; obtain ⟨A, c, rfl, _⟩ := hr; rfl
  | .row .., x, _, hr => by simp only [RepV] at hr; obtain ⟨A, c, rfl, _⟩ := hr; rfl
  | .map _, x, _, hr => by simp only [RepV] at hr; obtain ⟨⟨a, rfl⟩, _⟩ := hr; rfl
  | .fn .., x, _, hr => by simp only [RepV] at hr; obtain ⟨u, v, rfl, _⟩ := hr; rfl
  | .iface .., x, _, hr => by simp only [RepV] at hr; obtain ⟨y, rfl, _⟩ := hr; rfl
  | .agg _, _, h, _ => by simp [one] at h
  | .tup _, _, h, _ => by simp [one] at h
  | .any, _, h, _ => by simp [one] at h

theorem RepL.length {ρ F h w} : ∀ {l : List DV} {xs : List Value}, RepL ρ F h w l xs → xs.length = l.length
  | [], xs, hr => by simp only [RepL] at hr; subst hr; rfl
  | d :: ds, xs, hr => by
    simp only [RepL] at hr
    obtain ⟨y, ys, rfl, _, h2⟩ := hr
    simp [RepL.length h2]

theorem RepL.get {ρ F h w} : ∀ {l : List DV} {xs : List Value} (_ : RepL ρ F h w l xs) (i : Nat) (d : DV), l[i]? = some d → ∃ x, xs[i]? = some x ∧ RepV ρ F h w d x
  | [], _, _, i, d, hd => by simp at hd
  | d' :: ds, xs, hr, i, d, hd => by
    simp only [RepL] at hr
    obtain ⟨y, ys, rfl, h1, h2⟩ := hr
    cases i with
    | zero => simp at hd; subst hd; exact ⟨y, rfl, h1⟩
    | succ i => simpa using RepL.get h2 i d (by simpa using hd)

theorem RepL.of {ρ F h w} : ∀ {l : List DV} {xs : List Value}, xs.length = l.length → (∀ (i : Nat) d x, l[i]? = some d → xs[i]? = some x → RepV ρ F h w d x) → RepL ρ F h w l xs
  | [], xs, hl, _ => by simp only [RepL]; exact List.eq_nil_of_length_eq_zero (by simpa using hl)
  | d :: ds, [], hl, _ => by simp at hl
  | d :: ds, x :: xs, hl, hg => by
    simp only [RepL]
    exact ⟨x, xs, rfl, hg 0 d x rfl rfl, RepL.of (by simpa using hl) fun i d' x' h1 h2 => hg (i + 1) d' x' (by simpa using h1) (by simpa using h2)⟩

theorem RepC.get {ρ F h w} : ∀ {l : List DV} {b off : Nat} (_ : RepC ρ F h w l b off) (i : Nat) (d : DV), l[i]? = some d →
    one d = true ∧ ∃ x, w.cell? ⟨b, off + i, none⟩ = some x ∧ RepV ρ F h w d x
  | [], _, _, _, i, d, hd => by simp at hd
  | d' :: ds, b, off, hr, i, d, hd => by
    simp only [RepC] at hr
    cases i with
    | zero => simp at hd; subst hd; exact hr.1
    | succ i =>
      have := RepC.get hr.2 i d (by simpa using hd)
      rwa [Nat.add_assoc, Nat.add_comm 1 i] at this

theorem RepC.of {ρ F h w} : ∀ {l : List DV} {b off : Nat}, (∀ (i : Nat) d, l[i]? = some d → one d = true ∧ ∃ x, w.cell? ⟨b, off + i, none⟩ = some x ∧ RepV ρ F h w d x) → RepC ρ F h w l b off
  | [], _, _, _ => by simp [RepC]
  | d :: ds, b, off, hg => by
    simp only [RepC]
    refine ⟨by simpa using hg 0 d rfl, RepC.of fun i d' h1 => ?_⟩
    have := hg (i + 1) d' (by simpa using h1)
    rwa [Nat.add_assoc, Nat.add_comm 1 i]

theorem RepE.get {ρ F h w sz} : ∀ {l : List DV} {b off : Nat} (_ : RepE ρ F h w sz l b off) (i : Nat) (d : DV), l[i]? = some d → RepD ρ F h w d b (off + i * sz)
  | [], _, _, _, i, d, hd => by simp at hd
  | d' :: ds, b, off, hr, i, d, hd => by
    rw [repE_cons] at hr
    cases i with
    | zero => simp at hd; subst hd; simpa using hr.1
    | succ i =>
      have := RepE.get hr.2 i d (by simpa using hd)
      rwa [Nat.add_assoc, show sz + i * sz = (i + 1) * sz by rw [Nat.add_mul]; omega] at this

theorem RepE.of {ρ F h w sz} : ∀ {l : List DV} {b off : Nat}, (∀ (i : Nat) d, l[i]? = some d → RepD ρ F h w d b (off + i * sz)) → RepE ρ F h w sz l b off
  | [], _, _, _ => by simp [RepE]
  | d :: ds, b, off, hg => by
    rw [repE_cons]
    refine ⟨by simpa using hg 0 d rfl, RepE.of fun i d' h1 => ?_⟩
    have := hg (i + 1) d' (by simpa using h1)
    rwa [Nat.add_assoc, show sz + i * sz = (i + 1) * sz by rw [Nat.add_mul]; omega]

/-! ## Objects, the whole state -/

def owns : AObj → Bool
  | .frz .. => false
  | _ => true

def RepM (ρ : Rho) (F : Nat → Prop) (h : Hp) (w : World) : List (Value × DV × Nat) → List MapEntry → Prop
  | [], es => es = []
  | (k, d, n) :: l, es => ∃ e r, es = e :: r ∧ e.key = k ∧ e.born = n ∧ RepV ρ F h w d e.val ∧ RepM ρ F h w l r

def RepO (ρ : Rho) (F : Nat → Prop) (h : Hp) (w : World) (t : Tok) : AObj → Prop
  | .cells ty cs => ∃ b arr, ρ t = some b ∧ w.heap[b]? = some (.cells arr ty (0, 0)) ∧ cs.all one = true ∧ RepL ρ F h w cs arr.toList
  | .row ty sz xs => closedL xs = true ∧ (∀ d ∈ xs, d.cells.length = sz) ∧ 0 < sz ∧
      ((xs = [] ∧ ρ t = none) ∨ ∃ b arr, ρ t = some b ∧ w.heap[b]? = some (.cells arr ty (0, 0)) ∧ xs.length * sz ≤ arr.size ∧ RepE ρ F h w sz xs b 0)
  | .frz _ sz xs => closedL xs = true ∧ (∀ d ∈ xs, d.cells.length = sz) ∧ 0 < sz ∧
      (∀ b, ρ t = some b → F b) ∧ (xs ≠ [] → ∃ b, ρ t = some b ∧ RepE ρ F h w sz xs b 0)
  | .mp es clock => ∃ b arr, ρ t = some b ∧ w.heap[b]? = some (.map arr clock) ∧ RepM ρ F h w es arr.toList
  | .sit s pos => ∃ b, ρ t = some b ∧ w.heap[b]? = some (.stringIter s pos)

/-- The blocks that are the code's own. -/
def Own (ρ : Rho) (h : Hp) (b : Nat) : Prop := ∃ t o, h t = some o ∧ owns o = true ∧ ρ t = some b

structure Rel (W0 : World) (ρ : Rho) (F : Nat → Prop) (h : Hp) (w : World) : Prop where
  base : ∀ b, b < W0.heap.size → F b ∧ w.heap[b]? = W0.heap[b]?
  obj : ∀ t o, h t = some o → RepO ρ F h w t o
  fin : ∀ b, F b → b < w.heap.size
  sep : ∀ b, Own ρ h b → ¬ F b
  inj : ∀ t o t' o' b, h t = some o → owns o = true → h t' = some o' → owns o' = true → ρ t = some b → ρ t' = some b → t = t'

structure Ext (ρ : Rho) (F : Nat → Prop) (h : Hp) (w : World) (ρ' : Rho) (F' : Nat → Prop) (h' : Hp) (w' : World) : Prop where
  os : w'.os = w.os
  tape : w'.tape = w.tape
  output : w'.output = w.output
  size : w.heap.size ≤ w'.heap.size
  keep : ∀ b, b < w.heap.size → ¬ Own ρ h b → w'.heap[b]? = w.heap[b]?
  imp : ∀ b, F b → F' b
  newF : ∀ b, b < w.heap.size → F' b → F b ∨ Own ρ h b
  newO : ∀ b, b < w.heap.size → Own ρ' h' b → Own ρ h b

theorem Ext.refl (ρ F h w) : Ext ρ F h w ρ F h w :=
  ⟨rfl, rfl, rfl, Nat.le_refl _, fun _ _ _ => rfl, fun _ h => h, fun _ _ h => .inl h, fun _ _ h => h⟩

theorem Ext.trans {ρ F h w ρ1 F1 h1 w1 ρ2 F2 h2 w2} (a : Ext ρ F h w ρ1 F1 h1 w1) (b : Ext ρ1 F1 h1 w1 ρ2 F2 h2 w2) : Ext ρ F h w ρ2 F2 h2 w2 where
  os := b.os.trans a.os
  tape := b.tape.trans a.tape
  output := b.output.trans a.output
  size := Nat.le_trans a.size b.size
  keep := fun n hn ho => (b.keep n (Nat.lt_of_lt_of_le hn a.size) fun h => ho (a.newO n hn h)).trans (a.keep n hn ho)
  imp := fun n h => b.imp n (a.imp n h)
  newF := fun n hn h => by
    rcases b.newF n (Nat.lt_of_lt_of_le hn a.size) h with h | h
    · exact a.newF n hn h
    · exact .inr (a.newO n hn h)
  newO := fun n hn h => a.newO n hn (b.newO n (Nat.lt_of_lt_of_le hn a.size) h)

theorem Keep.refl (T : Tok → Prop) (ρ F h w) : Keep T ρ F h w ρ F h w :=
  ⟨fun _ h => h, fun _ _ => rfl, fun _ _ h => ⟨h, fun _ h => h⟩, fun _ m _ h => ⟨m, h, Nat.le_refl _, fun _ _ h => ⟨h, fun _ h => h⟩⟩⟩

theorem Keep.trans {T : Tok → Prop} {ρ F h w ρ1 F1 h1 w1 ρ2 F2 h2 w2} (a : Keep T ρ F h w ρ1 F1 h1 w1) (b : Keep T ρ1 F1 h1 w1 ρ2 F2 h2 w2) : Keep T ρ F h w ρ2 F2 h2 w2 where
  imp := fun n h => b.imp n (a.imp n h)
  blk := fun n h => (b.blk n (a.imp n h)).trans (a.blk n h)
  non := fun t ht h => by
    obtain ⟨h1, h2⟩ := b.non t ht h
    obtain ⟨h3, h4⟩ := a.non t ht h1
    exact ⟨h3, fun n hn => h2 n (h4 n hn)⟩
  row := fun t m ht h => by
    obtain ⟨m1, h1, h2, h3⟩ := b.row t m ht h
    obtain ⟨m0, h4, h5, h6⟩ := a.row t m1 ht h1
    refine ⟨m0, h4, Nat.le_trans h5 h2, fun e n hn => ?_⟩
    obtain ⟨h7, h8⟩ := h6 (by omega) n hn
    obtain ⟨h9, h10⟩ := h3 (by omega) n h7
    exact ⟨h9, fun k hk => h10 k (h8 k hk)⟩

theorem Keep.weaken {T T' : Tok → Prop} {ρ F h w ρ1 F1 h1 w1} (a : Keep T ρ F h w ρ1 F1 h1 w1) (hT : ∀ t, T' t → T t) : Keep T' ρ F h w ρ1 F1 h1 w1 :=
  ⟨a.imp, a.blk, fun t ht => a.non t (hT t ht), fun t m ht => a.row t m (hT t ht)⟩

end Go.Di
