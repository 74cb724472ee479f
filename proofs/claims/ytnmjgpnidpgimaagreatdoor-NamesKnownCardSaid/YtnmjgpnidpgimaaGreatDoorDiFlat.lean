/- Rows of values laid flat. -/
import Derived.Test.YtnmjgpnidpgimaaGreatDoorDiSound2
namespace Go.Di
open Go.RowKit
set_option linter.unusedSectionVars false

def flat (xs : List DV) : List DV := xs.flatMap DV.cells

theorem flat_cons (d : DV) (ds : List DV) : flat (d :: ds) = d.cells ++ flat ds := rfl
theorem flat_append (a b : List DV) : flat (a ++ b) = flat a ++ flat b := by simp [flat]
theorem flat_length {sz : Nat} : ∀ {xs : List DV}, (∀ d ∈ xs, d.cells.length = sz) → (flat xs).length = xs.length * sz
  | [], _ => by simp [flat]
  | d :: ds, h => by
    rw [flat_cons, List.length_append, h d (by simp), flat_length fun x hx => h x (by simp [hx])]
    simp [Nat.add_mul]; omega

theorem fillAt_left {a b xs : List DV} {off : Nat} (h : off + xs.length ≤ a.length) : fillAt (a ++ b) off xs = fillAt a off xs ++ b := by
  unfold fillAt
  rw [List.take_append_of_le_length (by omega), List.drop_append_of_le_length h]
  simp
theorem fillAt_right {a b xs : List DV} {off : Nat} : fillAt (a ++ b) (a.length + off) xs = a ++ fillAt b off xs := by
  unfold fillAt
  rw [List.take_length_add_append, Nat.add_assoc, List.drop_length_add_append]
  simp
theorem fillAt_all {a xs : List DV} (h : xs.length = a.length) : fillAt a 0 xs = xs := by
  unfold fillAt; simp [h]

theorem flat_set {sz r : Nat} {dc : List DV} {e' : DV} : ∀ {xs : List DV} {i : Nat} {e : DV}, (∀ d ∈ xs, d.cells.length = sz) → xs[i]? = some e → r + dc.length ≤ sz →
    e'.cells = fillAt e.cells r dc → flat (xs.set i e') = fillAt (flat xs) (i * sz + r) dc
  | [], i, e, _, h, _, _ => by simp at h
  | d :: ds, 0, e, hs, h, hr, he => by
    simp at h; subst h
    have := hs d (by simp)
    rw [List.set_cons_zero, flat_cons, flat_cons, he, Nat.zero_mul, Nat.zero_add, fillAt_left (by omega)]
  | d :: ds, i + 1, e, hs, h, hr, he => by
    have hd := hs d (by simp)
    rw [List.set_cons_succ, flat_cons, flat_cons, flat_set (xs := ds) (fun x hx => hs x (by simp [hx])) (by simpa using h) hr he]
    rw [show (i + 1) * sz + r = d.cells.length + (i * sz + r) by rw [hd, Nat.add_mul]; omega, fillAt_right]

theorem flat_get {sz : Nat} : ∀ {xs : List DV} {i : Nat} {e : DV}, (∀ d ∈ xs, d.cells.length = sz) → xs[i]? = some e → ∀ c, c < sz → (flat xs)[i * sz + c]? = e.cells[c]?
  | [], i, e, _, h, _, _ => by simp at h
  | d :: ds, 0, e, hs, h, c, hc => by
    simp at h; subst h
    have := hs d (by simp)
    rw [flat_cons, Nat.zero_mul, Nat.zero_add, List.getElem?_append_left (by omega)]
  | d :: ds, i + 1, e, hs, h, c, hc => by
    have hd := hs d (by simp)
    rw [flat_cons, show (i + 1) * sz + c = d.cells.length + (i * sz + c) by rw [hd, Nat.add_mul]; omega, List.getElem?_append_right (by omega)]
    rw [show d.cells.length + (i * sz + c) - d.cells.length = i * sz + c by omega]
    exact flat_get (fun x hx => hs x (by simp [hx])) (by simpa using h) c hc

section
variable {P : Program} {W0 : World} {T : Tok → Prop} {ρ : Rho} {F : Nat → Prop} {h : Hp} {w : World}

theorem repE_flat {sz b off : Nat} : ∀ {xs : List DV} {o : Nat}, (∀ d ∈ xs, d.cells.length = sz) → (RepE ρ F h w sz xs b (off + o) ↔ RepC ρ F h w (flat xs) b (off + o))
  | [], _, _ => by simp [RepE, flat, RepC]
  | d :: ds, o, hs => by
    have hd := hs d (by simp)
    rw [repE_cons, flat_cons, Nat.add_assoc, repE_flat (xs := ds) (o := o + sz) fun x hx => hs x (by simp [hx])]
    constructor
    · rintro ⟨h1, h2⟩
      refine RepC.of fun i e he => ?_
      rw [List.getElem?_append] at he
      split at he
      · exact RepC.get h1 i e he
      · have := RepC.get h2 (i - d.cells.length) e he
        rwa [show off + (o + sz) + (i - d.cells.length) = off + o + i by omega] at this
    · intro h1
      refine ⟨RepC.of fun i e he => RepC.get h1 i e ?_, RepC.of fun i e he => ?_⟩
      · rw [List.getElem?_append_left (List.getElem?_eq_some_iff.1 he).1]; exact he
      · have := RepC.get h1 (d.cells.length + i) e (by rw [List.getElem?_append_right (by omega)]; simpa using he)
        rwa [show off + o + (d.cells.length + i) = off + (o + sz) + i by omega] at this

theorem repE_iff {sz b : Nat} {xs : List DV} (hs : ∀ d ∈ xs, d.cells.length = sz) : RepE ρ F h w sz xs b 0 ↔ RepC ρ F h w (flat xs) b 0 :=
  repE_flat (off := 0) (o := 0) hs

/-- A block's cells against a list of values. -/
theorem repC_iff_block {cs : List DV} {arr : Array Value} {ty : TypeId} {b : Nat} (hb : w.heap[b]? = some (.cells arr ty (0, 0))) (hl : cs.length ≤ arr.size) :
    RepC ρ F h w cs b 0 ↔ RepL ρ F h w cs (arr.toList.take cs.length) ∧ cs.all one = true := by
  have hc : ∀ i, w.cell? ⟨b, 0 + i, none⟩ = arr.toList[i]? := fun i => by simp [World.cell?, hb]
  constructor
  · intro hr
    refine ⟨RepL.of (by simp; omega) fun i d x h1 h2 => ?_, List.all_eq_true.2 fun d hd => ?_⟩
    · obtain ⟨_, y, hy, hry⟩ := hr.get i d h1
      rw [hc] at hy
      rw [List.getElem?_take] at h2
      split at h2
      · rw [hy] at h2; cases h2; exact hry
      · cases h2
    · obtain ⟨i, hi, rfl⟩ := List.mem_iff_getElem.1 hd
      exact (hr.get i _ (List.getElem?_eq_getElem hi)).1
  · rintro ⟨h1, h2⟩
    refine RepC.of fun i d hd => ⟨one_mem h2 hd, ?_⟩
    obtain ⟨x, hx, hrx⟩ := h1.get i d hd
    rw [List.getElem?_take] at hx
    split at hx
    · exact ⟨x, by rw [hc]; exact hx, hrx⟩
    · cases hx

/-! ## 'fill' -/
theorem fill_foldl : ∀ (vs : List Value) (n off : Nat) (arr : Array Value), off + n + vs.length ≤ arr.size →
    ((vs.zipIdx n).foldl (fun cs (c, j) => cs.setIfInBounds (off + j) c) arr).toList = arr.toList.take (off + n) ++ vs ++ arr.toList.drop (off + n + vs.length)
  | [], n, off, arr, _ => by simp
  | v :: vs, n, off, arr, hl => by
    simp only [List.length_cons] at hl
    simp only [List.zipIdx_cons, List.foldl_cons]
    rw [fill_foldl vs (n + 1) off (arr.setIfInBounds (off + n) v) (by simp; omega)]
    have := list_seg_step arr.toList (off + n) v vs (by simp; omega)
    simpa [Array.toList_setIfInBounds, Nat.add_assoc] using this

theorem zipIdx_toList (a : Array Value) : a.zipIdx.toList = a.toList.zipIdx := by simp

theorem fillParts_rep {g : DOpd → DV} {place : Nat → Option (Nat × Nat)} : ∀ {ps : List (Nat × Nat × DOpd)} {qs : List (Nat × Value)} {cs cs' : List DV} {arr : Array Value},
    fillParts g ps cs = some cs' → RepL ρ F h w cs arr.toList → cs.all one = true →
    ps.length = qs.length → (∀ (i : Nat) off n x j v, ps[i]? = some (off, n, x) → qs[i]? = some (j, v) → place j = some (off, n) ∧ RepV ρ F h w (g x) v) →
    ∃ arr', Instr.fill place arr qs = some arr' ∧ RepL ρ F h w cs' arr'.toList ∧ cs'.all one = true
  | [], [], cs, cs', arr, hf, hr, ho, _, _ => by
    simp only [fillParts, Option.some.injEq] at hf
    subst hf
    exact ⟨arr, rfl, hr, ho⟩
  | [], q :: qs, _, _, _, _, _, _, hl, _ => by simp at hl
  | p :: ps, [], _, _, _, _, _, _, hl, _ => by simp at hl
  | (off, n, x) :: ps, (j, v) :: qs, cs, cs', arr, hf, hr, ho, hl, hq => by
    simp only [fillParts] at hf
    split at hf
    · rename_i hc
      obtain ⟨hstb, hn, hoff⟩ := hc
      obtain ⟨hpl, hv⟩ := hq 0 off n x j v rfl rfl
      obtain ⟨c1, c2⟩ := RepV.cells hstb hv
      have hlen := c1.length
      have hlen2 := hr.length
      have hvsz : v.cells.size = n := by simp at hlen; omega
      have hfl := fill_foldl v.cells.toList 0 off arr (by simp at hlen2 ⊢; omega)
      simp only [Nat.add_zero] at hfl
      have hr' := hr.fill c1 off
      rw [← hfl] at hr'
      obtain ⟨arr', h1, h2, h3⟩ := fillParts_rep (place := place) (ps := ps) (qs := qs) hf hr' (all_one_fill ho c2 off) (by simpa using hl)
        (fun i off' n' x' j' v' h1 h2 => hq (i + 1) off' n' x' j' v' (by simpa using h1) (by simpa using h2))
      refine ⟨arr', ?_, h2, h3⟩
      simp only [Instr.fill, hpl]
      have hne : ¬ ((decide (v.cells.size ≠ n) || decide (off + v.cells.size > arr.size)) = true) := by
        simp at hlen2 ⊢; omega
      rw [if_neg hne]
      rw [← h1]
      congr 1
      rw [← Array.foldl_toList]
      simp
    · cases hf
end
end Go.Di
