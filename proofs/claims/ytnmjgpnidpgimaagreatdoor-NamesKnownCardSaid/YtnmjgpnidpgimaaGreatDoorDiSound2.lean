/- Each operation at the level of data is the machine's: what becomes persistent, stores. -/
import Derived.Test.YtnmjgpnidpgimaaGreatDoorDiSound1
namespace Go.Di
open Go.RowKit
set_option linter.unusedSectionVars false

section
variable {P : Program} {W0 : World} {T : Tok → Prop} {ρ : Rho} {F : Nat → Prop} {h : Hp} {w : World}

/-! ## Rows become persistent -/
/-- h1 is h, some rows of it persistent. -/
def Frz (h h1 : Hp) : Prop := ∀ t, h1 t = h t ∨ ∃ ty sz xs, h t = some (.row ty sz xs) ∧ h1 t = some (.frz ty sz xs)

theorem Frz.refl (h : Hp) : Frz h h := fun _ => .inl rfl

theorem Hp.set_self {h : Hp} {t : Tok} {o : AObj} (he : h t = some o) : h.set t o = h := by
  funext u
  by_cases e : u = t
  · subst e; simp [Hp.set, he]
  · simp [Hp.set, e]

/-- Freezing these. -/
theorem good_frzAll : ∀ (ts : List Tok) {F1 : Nat → Prop} {h1 : Hp}, Frz h h1 → Rel W0 ρ F1 h1 w →
    ∃ F2 h2, h2 = (frzAll h ts).app h1 ∧ Frz h h2 ∧ Good W0 T ρ F1 h1 w ρ F2 h2 w ∧ (∀ t ∈ ts, ∀ ty sz xs, h t = some (.row ty sz xs) → h2 t = some (.frz ty sz xs)) ∧
      (∀ t, h1 t ≠ h t → h2 t = h1 t)
  | [], F1, h1, hf, r => ⟨F1, h1, rfl, hf, Good.refl r, (fun t ht => by cases ht), fun _ _ => rfl⟩
  | t :: ts, F1, h1, hf, r => by
    have key : ∃ F2 h2, h2 = (frzUpd h t).app h1 ∧ Frz h h2 ∧ Good W0 T ρ F1 h1 w ρ F2 h2 w ∧ (∀ ty sz xs, h t = some (.row ty sz xs) → h2 t = some (.frz ty sz xs)) ∧ (∀ u, h1 u ≠ h u → h2 u = h1 u) := by
      unfold frzUpd
      split
      · rename_i ty sz xs ht
        rcases hf t with h2 | ⟨ty', sz', xs', h2, h3⟩
        · rw [ht] at h2
          refine ⟨_, h1.set t (.frz ty sz xs), rfl, fun u => ?_, good_frz r h2, fun ty' sz' xs' h3 => ?_, fun u hu => ?_⟩
          · by_cases e : u = t
            · subst e; exact .inr ⟨ty, sz, xs, ht, Hp.set_same ..⟩
            · rw [Hp.set_ne _ _ e]; exact hf u
          · rw [ht] at h3; cases h3; exact Hp.set_same ..
          · by_cases e : u = t
            · subst e; rw [h2, ht] at hu; exact absurd rfl hu
            · exact Hp.set_ne _ _ e
        · rw [ht] at h2; cases h2
          refine ⟨F1, h1, ?_, hf, Good.refl r, fun ty' sz' xs' h4 => ?_, fun _ _ => rfl⟩
          · simp only [Hl.app]; exact (Hp.set_self h3).symm
          · rw [ht] at h4; cases h4; exact h3
      · rename_i hn
        exact ⟨F1, h1, rfl, hf, Good.refl r, fun ty sz xs h2 => absurd h2 (hn ty sz xs), fun _ _ => rfl⟩
    obtain ⟨F2, h2, e2, hf2, g2, hz, hk⟩ := key
    obtain ⟨F3, h3, e3, hf3, g3, hz3, hk3⟩ := good_frzAll ts hf2 g2.rel
    refine ⟨F3, h3, ?_, hf3, g2.trans g3, fun u hu ty sz xs hx => ?_, fun u hu => ?_⟩
    · rw [e3, e2]; show _ = Hl.app (frzUpd h t ++ frzAll h ts) h1; rw [Hl.app_append]
    · rcases List.mem_cons.1 hu with rfl | hu
      · have := hz ty sz xs hx
        rw [← this]; exact hk3 u (by rw [this, hx]; simp)
      · exact hz3 u hu ty sz xs hx
    · have := hk u hu
      rw [← this]; exact hk3 u (by rw [this]; exact hu)

theorem frz_rowOf {h h1 : Hp} (hf : Frz h h1) (t : Tok) : rowOf h1 t = rowOf h t := by
  rcases hf t with e | ⟨ty, sz, xs, e1, e2⟩
  · unfold rowOf; rw [e]
  · unfold rowOf; rw [e1, e2]

theorem closedL_drop {xs : List DV} (hc : closedL xs = true) (n : Nat) : closedL (xs.drop n) = true :=
  closedL_of fun d hd => closedL_mem hc (List.mem_of_mem_drop hd)
theorem closedL_take {xs : List DV} (hc : closedL xs = true) (n : Nat) : closedL (xs.take n) = true :=
  closedL_of fun d hd => closedL_mem hc (List.mem_of_mem_take hd)

theorem repE_seg {sz : Nat} {xs : List DV} {b o : Nat} (hr : RepE ρ F h w sz xs b o) (off n : Nat) : RepE ρ F h w sz ((xs.drop off).take n) b (o + off * sz) :=
  RepE.of fun i d hd => by
    have hi : xs[off + i]? = some d := by
      rw [List.getElem?_take] at hd
      split at hd
      · simpa [List.getElem?_drop] using hd
      · cases hd
    have := hr.get (off + i) d hi
    rwa [Nat.add_assoc, ← Nat.add_mul]

-- What is handed on as persistent.
mutual
theorem res_rep {F1 : Nat → Prop} {h1 : Hp} (hf : Frz h h1) (r1 : Rel W0 ρ F1 h1 w) (k : Keep (fun _ => True) ρ F h w ρ F1 h1 w) :
    ∀ {d d' : DV} {ts : List Tok} {x : Value}, res h d = some (d', ts) → (∀ t ∈ ts, ∀ ty sz xs, h t = some (.row ty sz xs) → h1 t = some (.frz ty sz xs)) →
      RepV ρ F h w d x → RepV ρ F1 h1 w d' x ∧ closed d' = true
  | .row sz t n off len, d', ts, x, hr, hz, hv => by
    simp only [res] at hr
    cases hrow : rowOf h t with
    | none => simp [hrow] at hr
    | some p =>
      obtain ⟨sz', xs⟩ := p
      simp only [hrow] at hr
      split at hr
      · rename_i hc
        obtain ⟨rfl, hn⟩ := hc
        cases hr
        simp only [RepV] at hv ⊢
        obtain ⟨A, c, hx, hlc, hrest⟩ := hv
        have hlen : h.len? t = some xs.length := by
          unfold rowOf at hrow
          split at hrow
          · rename_i ho; cases hrow; simp [Hp.len?, ho, AObj.len?]
          · rename_i ho; cases hrow; simp [Hp.len?, ho, AObj.len?]
          · cases hrow
        obtain ⟨_, h3⟩ := hrest _ hlen
        obtain ⟨h4, h5⟩ := h3 hn
        have hl : ((xs.drop off).take len).length = len := by simp; omega
        obtain ⟨_, g1, g2, g3, _⟩ := row_block r1 (by rw [frz_rowOf hf]; exact hrow : rowOf h1 t = some (sz', xs))
        -- in h1 it is persistent
        have hfz : xs ≠ [] → ∃ b, ρ t = some b ∧ F1 b ∧ RepE ρ F1 h1 w sz' xs b 0 := by
          intro hne
          have : ∃ ty, h1 t = some (.frz ty sz' xs) := by
            unfold rowOf at hrow
            split at hrow
            · rename_i ty s y ho; cases hrow; exact ⟨ty, hz t (by simp) ty _ _ ho⟩
            · rename_i ty s y ho
              cases hrow
              rcases hf t with e | ⟨ty2, sz2, xs2, e1, e2⟩
              · exact ⟨ty, e.trans ho⟩
              · rw [ho] at e1; cases e1
            · cases hrow
          obtain ⟨ty, hty⟩ := this
          have := r1.obj t _ hty
          simp only [RepO] at this
          obtain ⟨b, hb, hE⟩ := this.2.2.2.2 hne
          exact ⟨b, hb, this.2.2.2.1 b hb, hE⟩
        refine ⟨⟨A, c, by rw [hl]; exact hx, by rw [hl]; exact hlc, (fun hk => by cases hk), LkOk.ro, closedL_take (closedL_drop g1 off) len, fun d hd => g2 d (List.mem_of_mem_drop (List.mem_of_mem_take hd)), fun hne => ?_⟩, ?_⟩
        · have hne' : xs ≠ [] := fun e => by subst e; simp at hne
          obtain ⟨b, hb, hF, hE⟩ := hfz hne'
          have hlpos : 0 < len := by
            rcases Nat.eq_zero_or_pos len with e | e
            · subst e; simp at hne
            · exact e
          obtain ⟨b', hb', hA, _⟩ := h5 (by omega)
          rw [hb] at hb'; cases hb'
          refine ⟨b, off * sz', hA, hF, ?_⟩
          have := repE_seg hE off len
          rwa [Nat.zero_add] at this
        · simp only [closed]; exact closedL_take (closedL_drop g1 off) len
      · cases hr
  | .agg cs, d', ts, x, hr, hz, hv => by
    simp only [res, Option.map_eq_some_iff] at hr
    obtain ⟨p, hp, he⟩ := hr
    cases he
    simp only [RepV] at hv ⊢
    obtain ⟨u, hx, h1, h2⟩ := hv
    obtain ⟨h3, h4, h5⟩ := resL_rep hf r1 k hp hz h2
    exact ⟨⟨u, hx, h5 h1, h3⟩, by simpa [closed] using h4⟩
  | .iface ty d, d', ts, x, hr, hz, hv => by
    simp only [res, Option.map_eq_some_iff] at hr
    obtain ⟨p, hp, he⟩ := hr
    cases he
    simp only [RepV] at hv ⊢
    obtain ⟨y, hx, h2⟩ := hv
    obtain ⟨h3, h4⟩ := res_rep hf r1 k (d := d) (d' := p.1) (ts := p.2) hp hz h2
    exact ⟨⟨y, hx, h3⟩, by simpa [closed] using h4⟩
  | .tup cs, d', ts, x, hr, hz, hv => by
    simp only [res, Option.map_eq_some_iff] at hr
    obtain ⟨p, hp, he⟩ := hr
    cases he
    simp only [RepV] at hv ⊢
    obtain ⟨u, hx, h2⟩ := hv
    obtain ⟨h3, h4, _⟩ := resL_rep hf r1 k hp hz h2
    exact ⟨⟨u, hx, h3⟩, by simpa [closed] using h4⟩
  | .fn f a b, d', ts, x, hr, hz, hv => by
    simp only [res] at hr
    cases hp : resL h a with
    | none => simp [hp] at hr
    | some p =>
      cases hq : resL h b with
      | none => simp [hp, hq] at hr
      | some q =>
        simp only [hp, hq, Option.some.injEq, Prod.mk.injEq] at hr
        obtain ⟨rfl, rfl⟩ := hr
        simp only [RepV] at hv ⊢
        obtain ⟨u, v, hx, h2, h3⟩ := hv
        obtain ⟨h4, h5, _⟩ := resL_rep hf r1 k hp (fun t ht => hz t (by simp [ht])) h2
        obtain ⟨h6, h7, _⟩ := resL_rep hf r1 k hq (fun t ht => hz t (by simp [ht])) h3
        exact ⟨⟨u, v, hx, h4, h6⟩, by simp [closed, h5, h7]⟩
  | .sc v, d', ts, x, hr, hz, hv => by
    simp only [res] at hr
    split at hr
    · rename_i hp; cases hr; exact ⟨RepV.keep k _ _ (fun _ _ => trivial) hv, by simpa [closed] using hp⟩
    · cases hr
  | .lst sz xs kk, d', ts, x, hr, hz, hv => by
    simp only [res, Option.some.injEq, Prod.mk.injEq] at hr
    obtain ⟨rfl, rfl⟩ := hr
    refine ⟨RepV.keep k _ _ (fun _ _ => trivial) hv, ?_⟩
    simp only [RepV] at hv
    obtain ⟨A, c, _, _, _, _, hc, _⟩ := hv
    simpa [closed] using hc
  | .pref cs, d', ts, x, hr, hz, hv => by
    simp only [res, Option.some.injEq, Prod.mk.injEq] at hr
    obtain ⟨rfl, rfl⟩ := hr
    refine ⟨RepV.keep k _ _ (fun _ _ => trivial) hv, ?_⟩
    simp only [RepV] at hv
    obtain ⟨b, o, _, _, hc, _⟩ := hv
    simpa [closed] using hc
  | .ptr .., _, _, _, hr, _, _ => by simp [res] at hr
  | .rptr .., _, _, _, hr, _, _ => by simp [res] at hr
  | .map .., _, _, _, hr, _, _ => by simp [res] at hr
  | .any, _, _, _, hr, _, _ => by simp [res] at hr
theorem resL_rep {F1 : Nat → Prop} {h1 : Hp} (hf : Frz h h1) (r1 : Rel W0 ρ F1 h1 w) (k : Keep (fun _ => True) ρ F h w ρ F1 h1 w) :
    ∀ {l : List DV} {p : List DV × List Tok} {xs : List Value}, resL h l = some p → (∀ t ∈ p.2, ∀ ty sz xs, h t = some (.row ty sz xs) → h1 t = some (.frz ty sz xs)) →
      RepL ρ F h w l xs → RepL ρ F1 h1 w p.1 xs ∧ closedL p.1 = true ∧ (l.all one = true → p.1.all one = true)
  | [], p, xs, hr, _, hv => by
    simp only [resL, Option.some.injEq] at hr
    subst hr
    simp only [RepL] at hv ⊢
    exact ⟨hv, rfl, fun _ => rfl⟩
  | d :: ds, p, xs, hr, hz, hv => by
    simp only [resL] at hr
    cases hp : res h d with
    | none => simp [hp] at hr
    | some q =>
      cases hq : resL h ds with
      | none => simp [hp, hq] at hr
      | some s =>
        simp only [hp, hq, Option.some.injEq] at hr
        subst hr
        simp only [RepL] at hv ⊢
        obtain ⟨y, ys, hx, h2, h3⟩ := hv
        obtain ⟨h4, h5⟩ := res_rep hf r1 k (d := d) (d' := q.1) (ts := q.2) hp (fun t ht => hz t (by simp [ht])) h2
        obtain ⟨h6, h7, h8⟩ := resL_rep hf r1 k hq (fun t ht => hz t (by simp [ht])) h3
        refine ⟨⟨y, ys, hx, h4, h6⟩, by simp [closedL, h5, h7], fun ho => ?_⟩
        simp only [List.all_cons, Bool.and_eq_true] at ho ⊢
        refine ⟨?_, h8 ho.2⟩
        have hd := ho.1
        cases d <;> simp only [res] at hp <;> first
          | (simp [one] at hd; done)
          | (cases hp; rfl)
          | (split at hp <;> first | (cases hp; rfl) | (split at hp <;> first | (cases hp; rfl) | cases hp) | cases hp)
          | (simp only [Option.map_eq_some_iff] at hp; obtain ⟨z, _, rfl⟩ := hp; rfl)
          | cases hp
end

/-- A value handed on as persistent, and the state behind it. -/
theorem res_good (r : Rel W0 ρ F h w) {d d' : DV} {ts : List Tok} {x : Value} (hr : res h d = some (d', ts)) (hv : RepV ρ F h w d x) :
    ∃ F1, Good W0 T ρ F h w ρ F1 ((frzAll h ts).app h) w ∧ Frz h ((frzAll h ts).app h) ∧ RepV ρ F1 ((frzAll h ts).app h) w d' x ∧ closed d' = true := by
  obtain ⟨F1, h1, e, hf, g, hz, _⟩ := good_frzAll (T := fun _ => True) ts (Frz.refl h) r
  obtain ⟨h2, h3⟩ := res_rep hf g.rel g.keep hr hz hv
  subst e
  exact ⟨F1, g.weaken fun _ _ => trivial, hf, h2, h3⟩

theorem resL_good (r : Rel W0 ρ F h w) {l : List DV} {p : List DV × List Tok} {xs : List Value} (hr : resL h l = some p) (hv : RepL ρ F h w l xs) :
    ∃ F1, Good W0 T ρ F h w ρ F1 ((frzAll h p.2).app h) w ∧ Frz h ((frzAll h p.2).app h) ∧ RepL ρ F1 ((frzAll h p.2).app h) w p.1 xs ∧ closedL p.1 = true := by
  obtain ⟨F1, h1, e, hf, g, hz, _⟩ := good_frzAll (T := fun _ => True) p.2 (Frz.refl h) r
  obtain ⟨h2, h3, _⟩ := resL_rep hf g.rel g.keep hr hz hv
  subst e
  exact ⟨F1, g.weaken fun _ _ => trivial, hf, h2, h3⟩

theorem frz_other {h h1 : Hp} (hf : Frz h h1) {t : Tok} (hn : ∀ ty sz xs, h t ≠ some (.row ty sz xs)) : h1 t = h t := by
  rcases hf t with e | ⟨ty, sz, xs, e1, _⟩
  · exact e
  · exact absurd e1 (hn ty sz xs)

/-- What is not among the names is not frozen. -/
theorem frzAll_ne (h0 : Hp) : ∀ (ts : List Tok) (h1 : Hp) {t : Tok}, t ∉ ts → (frzAll h0 ts).app h1 t = h1 t
  | [], _, _, _ => rfl
  | u :: us, h1, t, ht => by
    simp only [List.mem_cons, not_or] at ht
    show Hl.app (frzUpd h0 u ++ frzAll h0 us) h1 t = _
    rw [Hl.app_append, frzAll_ne h0 us _ ht.2]
    unfold frzUpd
    split
    · simp only [Hl.app]; exact Hp.set_ne _ _ ht.1
    · rfl

/-! ## Lists of cells -/
theorem RepL.append : ∀ {a b : List DV} {xs ys : List Value}, RepL ρ F h w a xs → RepL ρ F h w b ys → RepL ρ F h w (a ++ b) (xs ++ ys)
  | [], b, xs, ys, h1, h2 => by simp only [RepL] at h1; subst h1; simpa using h2
  | d :: ds, b, xs, ys, h1, h2 => by
    simp only [RepL, List.cons_append] at *
    obtain ⟨y, zs, rfl, h3, h4⟩ := h1
    exact ⟨y, zs ++ ys, rfl, h3, h4.append h2⟩

theorem RepL.take {a : List DV} {xs : List Value} (hr : RepL ρ F h w a xs) (n : Nat) : RepL ρ F h w (a.take n) (xs.take n) :=
  RepL.of (by simp [hr.length]) fun i d x h1 h2 => by
    rw [List.getElem?_take] at h1 h2
    split at h1
    · rename_i hi
      rw [if_pos hi] at h2
      obtain ⟨y, hy, hry⟩ := hr.get i d h1
      rw [h2] at hy; cases hy; exact hry
    · cases h1

theorem RepL.drop {a : List DV} {xs : List Value} (hr : RepL ρ F h w a xs) (n : Nat) : RepL ρ F h w (a.drop n) (xs.drop n) :=
  RepL.of (by simp [hr.length]) fun i d x h1 h2 => by
    rw [List.getElem?_drop] at h1 h2
    obtain ⟨y, hy, hry⟩ := hr.get _ d h1
    rw [h2] at hy; cases hy; exact hry

theorem RepL.fill {cs xs : List DV} {as vs : List Value} (h1 : RepL ρ F h w cs as) (h2 : RepL ρ F h w xs vs) (off : Nat) :
    RepL ρ F h w (fillAt cs off xs) (as.take off ++ vs ++ as.drop (off + vs.length)) := by
  unfold fillAt
  rw [h2.length]
  exact ((h1.take off).append h2).append (h1.drop _)

theorem all_one_fill {cs xs : List DV} (h1 : cs.all one = true) (h2 : xs.all one = true) (off : Nat) : (fillAt cs off xs).all one = true := by
  unfold fillAt
  simp only [List.all_append, Bool.and_eq_true]
  refine ⟨⟨?_, h2⟩, ?_⟩
  · exact List.all_eq_true.2 fun x hx => List.all_eq_true.1 h1 x (List.mem_of_mem_take hx)
  · exact List.all_eq_true.2 fun x hx => List.all_eq_true.1 h1 x (List.mem_of_mem_drop hx)

theorem fillAt_length {cs xs : List DV} {off : Nat} (ho : off + xs.length ≤ cs.length) : (fillAt cs off xs).length = cs.length := by
  unfold fillAt; simp; omega

theorem setRow_far (w : World) (g k : Nat) (cs : Array Value) (hk : k ≠ g) : (w.setRow g cs).heap[k]? = w.heap[k]? := setRow_other w g k cs hk

theorem capOk_setRow {b k : Nat} {arr arr' : Array Value} {ty : TypeId} (hb : w.heap[b]? = some (.cells arr ty (0, 0))) (hs : arr'.size = arr.size) (hk : CapOk w b k) : CapOk (w.setRow b arr') b k := by
  obtain ⟨a2, t2, h1, h2⟩ := hk
  rw [hb] at h1; cases h1
  exact ⟨arr', ty, setRow_heap w b arr arr' ty _ hb, by omega⟩

/-! ## Stores -/
theorem run_storeVar_rep {t : TypeId} {n : Nat} (ht : szTy P t = some n) {b off : Nat} {arr : Array Value} {ty : TypeId} (hb : w.heap[b]? = some (.cells arr ty (0, 0)))
    {d : DV} {x : Value} (hs : stb d = true) (hd : d.cells.length = n) (hv : RepV ρ F h w d x) (ho : off + n ≤ arr.size) :
    (storeVar t ⟨b, off, none⟩ x).run P w = .ok () (w.setRow b (arr.toList.take off ++ x.cells.toList ++ arr.toList.drop (off + x.cells.toList.length)).toArray) ∧ x.cells.toList.length = n := by
  obtain ⟨h1, h2⟩ := RepV.cells hs hv
  have hl := h1.length
  have hn : x.cells.toList.length = n := by omega
  refine ⟨?_, hn⟩
  have hst := run_storeCells_at P b off ty x.cells.toList 0 arr w hb (by omega) (h1.oneCells h2)
  simp only [storeVar, Sem.run_bind, szTy_run ht, Result.andThen_ok]
  have hne : ¬ (x.cells.size ≠ n) := by simp at hn ⊢; exact hn
  rw [if_neg hne]
  simpa using hst

theorem ok_store_ptr (r : Rel W0 ρ F h w) {t : TypeId} {n : Nat} (ht : szTy P t = some n) {tk : Tok} {off : Nat} {d : DV} {x y : Value} {ty : TypeId} {cs : List DV} (hobj : h tk = some (.cells ty cs))
    (hs : stb d = true) (hd : d.cells.length = n) (ho : off + n ≤ cs.length) (ha : RepV ρ F h w (.ptr tk off) x) (hv : RepV ρ F h w d y) :
    ∃ w', (Instr.storeAt t x y).run P w = .ok () w' ∧ Good W0 T ρ F h w ρ F (h.set tk (.cells ty (fillAt cs off d.cells))) w' := by
  simp only [RepV] at ha
  obtain ⟨b, hb, rfl⟩ := ha.2 (by simp [Hp.len?, hobj, AObj.len?])
  have hO := r.obj tk _ hobj
  simp only [RepO] at hO
  obtain ⟨b', arr, h1, h2, h3, h4⟩ := hO
  rw [hb] at h1; cases h1
  have hlen := h4.length
  obtain ⟨hrun, hxl⟩ := run_storeVar_rep ht h2 (off := off) hs hd hv (by simp at hlen; omega)
  refine ⟨_, by simp only [Instr.storeAt, Instr.sureAddr, Sem.run_bind, Sem.run_pure, Result.andThen_ok]; exact hrun, ?_⟩
  have hsz : (arr.toList.take off ++ y.cells.toList ++ arr.toList.drop (off + y.cells.toList.length)).toArray.size = arr.size := by simp at hlen hxl ⊢; omega
  obtain ⟨c1, c2⟩ := RepV.cells hs hv
  have k := keep_upd r (o' := .cells ty (fillAt cs off d.cells)) (w' := w.setRow b (arr.toList.take off ++ y.cells.toList ++ arr.toList.drop (off + y.cells.toList.length)).toArray) hobj rfl hb (fun _ => rfl) (fun m hm => by cases hm)
    (fun k hk => capOk_setRow h2 hsz hk) (fun c hc => setRow_far _ _ _ _ hc)
  refine good_upd r hobj rfl hb (fun _ => rfl) (fun m hm => by cases hm) (fun k hk => capOk_setRow h2 hsz hk) (fun c hc => setRow_far _ _ _ _ hc) (by simp) (by simp) (by simp) (by simp) ?_
  simp only [RepO]
  refine ⟨b, _, hb, setRow_heap w b arr _ ty _ h2, all_one_fill h3 c2 off, ?_⟩
  exact RepL.keep k _ _ (fun _ _ => trivial) (h4.fill c1 off)
end
end Go.Di
