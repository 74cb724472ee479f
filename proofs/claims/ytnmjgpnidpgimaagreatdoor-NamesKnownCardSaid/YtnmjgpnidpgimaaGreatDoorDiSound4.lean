/- Each operation at the level of data is the machine's: stores into rows, append. -/
import Derived.Test.YtnmjgpnidpgimaaGreatDoorDiSound3
namespace Go.Di
open Go.RowKit
set_option linter.unusedSectionVars false
set_option linter.unusedSimpArgs false
set_option linter.unusedVariables false

theorem take_fill {α : Type} {A Y : List α} {off L : Nat} (h1 : off + Y.length ≤ L) (h2 : L ≤ A.length) :
    (A.take off ++ Y ++ A.drop (off + Y.length)).take L = (A.take L).take off ++ Y ++ (A.take L).drop (off + Y.length) := by
  have hA : A = A.take L ++ A.drop L := (List.take_append_drop L A).symm
  generalize hA1 : A.take L = A1 at hA ⊢
  have hl : A1.length = L := by rw [← hA1]; simp; omega
  have e1 : A.take off = A1.take off := by rw [hA, List.take_append_of_le_length (by omega)]
  have e2 : A.drop (off + Y.length) = A1.drop (off + Y.length) ++ A.drop L := by
    conv => lhs; rw [hA]
    rw [List.drop_append_of_le_length (by omega)]
  rw [e1, e2, ← List.append_assoc, List.take_append_of_le_length (by simp; omega), List.take_of_length_le (by simp; omega)]

section
variable {P : Program} {W0 : World} {T : Tok → Prop} {ρ : Rho} {F : Nat → Prop} {h : Hp} {w : World}

theorem ok_store_rptr (r : Rel W0 ρ F h w) {t : TypeId} {n : Nat} (ht : szTy P t = some n) {tk : Tok} {sz m i q : Nat} {d d' e : DV} {x y : Value} {ty : TypeId} {xs : List DV} {ts : List Tok} (hobj : h tk = some (.row ty sz xs))
    (hres : res h d = some (d', ts)) (he : xs[i]? = some e) (hm : xs.length = m) (hs : stb d' = true) (hd : d'.cells.length = n) (hq : q + n ≤ sz) (htk : tk ∉ ts)
    (ha : RepV ρ F h w (.rptr sz tk m i q) x) (hv : RepV ρ F h w d y) :
    ∃ w' F', (Instr.storeAt t x y).run P w = .ok () w' ∧ Good W0 T ρ F h w ρ F' ((frzAll h ts ++ [(tk, AObj.row ty sz (xs.set i (if n = sz then d' else .agg (fillAt e.cells q d'.cells))))]).app h) w' := by
  obtain ⟨F1, g1, hf, hv1, hcl⟩ := res_good (T := fun _ => True) r hres hv
  rw [Hl.app_append]
  generalize hh : (frzAll h ts).app h = h1 at *
  have hobj1 : h1 tk = some (.row ty sz xs) := by rw [← hh, frzAll_ne h ts h htk]; exact hobj
  have ha1 := RepV.keep g1.keep _ _ (fun _ _ => trivial) ha
  simp only [RepV] at ha1
  obtain ⟨_, ha2⟩ := ha1
  obtain ⟨hi, hqs, b, hb, rfl⟩ := (ha2 xs.length (by simp [Hp.len?, hobj1, AObj.len?])).2 hm
  have hO := g1.rel.obj tk _ hobj1
  simp only [RepO] at hO
  obtain ⟨hc, hsz, hpos, hO⟩ := hO
  have hne : xs ≠ [] := fun e0 => by subst e0; simp at he
  rcases hO with ⟨h0, _⟩ | ⟨b', arr, hb', hblk, hle, hE⟩
  · exact absurd h0 hne
  rw [hb] at hb'; cases hb'
  have hfl := flat_length hsz
  obtain ⟨hRL, hone⟩ := (repC_iff_block hblk (by omega)).1 ((repE_iff hsz).1 hE)
  have hesz := hsz e (List.mem_of_getElem? he)
  have hix : i * sz + sz ≤ xs.length * sz := by rw [← Nat.succ_mul]; exact Nat.mul_le_mul_right _ (by omega)
  obtain ⟨hrun, hyl⟩ := run_storeVar_rep ht hblk (off := i * sz + q) hs hd hv1 (by omega)
  have hasz : (arr.toList.take (i * sz + q) ++ y.cells.toList ++ arr.toList.drop (i * sz + q + y.cells.toList.length)).toArray.size = arr.size := by simp at hyl ⊢; omega
  -- the element behind
  generalize hE' : (if n = sz then d' else DV.agg (fillAt e.cells q d'.cells)) = e'
  obtain ⟨c1, c2⟩ := RepV.cells hs hv1
  have hecl := closedL_mem hc (List.mem_of_getElem? he)
  have heone : e.cells.all one = true := List.all_eq_true.2 fun z hz => List.all_eq_true.1 hone z (by
    simp only [flat, List.mem_flatMap]; exact ⟨e, List.mem_of_getElem? he, hz⟩)
  have hclc : ∀ {z : DV}, closed z = true → closedL z.cells = true := fun {z} hz => by
    cases z with
    | agg cs => simpa [closed, DV.cells] using hz
    | _ => simp [DV.cells, closedL, hz]
  have he' : e'.cells = fillAt e.cells q d'.cells ∧ closed e' = true := by
    rw [← hE']
    split
    · rename_i hns
      have : q = 0 := by omega
      subst this
      exact ⟨(fillAt_all (by omega)).symm, hcl⟩
    · refine ⟨rfl, ?_⟩
      simp only [closed]
      unfold fillAt
      simp only [closedL_append, Bool.and_eq_true]
      exact ⟨⟨closedL_take (hclc hecl) _, hclc hcl⟩, closedL_drop (hclc hecl) _⟩
  have he'sz : e'.cells.length = sz := by rw [he'.1, fillAt_length (by omega)]; exact hesz
  have hs' : ∀ z ∈ xs.set i e', z.cells.length = sz := fun z hz => by
    rcases List.mem_or_eq_of_mem_set hz with hz | rfl
    · exact hsz z hz
    · exact he'sz
  have hc' : closedL (xs.set i e') = true := closedL_of fun z hz => by
    rcases List.mem_or_eq_of_mem_set hz with hz | rfl
    · exact closedL_mem hc hz
    · exact he'.2
  have hflat := flat_set (r := q) (dc := d'.cells) hsz he (by omega) he'.1
  have len1 : (AObj.row ty sz (xs.set i e')).len? = some xs.length := by simp [AObj.len?]
  have k := keep_upd g1.rel (o' := .row ty sz (xs.set i e')) (w' := w.setRow b (arr.toList.take (i * sz + q) ++ y.cells.toList ++ arr.toList.drop (i * sz + q + y.cells.toList.length)).toArray) hobj1 rfl hb
    (fun hn => by rw [len1] at hn; cases hn) (fun m' hm' => ⟨xs.length, rfl, by rw [len1] at hm'; cases hm'; exact Nat.le_refl _⟩) (fun k hk => capOk_setRow hblk hasz hk) (fun c hc => setRow_far _ _ _ _ hc)
  refine ⟨_, F1, by simp only [Instr.storeAt, Instr.sureAddr, Sem.run_bind, Sem.run_pure, Result.andThen_ok]; exact hrun, (g1.weaken fun _ _ => trivial).trans ?_⟩
  refine good_upd g1.rel hobj1 rfl hb (fun hn => by rw [len1] at hn; cases hn) (fun m' hm' => ⟨xs.length, rfl, by rw [len1] at hm'; cases hm'; exact Nat.le_refl _⟩)
    (fun k hk => capOk_setRow hblk hasz hk) (fun c hc => setRow_far _ _ _ _ hc) (by simp) (by simp) (by simp) (by simp) ?_
  simp only [RepO]
  refine ⟨hc', hs', hpos, .inr ⟨b, _, hb, setRow_heap w b arr _ _ _ hblk, by rw [hasz]; simpa using hle, ?_⟩⟩
  rw [repE_iff hs', repC_iff_block (setRow_heap w b arr _ _ _ hblk) (by rw [hasz, flat_length hs']; simpa using hle)]
  have hfl' := flat_length hs'
  have hset : (flat (xs.set i e')).length = (flat xs).length := by rw [hfl', hfl]; simp
  refine ⟨?_, by rw [hflat]; exact all_one_fill hone c2 _⟩
  have hr2 := hRL.fill c1 (i * sz + q)
  rw [← hflat] at hr2
  refine RepL.keep k _ _ (fun _ _ => trivial) ?_
  rw [hset]
  rw [take_fill (by simp at hyl ⊢; omega) (by simp; omega)]
  exact hr2

/-! ## append -/
theorem good_draw (r : Rel W0 ρ F h w) : Good W0 T ρ F h w ρ F h w.drew :=
  have kp : Keep (fun _ => True) ρ F h w ρ F h w.drew :=
    ⟨fun _ h => h, fun _ _ => rfl, fun _ _ h => ⟨h, fun _ h => h⟩, fun _ m _ h => ⟨m, h, Nat.le_refl _, fun _ _ h => ⟨h, fun _ h => h⟩⟩⟩
  ⟨⟨fun b hb => r.base b hb, fun t o ho => RepO.keep kp rfl (fun _ _ _ => rfl) (fun _ _ => trivial) (r.obj t o ho), r.fin, r.sep, r.inj⟩, kp.weaken fun _ _ => trivial,
    ⟨rfl, rfl, rfl, Nat.le_refl _, fun _ _ _ => rfl, fun _ h => h, fun _ _ h => .inl h, fun _ _ h => h⟩⟩

/-- A row in new memory under its old name. -/
theorem good_realloc (r : Rel W0 ρ F h w) {t : Tok} {ty : TypeId} {sz : Nat} {xs ys : List DV} {arr : Array Value} (hold : h t = some (.row ty sz xs)) (hys : ys ≠ [])
    (hc : closedL (xs ++ ys) = true) (hs : ∀ d ∈ xs ++ ys, d.cells.length = sz) (hsz : 0 < sz) (h1 : (flat (xs ++ ys)).all one = true) (hl : (flat (xs ++ ys)).length ≤ arr.size)
    (hr : RepL ρ F h w (flat (xs ++ ys)) (arr.toList.take (flat (xs ++ ys)).length)) {c n : Nat} (hn : (xs ++ ys).length = n) (hcap : n ≤ c) (hcs : c * sz ≤ arr.size) :
    Good W0 T ρ F h w (ρ.set t (some w.heap.size)) F (h.set t (.row ty sz (xs ++ ys))) (w.alloc (.cells arr ty)) ∧
      RepV (ρ.set t (some w.heap.size)) F (h.set t (.row ty sz (xs ++ ys))) (w.alloc (.cells arr ty)) (.row sz t n 0 n) (.slice (some ⟨w.heap.size, 0, none⟩) n c) := by
  have hyl : 0 < ys.length := List.length_pos_iff.2 hys
  have k : Keep (fun _ => True) ρ F h w (ρ.set t (some w.heap.size)) F (h.set t (.row ty sz (xs ++ ys))) (w.alloc (.cells arr ty)) :=
    ⟨fun _ h => h, fun b hb => alloc_old w _ (r.fin b hb), fun u _ hu => by
      by_cases e : u = t
      · subst e; simp [Hp.len?, Hp.set_same, AObj.len?] at hu
      · rw [Hp.len?_set_ne _ _ e] at hu; exact ⟨hu, fun b hb => by rw [Rho.set_ne _ _ e]; exact hb⟩,
    fun u m _ hm => by
      by_cases e : u = t
      · subst e
        simp only [Hp.len?, Hp.set_same, Option.bind_some, AObj.len?, Option.some.injEq] at hm
        refine ⟨xs.length, by simp [Hp.len?, hold, AObj.len?], by simp at hm; omega, fun e2 => ?_⟩
        simp at hm; omega
      · rw [Hp.len?_set_ne _ _ e] at hm
        exact ⟨m, hm, Nat.le_refl _, fun _ b hb => ⟨by rw [Rho.set_ne _ _ e]; exact hb, fun k hk => capOk_of (alloc_old w _ (capOk_lt hk)) hk⟩⟩⟩
  have own' : ∀ b, Own (ρ.set t (some w.heap.size)) (h.set t (.row ty sz (xs ++ ys))) b → b = w.heap.size ∨ ∃ u o', u ≠ t ∧ h u = some o' ∧ owns o' = true ∧ ρ u = some b := by
    rintro b ⟨u, o', h1, h2, h3⟩
    by_cases hu : u = t
    · subst hu; rw [Rho.set_same] at h3; exact .inl (Option.some.inj h3).symm
    · rw [Hp.set_ne h _ hu] at h1; rw [Rho.set_ne ρ _ hu] at h3; exact .inr ⟨u, o', hu, h1, h2, h3⟩
  have hcf : ∀ u ∈ toksL (flat (xs ++ ys)), True := fun _ _ => trivial
  have hfl := flat_length hs
  refine ⟨⟨⟨fun b hb => ?_, fun u o' hu => ?_, fun b hb => ?_, fun b hb => ?_, ?_⟩, k.weaken fun _ _ => trivial,
    ⟨rfl, rfl, rfl, by simp, fun b hb _ => alloc_old w _ hb, fun _ h => h, fun _ _ h => .inl h, fun b hb ho => ?_⟩⟩, ?_⟩
  · obtain ⟨h1, h2⟩ := r.base b hb
    exact ⟨h1, (alloc_old w _ (r.fin b h1)).trans h2⟩
  · by_cases e : u = t
    · subst e; rw [Hp.set_same] at hu; cases hu
      simp only [RepO]
      refine ⟨hc, hs, hsz, .inr ⟨w.heap.size, arr, Rho.set_same .., alloc_new .., by omega, ?_⟩⟩
      rw [repE_iff hs, repC_iff_block (alloc_new ..) hl]
      exact ⟨RepL.keep k _ _ hcf hr, h1⟩
    · rw [Hp.set_ne h _ e] at hu
      exact RepO.keep k (Rho.set_ne ρ _ e) (fun b hb hw => alloc_old w _ (own_lt r ⟨u, o', hu, hw, hb⟩)) (fun _ _ => trivial) (r.obj u o' hu)
  · have := r.fin b hb; simp; omega
  · rcases own' b hb with rfl | ⟨u, o', _, h1, h2, h3⟩
    · exact fun hF => Nat.lt_irrefl _ (r.fin _ hF)
    · exact r.sep b ⟨u, o', h1, h2, h3⟩
  · intro u o1 u' o2 b h1 h2 h3 h4 h5 h6
    by_cases e : u = t <;> by_cases e' : u' = t
    · rw [e, e']
    · rw [e, Rho.set_same] at h5
      rw [Hp.set_ne h _ e'] at h3; rw [Rho.set_ne ρ _ e'] at h6
      have := own_lt r ⟨u', o2, h3, h4, h6⟩
      have := Option.some.inj h5
      omega
    · rw [e', Rho.set_same] at h6
      rw [Hp.set_ne h _ e] at h1; rw [Rho.set_ne ρ _ e] at h5
      have := own_lt r ⟨u, o1, h1, h2, h5⟩
      have := Option.some.inj h6
      omega
    · rw [Hp.set_ne h _ e] at h1; rw [Rho.set_ne ρ _ e] at h5
      rw [Hp.set_ne h _ e'] at h3; rw [Rho.set_ne ρ _ e'] at h6
      exact r.inj u o1 u' o2 b h1 h2 h3 h4 h5 h6
  · rcases own' b ho with rfl | ⟨u, o', _, h1, h2, h3⟩
    · omega
    · exact ⟨u, o', h1, h2, h3⟩
  · simp only [RepV]
    refine ⟨_, c, rfl, hcap, fun m hm => ?_⟩
    simp only [Hp.len?, Hp.set_same, Option.bind_some, AObj.len?, Option.some.injEq] at hm
    refine ⟨by omega, fun _ => ⟨by omega, fun _ => ⟨w.heap.size, Rho.set_same .., by simp, arr, ty, alloc_new .., by simpa using hcs⟩⟩⟩

/-- The cells of a persistent slice, loaded. -/
theorem firstCells_C {cs : List DV} {b off : Nat} (hr : RepC ρ F h w cs b off) (l c : Nat) {k sz : Nat} (hk : k * sz = cs.length) :
    ∃ vs : List Value, (∀ w' : World, w'.heap = w.heap → (Builtin.firstCells sz k (.slice (some ⟨b, off, none⟩) l c)).run P w' = .ok vs.toArray w') ∧ RepL ρ F h w cs vs ∧ ∀ v ∈ vs, v.oneCell' = true := by
  have key : ∃ vs : List Value, vs.length = cs.length ∧ RepL ρ F h w cs vs ∧ ∀ j v, vs[j]? = some v → w.cell? ((⟨b, off, none⟩ : Addr).add j) = some v := by
    refine ⟨(List.range cs.length).map fun j => (w.cell? ⟨b, off + j, none⟩).getD undef, by simp, RepL.of (by simp) fun i d x h1 h2 => ?_, fun j v hv => ?_⟩
    · obtain ⟨_, y, hy, hry⟩ := hr.get i d h1
      have hi : i < cs.length := (List.getElem?_eq_some_iff.1 h1).1
      simp [hi, hy] at h2
      subst h2; exact hry
    · have hj : j < cs.length := by have := (List.getElem?_eq_some_iff.1 hv).1; simpa using this
      obtain ⟨_, y, hy, _⟩ := hr.get j _ (List.getElem?_eq_getElem hj)
      simp [hj, hy] at hv
      subst hv
      rw [addr_add]; exact hy
  obtain ⟨vs, h1, h2, h3⟩ := key
  refine ⟨vs, fun w' hw => ?_, h2, h2.oneCells (List.all_eq_true.2 fun d hd => ?_)⟩
  · have := run_loadCells_list (P := P) w' ⟨b, off, none⟩ vs fun j v hv => by simpa [World.cell?, hw] using h3 j v hv
    rw [h1, ← hk] at this
    exact this
  · obtain ⟨i, hi, rfl⟩ := List.mem_iff_getElem.1 hd
    exact (hr.get i _ (List.getElem?_eq_getElem hi)).1

theorem firstCells_nil {A : Option Addr} {l c sz : Nat} (hA : ∀ a, A = some a → a.spot = none ∨ True) : (Builtin.firstCells sz 0 (.slice A l c)).run P w = .ok #[] w := by
  cases A with
  | none => rfl
  | some a => simp [Builtin.firstCells, loadCells, loadCellsFrom]

theorem firstCells_lst {sz sz' : Nat} {ys : List DV} {k : LK} {y : Value} (hv : RepV ρ F h w (.lst sz' ys k) y) (hs : ∀ d ∈ ys, d.cells.length = sz) :
    ∃ A c vs, y = .slice A ys.length c ∧ ys.length ≤ c ∧ (k = .nil → A = none ∧ c = 0) ∧ (k = .full → c = ys.length) ∧ (∀ w' : World, w'.heap = w.heap → (Builtin.firstCells sz ys.length y).run P w' = .ok (List.toArray vs) w') ∧
      RepL ρ F h w (flat ys) vs ∧ (∀ v ∈ vs, v.oneCell' = true) ∧ closedL ys = true ∧ (flat ys).all one = true := by
  simp only [RepV] at hv
  obtain ⟨A, c, rfl, h1, h2, h3, hc, hs', hE⟩ := hv
  by_cases hn : ys = []
  · subst hn
    exact ⟨A, c, [], rfl, h1, h2, h3.1, fun _ _ => firstCells_nil (fun _ _ => .inr trivial), by simp [flat, RepL], by simp, rfl, rfl⟩
  · obtain ⟨b, off, rfl, _, hE⟩ := hE hn
    have hC := (repE_flat (off := off) (o := 0) hs').1 hE
    have hz : sz' = sz := by
      cases ys with
      | nil => exact absurd rfl hn
      | cons d ds => rw [← hs d (by simp), ← hs' d (by simp)]
    subst hz
    obtain ⟨vs, e1, e2, e3⟩ := firstCells_C (P := P) hC ys.length c (k := ys.length) (sz := sz') (flat_length hs).symm
    refine ⟨_, c, vs, rfl, h1, h2, h3.1, e1, e2, e3, hc, List.all_eq_true.2 fun d hd => ?_⟩
    obtain ⟨i, hi, rfl⟩ := List.mem_iff_getElem.1 hd
    exact (hC.get i _ (List.getElem?_eq_getElem hi)).1

theorem growBy_le (need : Nat) : ∀ (r c : Nat), c < need → Builtin.growBy need r c ≤ 2 * need + 192
  | 0, c, h => by simp [Builtin.growBy]; omega
  | r + 1, c, h => by
    simp only [Builtin.growBy]
    split
    · omega
    · by_cases h2 : c + (c + 768) / 4 < need
      · exact growBy_le need r _ h2
      · cases r with
        | zero => simp [Builtin.growBy]; omega
        | succ r => simp only [Builtin.growBy]; rw [if_pos (by omega)]; omega

theorem nextslicecap_le {need c : Nat} (h : c < need) : Builtin.nextslicecap need c ≤ 2 * need + 192 := by
  unfold Builtin.nextslicecap
  split
  · omega
  · split
    · omega
    · exact growBy_le need 4 c h

/-- What an append to a slice type wants of the element type. -/
def appTy (P : Program) (t e : TypeId) (sz : Nat) : Bool :=
  (match P.underlying t with | some (.slice e') => e' == e | _ => false) && (szTy P e == some sz) && decide (0 < sz) &&
  (match P.info? e with | some i => decide (i.bytes ≤ 1024) && i.size == sz | none => false) && (match zeroTy P e with | some z => z.cells.length == sz | none => false)

theorem run_append {t xt e : TypeId} {sz : Nat} (ht : appTy P t e sz = true) (hx : ∃ e', P.underlying xt = some (.slice e')) {ty : TypeId} {A B : Option Addr} {n c m cy : Nat} {news : List Value}
    (hnew : (Builtin.firstCells sz m (.slice B m cy)).run P w = .ok news.toArray w) :
    (n + m ≤ c → (∀ a, A = some a → ∀ w', (storeCells (a.add (n * sz)) news).run P w = .ok () w' →
        (Builtin.append_ #[t, xt] ty #[.slice A n c, .slice B m cy]).run P w = .ok (.slice A (n + m) c) w') ∧
      (A = none → (Builtin.append_ #[t, xt] ty #[.slice A n c, .slice B m cy]).run P w = .ok (.slice A (n + m) c) w)) ∧
    (¬ n + m ≤ c → n + m < maxLen32 → ∀ (olds : List Value), (Builtin.firstCells sz n (.slice A n c)).run P w.drew = .ok olds.toArray w.drew →
      (Builtin.firstCells sz m (.slice B m cy)).run P w.drew = .ok news.toArray w.drew →
      ∃ (cap : Nat) (rest : Array Value), n + m ≤ cap ∧ rest.size = (cap - (n + m)) * sz ∧
        (Builtin.append_ #[t, xt] ty #[.slice A n c, .slice B m cy]).run P w = .ok (.slice (some ⟨w.heap.size, 0, none⟩) (n + m) cap) (w.drew.alloc (.cells (olds.toArray ++ (news.toArray ++ rest)) e))) := by
  obtain ⟨e', hx⟩ := hx
  simp only [appTy, Bool.and_eq_true] at ht
  obtain ⟨⟨⟨⟨ht1, ht2⟩, ht3⟩, ht4⟩, ht5⟩ := ht
  have hu : P.underlying t = some (.slice e) := by
    split at ht1
    · rename_i e2 he; rw [he]; simp at ht1; rw [ht1]
    · cases ht1
  have hsz : szTy P e = some sz := by simpa using ht2
  obtain ⟨i, hi, hib, his⟩ : ∃ i, P.info? e = some i ∧ i.bytes ≤ 1024 ∧ i.size = sz := by
    split at ht4
    · rename_i i hi; simp at ht4; exact ⟨i, hi, ht4.1, ht4.2⟩
    · cases ht4
  obtain ⟨z, hz, hzl⟩ : ∃ z, zeroTy P e = some z ∧ z.cells.length = sz := by
    split at ht5
    · rename_i z hz; exact ⟨z, hz, by simpa using ht5⟩
    · cases ht5
  have hs := fun w => szTy_run (P := P) (w := w) hsz
  constructor
  · intro hle
    constructor
    · intro a hA w' hst
      subst hA
      simp only [Builtin.append_, Sem.run_bind, Result.andThen_ok]
      simp [run_underlying hu, run_underlying hx, hs, Builtin.lenOf, hle, hnew, hst]
    · intro hA
      subst hA
      simp only [Builtin.append_, Sem.run_bind, Result.andThen_ok]
      simp [run_underlying hu, run_underlying hx, hs, Builtin.lenOf, hle, hnew]
  · intro hgt hlt olds ho hn2
    obtain ⟨zv, z1, z2, z3, z4⟩ := zeroTy_run (P := P) (w := w.drew) (ρ := fun _ => none) (F := fun _ => False) (h := fun _ => none) hz
    have hzl2 := (RepV.cells z4 z2).1.length
    have hnc := nextslicecap_le (need := n + m) (c := c) (by omega)
    have hmul : Builtin.nextslicecap (n + m) c * i.bytes ≤ 2 ^ 48 := by
      refine Nat.le_trans (Nat.mul_le_mul hnc hib) ?_
      unfold maxLen32 at hlt
      omega
    refine ⟨Question.cut (.appendCap (n + m) c e) (w.tape w.drawn (.appendCap (n + m) c e)), Builtin.zeroCells zv.cells (Question.cut (.appendCap (n + m) c e) (w.tape w.drawn (.appendCap (n + m) c e)) - (n + m)), ?_, ?_, ?_⟩
    · simp [Question.cut]
    · simp only [Builtin.zeroCells, Array.size_map, Array.size_range]
      simp at hzl2
      rw [hzl2, hzl]
    · simp only [Builtin.append_, Sem.run_bind, Result.andThen_ok]
      have h63 : ¬ (9223372036854775807 < (n : Int) + (m : Int) ∧ i.bytes = 0) := by
        rintro ⟨h1, _⟩
        unfold maxLen32 at hlt
        omega
      have hmul' : ¬ 281474976710656 < Builtin.nextslicecap (n + m) c * i.bytes := by omega
      have hti : ∀ w : World, (typeInfo e).run P w = .ok i w := fun w => run_typeInfo w hi
      simp [run_underlying hu, run_underlying hx, hs, Builtin.lenOf, hgt, hti, Question.forced, ho, hn2, z1, newRow, h63, hmul']

theorem all_sz {ys : List DV} {sz : Nat} (h : ys.all (fun e => e.cells.length == sz) = true) : ∀ d ∈ ys, d.cells.length = sz :=
  fun d hd => by simpa using List.all_eq_true.1 h d hd

theorem appTy_pos {t e : TypeId} {sz : Nat} (ht : appTy P t e sz = true) : 0 < sz := by
  simp only [appTy, Bool.and_eq_true] at ht
  simpa using ht.1.1.2

theorem ok_app (r : Rel W0 ρ F h w) {t xt e ty : TypeId} {sz : Nat} (ht : appTy P t e sz = true) (hxt : ∃ e', P.underlying xt = some (.slice e')) {d : Option Nat} {x y : DV} {eff : Eff}
    (he : appEff d h e sz x y = some eff) {xv yv : Value} (hxv : RepV ρ F h w x xv) (hyv : RepV ρ F h w y yv) (hfr : isRow x = false → ∀ tk, nameOf d = some tk → Fresh T h tk) :
    OpOk P W0 T ρ F h w eff (Builtin.append_ #[t, xt] ty #[xv, yv]) := by
  have hpos := appTy_pos ht
  unfold appEff at he
  split at he
  · rename_i sz0 ys k0 ts hres
    split at he
    · rename_i hys
      have hys := all_sz hys
      obtain ⟨F1, g1, hf, hy1, hycl⟩ := res_good (T := fun _ => True) r hres hyv
      generalize hh : (frzAll h ts).app h = h1 at *
      obtain ⟨B, cy, news, rfl, _, _, _, hn1, hnR, hnO, hnC, hnOne⟩ := firstCells_lst (P := P) hy1 hys
      have gd := good_draw (T := fun _ => True) g1.rel
      have hnR2 := RepL.keep gd.keep _ _ (fun _ _ => trivial) hnR
      split at he
      · -- a list that is nil or full
        rename_i sz1 xs k
        split at he
        · rename_i hc
          obtain ⟨hk, hne, hxs, hlt⟩ := hc
          have hxs := all_sz hxs
          split at he
          · rename_i tk htk
            cases he
            have hx1 := RepV.keep g1.keep _ _ (fun _ _ => trivial) hxv
            obtain ⟨A, c, olds2, rfl, hxc, hnil, hfull, ho2, hoR, _, hoC, hoOne⟩ := firstCells_lst (P := P) hx1 hxs
            have hoR2 := RepL.keep gd.keep _ _ (fun _ _ => trivial) hoR
            have fr := (hfr rfl tk htk).frz hf
            have hceq : c = xs.length := by
              rcases hk with hk | hk
              · have := (hnil hk).2; omega
              · exact hfull hk
            have happ : (frzAll h ts ++ [(tk, AObj.row e sz (xs ++ ys))]).app h = h1.set tk (.row e sz (xs ++ ys)) := by rw [Hl.app_append, hh]; rfl
            have hsall : ∀ d ∈ xs ++ ys, d.cells.length = sz := fun d hd => by
              rcases List.mem_append.1 hd with hd | hd
              · exact hxs d hd
              · exact hys d hd
            by_cases hy0 : ys = []
            · subst hy0
              have hx0 : xs = [] := hne.resolve_right (by simp)
              subst hx0
              have hr := run_append (P := P) (w := w) ht hxt (ty := ty) (A := A) (n := 0) (c := c) (hn1 w rfl)
              have hrun : (Builtin.append_ #[t, xt] ty #[.slice A 0 c, .slice B 0 cy]).run P w = .ok (.slice A 0 c) w := by
                cases A with
                | none => simpa using (hr.1 (by simp)).2 rfl
                | some a =>
                  have := (hr.1 (by simp)).1 a rfl w (by
                    have : news = [] := by simpa [flat, RepL] using hnR
                    subst this; rfl)
                  simpa using this
              refine ⟨_, _, _, _, _, rfl, hrun, by rw [happ]; exact (g1.weaken fun _ _ => trivial).trans (good_virt g1.rel hpos fr.ne fun u o _ ho => fr.obj u o ho), ?_⟩
              rw [happ]
              simp only [RepV, List.append_nil, List.length_nil]
              refine ⟨A, c, rfl, Nat.zero_le _, fun m hm => ⟨Nat.zero_le _, fun _ => ⟨by simp, fun hc0 => ?_⟩⟩⟩
              simp at hceq; omega
            · have hyl : 0 < ys.length := List.length_pos_iff.2 hy0
              obtain ⟨cp, rest, hcp, hrest, hrun⟩ := (run_append (P := P) (w := w) ht hxt (ty := ty) (A := A) (n := xs.length) (c := c) (hn1 w rfl)).2 (by omega) (by omega) olds2 (ho2 _ rfl) (hn1 _ rfl)
              have hRL : RepL ρ F1 h1 w.drew (flat (xs ++ ys)) (olds2 ++ news) := by rw [flat_append]; exact hoR2.append hnR2
              have hfl := flat_length hsall
              have hRl := hRL.length
              simp only [List.length_append] at hRl hfl
              have harr : ((olds2.toArray ++ (news.toArray ++ rest)).toList.take (flat (xs ++ ys)).length) = olds2 ++ news := by
                simp only [Array.toList_append, List.toList_toArray, ← List.append_assoc]
                rw [List.take_append_of_le_length (by simp; omega), List.take_of_length_le (by simp; omega)]
              have hasz : (olds2.toArray ++ (news.toArray ++ rest)).size = cp * sz := by
                simp only [Array.size_append, List.size_toArray, hrest]
                have : cp * sz = (xs.length + ys.length) * sz + (cp - (xs.length + ys.length)) * sz := by rw [← Nat.add_mul]; congr 1; omega
                omega
              have hle : (xs.length + ys.length) * sz ≤ cp * sz := Nat.mul_le_mul_right _ hcp
              obtain ⟨b1, b2⟩ := good_row gd.rel (T := T) fr (ty := e) (arr := olds2.toArray ++ (news.toArray ++ rest)) hpos (by rw [closedL_append, hoC, hnC]; rfl) hsall (by rw [flat_append, List.all_append, hoOne, hnOne]; rfl)
                (n := (xs ++ ys).length) rfl (by rw [hasz]; omega) (by rw [harr]; exact hRL) (c := cp) (by simpa using hcp) (by rw [hasz]; exact Nat.le_refl _)
              refine ⟨_, _, _, _, _, rfl, hrun, by rw [happ]; exact ((g1.trans gd).weaken fun _ _ => trivial).trans b1, ?_⟩
              rw [happ]
              simpa using b2
          · cases he
        · cases he
      · -- a row
        rename_i sz1 tk n off len
        split at he
        · rename_i ty1 sz2 xs hobj
          split at he
          · rename_i hc
            obtain ⟨rfl, rfl, rfl, rfl, rfl, rfl, hlt, htk⟩ := hc
            cases he
            have htk : tk ∉ ts := by simpa using htk
            have hobj1 : h1 tk = some (.row ty1 sz2 xs) := by rw [← hh, frzAll_ne h ts h htk]; exact hobj
            have hO := g1.rel.obj tk _ hobj1
            simp only [RepO] at hO
            obtain ⟨hxC, hxs, _, hO⟩ := hO
            have hx1 := RepV.keep g1.keep _ _ (fun _ _ => trivial) hxv
            simp only [RepV] at hx1
            obtain ⟨A, c, rfl, hlc, hx2⟩ := hx1
            obtain ⟨_, hx3⟩ := hx2 xs.length (by simp [Hp.len?, hobj1, AObj.len?])
            obtain ⟨_, hA⟩ := hx3 rfl
            have happ : (frzAll h ts ++ [(tk, AObj.row ty1 sz2 (xs ++ ys))]).app h = h1.set tk (.row ty1 sz2 (xs ++ ys)) := by rw [Hl.app_append, hh]; rfl
            have hsall : ∀ d ∈ xs ++ ys, d.cells.length = sz2 := fun d hd => by
              rcases List.mem_append.1 hd with hd | hd
              · exact hxs d hd
              · exact hys d hd
            have hcall : closedL (xs ++ ys) = true := by rw [closedL_append, hxC, hnC]; rfl
            have hflx := flat_length hxs
            have hfly := flat_length hys
            have hnl := hnR.length
            have hnl2 := hnR2.length
            by_cases hle : xs.length + ys.length ≤ c
            · -- there is room
              have hrun := (run_append (P := P) (w := w) ht hxt (ty := ty) (A := A) (n := xs.length) (c := c) (hn1 w rfl)).1 hle
              by_cases hc0 : 0 < c
              · obtain ⟨b, hb, hAeq, hcap⟩ := hA hc0
                subst hAeq
                rcases hO with ⟨h0, hbn⟩ | ⟨b', arr, hb', hblk, hsz, hE⟩
                · rw [hb] at hbn; cases hbn
                · rw [hb] at hb'; cases hb'
                  obtain ⟨a2, t2, hblk2, hcapsz⟩ := hcap
                  rw [hblk] at hblk2; cases hblk2
                  simp only [Nat.zero_add] at hcapsz
                  have hroom : xs.length * sz2 + ys.length * sz2 ≤ c * sz2 := by rw [← Nat.add_mul]; exact Nat.mul_le_mul_right _ hle
                  have hst := run_storeCells_at P b (xs.length * sz2) ty1 news 0 arr w hblk (by omega) hnO
                  simp only [Nat.add_zero] at hst
                  have hrun := hrun.1 _ rfl _ (by rw [Nat.zero_mul, addr_add, Nat.zero_add]; exact hst)
                  have hasz : (arr.toList.take (xs.length * sz2) ++ news ++ arr.toList.drop (xs.length * sz2 + news.length)).toArray.size = arr.size := by simp; omega
                  obtain ⟨hRL, hone⟩ := (repC_iff_block hblk (by omega)).1 ((repE_iff hxs).1 hE)
                  have len1 : (AObj.row ty1 sz2 (xs ++ ys)).len? = some (xs ++ ys).length := rfl
                  have k := keep_upd g1.rel (o' := .row ty1 sz2 (xs ++ ys)) (w' := w.setRow b (arr.toList.take (xs.length * sz2) ++ news ++ arr.toList.drop (xs.length * sz2 + news.length)).toArray) hobj1 rfl hb
                    (fun hn => by rw [len1] at hn; cases hn) (fun m' hm' => ⟨xs.length, rfl, by rw [len1] at hm'; cases hm'; simp⟩) (fun k hk => capOk_setRow hblk hasz hk) (fun c hc => setRow_far _ _ _ _ hc)
                  refine ⟨_, _, _, _, _, rfl, hrun, by
                    rw [happ]
                    refine (g1.weaken fun _ _ => trivial).trans (good_upd g1.rel hobj1 rfl hb (fun hn => by rw [len1] at hn; cases hn) (fun m' hm' => ⟨xs.length, rfl, by rw [len1] at hm'; cases hm'; simp⟩)
                      (fun k hk => capOk_setRow hblk hasz hk) (fun c hc => setRow_far _ _ _ _ hc) (by simp) (by simp) (by simp) (by simp) ?_)
                    simp only [RepO]
                    refine ⟨hcall, hsall, hpos, .inr ⟨b, _, hb, setRow_heap w b arr _ _ _ hblk, by rw [hasz, List.length_append, Nat.add_mul]; omega, ?_⟩⟩
                    have hflall := flat_length hsall
                    rw [List.length_append, Nat.add_mul] at hflall
                    rw [repE_iff hsall, repC_iff_block (setRow_heap w b arr _ _ _ hblk) (by rw [hasz]; omega)]
                    refine ⟨RepL.keep k _ _ (fun _ _ => trivial) ?_, by rw [flat_append, List.all_append, hone, hnOne]; rfl⟩
                    rw [flat_append]
                    have : (arr.toList.take (xs.length * sz2) ++ news ++ arr.toList.drop (xs.length * sz2 + news.length)).toArray.toList.take (flat xs ++ flat ys).length = arr.toList.take (flat xs).length ++ news := by
                      rw [List.length_append, hflx, ← hnl]
                      simp only [List.toList_toArray]
                      rw [List.take_append_of_le_length (by simp; omega), List.take_of_length_le (by simp; omega)]
                    rw [this]
                    exact hRL.append hnR, ?_⟩
                  rw [happ]
                  simp only [RepV]
                  refine ⟨some ⟨b, 0, none⟩, c, by simp, by simpa using hle, fun m hm => ?_⟩
                  simp only [Hp.len?, Hp.set_same, Option.bind_some, AObj.len?, Option.some.injEq] at hm
                  refine ⟨by omega, fun _ => ⟨by omega, fun _ => ⟨b, hb, by simp, _, ty1, setRow_heap w b arr _ _ _ hblk, by rw [hasz]; simpa using hcapsz⟩⟩⟩
              · have hc0 : c = 0 := by omega
                subst hc0
                have hx0 : xs = [] := List.eq_nil_of_length_eq_zero (by omega)
                have hy0 : ys = [] := List.eq_nil_of_length_eq_zero (by omega)
                subst hx0 hy0
                have hne0 : news = [] := by simpa [flat, RepL] using hnR
                subst hne0
                have hrun' : (Builtin.append_ #[t, xt] ty #[.slice A 0 0, .slice B 0 cy]).run P w = .ok (.slice A 0 0) w := by
                  cases A with
                  | none => simpa using hrun.2 rfl
                  | some a => simpa using hrun.1 a rfl w rfl
                refine ⟨_, _, _, _, _, rfl, hrun', by rw [happ, List.append_nil, Hp.set_self hobj1]; exact g1.weaken fun _ _ => trivial, ?_⟩
                rw [happ, List.append_nil, Hp.set_self hobj1]
                simp only [RepV, List.length_nil]
                exact ⟨A, 0, rfl, Nat.zero_le _, fun m hm => ⟨Nat.zero_le _, fun _ => ⟨by simp, fun h => by omega⟩⟩⟩
            · -- new memory
              have hy0 : ys ≠ [] := fun e0 => by subst e0; simp at hle; omega
              have hO2 := gd.rel.obj tk _ hobj1
              simp only [RepO] at hO2
              have hold : ∃ olds : List Value, (Builtin.firstCells sz2 xs.length (.slice A xs.length c)).run P w.drew = .ok olds.toArray w.drew ∧ RepL ρ F1 h1 w.drew (flat xs) olds ∧ (flat xs).all one = true := by
                by_cases hx0 : xs = []
                · subst hx0
                  exact ⟨[], firstCells_nil (fun _ _ => .inr trivial), by simp [flat, RepL], rfl⟩
                · have hxl : 0 < xs.length := List.length_pos_iff.2 hx0
                  obtain ⟨b, hb, hAeq, _⟩ := hA (by omega)
                  subst hAeq
                  rcases hO2.2.2.2 with ⟨h0, _⟩ | ⟨b', arr, hb', hblk, hsz, hE⟩
                  · exact absurd h0 hx0
                  · rw [hb] at hb'; cases hb'
                    have hC := (repE_iff hxs).1 hE
                    obtain ⟨vs, e1, e2, _⟩ := firstCells_C (P := P) hC xs.length c (k := xs.length) (sz := sz2) hflx.symm
                    refine ⟨vs, by simpa using e1 _ rfl, e2, List.all_eq_true.2 fun d hd => ?_⟩
                    obtain ⟨i, hi, rfl⟩ := List.mem_iff_getElem.1 hd
                    exact (hC.get i _ (List.getElem?_eq_getElem hi)).1
              obtain ⟨olds2, ho2, hoR2, hoOne⟩ := hold
              obtain ⟨cp, rest, hcp, hrest, hrun⟩ := (run_append (P := P) (w := w) ht hxt (ty := ty) (A := A) (n := xs.length) (c := c) (hn1 w rfl)).2 hle (by omega) olds2 ho2 (hn1 _ rfl)
              have hRL : RepL ρ F1 h1 w.drew (flat (xs ++ ys)) (olds2 ++ news) := by rw [flat_append]; exact hoR2.append hnR2
              have hfl := flat_length hsall
              have hRl := hRL.length
              simp only [List.length_append] at hRl hfl
              have harr : ((olds2.toArray ++ (news.toArray ++ rest)).toList.take (flat (xs ++ ys)).length) = olds2 ++ news := by
                simp only [Array.toList_append, List.toList_toArray, ← List.append_assoc]
                rw [List.take_append_of_le_length (by simp; omega), List.take_of_length_le (by simp; omega)]
              have hasz : (olds2.toArray ++ (news.toArray ++ rest)).size = cp * sz2 := by
                simp only [Array.size_append, List.size_toArray, hrest]
                have : cp * sz2 = (xs.length + ys.length) * sz2 + (cp - (xs.length + ys.length)) * sz2 := by rw [← Nat.add_mul]; congr 1; omega
                omega
              have hlm : (xs.length + ys.length) * sz2 ≤ cp * sz2 := Nat.mul_le_mul_right _ hcp
              obtain ⟨b1, b2⟩ := good_realloc gd.rel (T := T) (arr := olds2.toArray ++ (news.toArray ++ rest)) hobj1 hy0 hcall hsall hpos (by rw [flat_append, List.all_append, hoOne, hnOne]; rfl)
                (by rw [hasz]; omega) (by rw [harr]; exact hRL) (c := cp) (n := (xs ++ ys).length) rfl (by simpa using hcp) (by rw [hasz]; exact Nat.le_refl _)
              refine ⟨_, _, _, _, _, rfl, hrun, by rw [happ]; exact ((g1.trans gd).weaken fun _ _ => trivial).trans b1, ?_⟩
              rw [happ]
              simpa using b2
          · cases he
        · cases he
      · cases he
    · cases he
  · cases he
end
end Go.Di
