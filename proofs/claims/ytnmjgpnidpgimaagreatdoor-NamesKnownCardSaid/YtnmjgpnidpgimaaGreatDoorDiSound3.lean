/- Each operation at the level of data is the machine's: what is made; stores into rows. -/
import Derived.Test.YtnmjgpnidpgimaaGreatDoorDiFlat
namespace Go.Di
open Go.RowKit
set_option linter.unusedSectionVars false

section
variable {P : Program} {W0 : World} {T : Tok → Prop} {ρ : Rho} {F : Nat → Prop} {h : Hp} {w : World}

theorem toksL_cells {d : DV} {u : Tok} : u ∈ toksL d.cells ↔ u ∈ toks d := by
  cases d <;> simp [DV.cells, toksL, toks]

/-- A name that nothing holds yet. -/
structure Fresh (T : Tok → Prop) (h : Hp) (t : Tok) : Prop where
  ne : ∀ u, T u → u ≠ t
  obj : ∀ u o, h u = some o → t ∉ o.toks

theorem Fresh.frz {h1 : Hp} {t : Tok} (f : Fresh T h t) (hf : Frz h h1) : Fresh T h1 t :=
  ⟨f.ne, fun u o ho => by
    rcases hf u with e | ⟨ty, sz, xs, _, e⟩
    · exact f.obj u o (e ▸ ho)
    · rw [e] at ho; cases ho; simp [AObj.toks]⟩

/-- A new block of cells. -/
theorem good_cells (r : Rel W0 ρ F h w) {t : Tok} (hf : Fresh T h t) {ty : TypeId} {cs : List DV} {arr : Array Value} (h1 : cs.all one = true) (hr : RepL ρ F h w cs arr.toList)
    (ht : t ∉ toksL cs) : Good W0 T ρ F h w (ρ.set t (some w.heap.size)) F (h.set t (.cells ty cs)) (w.alloc (.cells arr ty)) ∧
      RepV (ρ.set t (some w.heap.size)) F (h.set t (.cells ty cs)) (w.alloc (.cells arr ty)) (.ptr t 0) (.pointer (some ⟨w.heap.size, 0, none⟩)) := by
  have k := keep_new r t (.cells ty cs) (.cells arr ty (0, 0))
  refine ⟨good_new r hf.ne (fun u o _ ho => hf.obj u o ho) ?_, ?_⟩
  · simp only [RepO]
    exact ⟨w.heap.size, arr, Rho.set_same .., alloc_new .., h1, RepL.keep k _ _ (fun u hu e => ht (e ▸ hu)) hr⟩
  · simp only [RepV]
    exact ⟨⟨_, rfl⟩, fun _ => ⟨_, Rho.set_same .., rfl⟩⟩

/-- A new row. -/
theorem good_row (r : Rel W0 ρ F h w) {t : Tok} (hf : Fresh T h t) {ty : TypeId} {sz n : Nat} {xs : List DV} {arr : Array Value} (hsz : 0 < sz) (hc : closedL xs = true) (hs : ∀ d ∈ xs, d.cells.length = sz)
    (h1 : (flat xs).all one = true) (hn : xs.length = n) (hl : (flat xs).length ≤ arr.size) (hr : RepL ρ F h w (flat xs) (arr.toList.take (flat xs).length)) {c : Nat} (hcap : n ≤ c) (hcs : c * sz ≤ arr.size) :
    Good W0 T ρ F h w (ρ.set t (some w.heap.size)) F (h.set t (.row ty sz xs)) (w.alloc (.cells arr ty)) ∧
      RepV (ρ.set t (some w.heap.size)) F (h.set t (.row ty sz xs)) (w.alloc (.cells arr ty)) (.row sz t n 0 n) (.slice (some ⟨w.heap.size, 0, none⟩) n c) := by
  have k := keep_new r t (.row ty sz xs) (.cells arr ty (0, 0))
  have hcf : closedL (flat xs) = true := closedL_of fun d hd => by
    simp only [flat, List.mem_flatMap] at hd
    obtain ⟨e, he, hde⟩ := hd
    have hce := closedL_mem hc he
    cases e with
    | agg cs => simp only [closed] at hce; exact closedL_mem hce hde
    | _ => simp only [DV.cells, List.mem_singleton] at hde; subst hde; exact hce
  have hfl := flat_length hs
  refine ⟨good_new r hf.ne (fun u o _ ho => hf.obj u o ho) ?_, ?_⟩
  · simp only [RepO]
    refine ⟨hc, hs, hsz, .inr ⟨w.heap.size, arr, Rho.set_same .., alloc_new .., by omega, ?_⟩⟩
    rw [repE_iff hs, repC_iff_block (alloc_new ..) hl]
    exact ⟨RepL.keep k _ _ (fun u hu => by rw [toksL_closed _ hcf] at hu; cases hu) hr, h1⟩
  · simp only [RepV]
    refine ⟨_, c, rfl, hcap, fun m hm => ?_⟩
    simp only [Hp.len?, Hp.set_same, Option.bind_some, AObj.len?, Option.some.injEq] at hm
    refine ⟨by omega, fun _ => ⟨by omega, fun _ => ⟨w.heap.size, Rho.set_same .., by simp, arr, ty, alloc_new .., by simpa using hcs⟩⟩⟩

theorem run_newVar (t : TypeId) (v : Value) : (newVar t v).run P w = .ok ⟨w.heap.size, 0, none⟩ (w.alloc (.cells v.cells t)) := by
  simp [newVar, newRow]

/-- The zero value of a type, as data. -/
def zeroTy (P : Program) (t : TypeId) : Option DV :=
  match (P.info? t).bind (·.zero) with
  | some z => match ofVal 64 z with
    | some d => if stb d then some d else none
    | none => none
  | none => none

theorem zeroTy_run {t : TypeId} {d : DV} (hz : zeroTy P t = some d) : ∃ z, (zeroValue t).run P w = .ok z w ∧ RepV ρ F h w d z ∧ closed d = true ∧ stb d = true := by
  unfold zeroTy at hz
  split at hz
  · rename_i z hzz
    split at hz
    · rename_i d' hd
      split at hz
      · rename_i hs
        cases hz
        obtain ⟨h1, h2⟩ := ofVal_rep (ρ := ρ) (F := F) (h := h) (w := w) hd
        refine ⟨z, ?_, h1, h2, hs⟩
        simp only [Option.bind_eq_some_iff] at hzz
        obtain ⟨i, hi, hz⟩ := hzz
        simp [zeroValue, typeInfo, hi, hz]
      · cases hz
    · cases hz
  · cases hz

theorem ok_alloc (r : Rel W0 ρ F h w) {ty : TypeId} {z : DV} (hz : zeroTy P ty = some z) {t : Tok} (hf : Fresh T h t) {rs : List Tok} :
    OpOk P W0 T ρ F h w ⟨.ret (.ptr t 0), rs, [(t, .cells ty z.cells)]⟩ (Instr.alloc ty true (.tuple #[])) := by
  obtain ⟨zv, h1, h2, h3, h4⟩ := zeroTy_run (P := P) (w := w) (ρ := ρ) (F := F) (h := h) hz
  obtain ⟨c1, c2⟩ := RepV.cells h4 h2
  obtain ⟨g1, g2⟩ := good_cells r hf (ty := ty) c2 c1 (fun hu => by rw [toksL_cells, toks_closed _ h3] at hu; cases hu)
  refine ⟨_, _, _, _, _, rfl, ?_, g1, g2⟩
  simp only [Instr.alloc, Sem.run_bind, h1, Result.andThen_ok, run_newVar, Sem.run_pure]

theorem ok_box (r : Rel W0 ρ F h w) {ty : TypeId} {d : DV} {x : Value} (hs : stb d = true) (hv : RepV ρ F h w d x) (hd : ∀ u ∈ toks d, T u) {t : Tok} (hf : Fresh T h t) {rs : List Tok} :
    OpOk P W0 T ρ F h w ⟨.ret (.ptr t 0), rs, [(t, .cells ty d.cells)]⟩ (Instr.box ty x) := by
  obtain ⟨c1, c2⟩ := RepV.cells hs hv
  obtain ⟨g1, g2⟩ := good_cells r hf (ty := ty) c2 c1 (fun hu => by rw [toksL_cells] at hu; exact hf.ne _ (hd _ hu) rfl)
  refine ⟨_, _, _, _, _, rfl, ?_, g1, g2⟩
  simp only [Instr.box, Sem.run_bind, Result.andThen_ok, run_newVar, Sem.run_pure]

/-- Where a struct's or an array's parts lie. -/
def placesTy (P : Program) (t : TypeId) : Option (Nat → Option (Nat × Nat)) :=
  match P.underlying t with
  | some (.struct fs) =>
    if fs.all (fun f => (szTy P f.type).isSome) then some fun i => (fs[i]?).bind fun f => (szTy P f.type).map fun n => (f.offset, n) else none
  | some (.array _ e) => (szTy P e).map fun n i => some (i * n, n)
  | _ => none

theorem mapM_places (w : World) : ∀ (fs : List Field), (∀ f ∈ fs, (szTy P f.type).isSome = true) →
    ∃ l : List (Nat × Nat), (fs.mapM (m := Sem) fun f => do pure (f.offset, ← sizeOf f.type)).run P w = .ok l w ∧ ∀ i : Nat, l[i]? = (fs[i]?).bind fun f => (szTy P f.type).map fun n => (f.offset, n)
  | [], _ => ⟨[], by simp, fun i => by simp⟩
  | f :: fs, hf => by
    obtain ⟨l, h1, h2⟩ := mapM_places w fs fun x hx => hf x (by simp [hx])
    have := hf f (by simp)
    obtain ⟨n, hn⟩ := Option.isSome_iff_exists.1 this
    refine ⟨(f.offset, n) :: l, ?_, fun i => ?_⟩
    · simp only [List.mapM_cons, Sem.run_bind, szTy_run hn, Result.andThen_ok, Sem.run_pure, h1]
    · cases i with
      | zero => simp [hn]
      | succ i => simpa using h2 i

theorem ok_build (r : Rel W0 ρ F h w) {t : TypeId} {z : DV} (hz : zeroTy P t = some z) {place : Nat → Option (Nat × Nat)} (hp : placesTy P t = some place) {g : DOpd → DV} {ps : List (Nat × Nat × DOpd)} {qs : Array (Nat × Value)} {cs' : List DV}
    (hf : fillParts g ps z.cells = some cs') (hl : ps.length = qs.size)
    (hq : ∀ (i : Nat) off n x j v, ps[i]? = some (off, n, x) → qs[i]? = some (j, v) → place j = some (off, n) ∧ RepV ρ F h w (g x) v) :
    OpOk P W0 T ρ F h w (.val (.agg cs')) (Instr.build t qs) := by
  obtain ⟨zv, h1, h2, h3, h4⟩ := zeroTy_run (P := P) (w := w) (ρ := ρ) (F := F) (h := h) hz
  obtain ⟨c1, c2⟩ := RepV.cells h4 h2
  have go : ∀ pl : Nat → Option (Nat × Nat), (∀ i, pl i = place i) → ∃ arr', Instr.fill pl zv.cells qs.toList = some arr' ∧ RepL ρ F h w cs' arr'.toList ∧ cs'.all one = true := fun pl hpl =>
    fillParts_rep hf c1 c2 (by simpa using hl) fun i off n x j v e1 e2 => by
      rw [hpl]; exact hq i off n x j v e1 (by simpa using e2)
  have fin : ∀ {arr'}, RepL ρ F h w cs' arr'.toList → cs'.all one = true → (Instr.build t qs).run P w = .ok (.agg arr') w → OpOk P W0 T ρ F h w (.val (.agg cs')) (Instr.build t qs) :=
    fun a b c => OpOk.val r c (by simp only [RepV]; exact ⟨_, rfl, b, a⟩)
  unfold placesTy at hp
  split at hp
  · rename_i fs hu
    split at hp
    · rename_i hall
      cases hp
      obtain ⟨l, hl1, hl2⟩ := mapM_places (P := P) w fs.toList (fun f hf => Array.all_eq_true_iff_forall_mem.1 hall f (by simpa using hf))
      obtain ⟨arr', e1, e2, e3⟩ := go (fun i => l.toArray[i]?) fun i => by simpa using hl2 i
      refine fin e2 e3 ?_
      simp only [Instr.build, Sem.run_bind, h1, Result.andThen_ok, run_underlying hu]
      have hm : (fs.mapM (m := Sem) fun f => do pure (f.offset, ← sizeOf f.type)).run P w = .ok l.toArray w := by
        rw [Array.mapM_eq_mapM_toList]
        simp only [Sem.run_map, hl1, Result.andThen_ok]
      simp only [hm, Result.andThen_ok]
      rw [e1]; rfl
    · cases hp
  · rename_i k e hu
    simp only [Option.map_eq_some_iff] at hp
    obtain ⟨n, hn, rfl⟩ := hp
    obtain ⟨arr', e1, e2, e3⟩ := go (fun i => some (i * n, n)) fun i => rfl
    refine fin e2 e3 ?_
    simp only [Instr.build, Sem.run_bind, h1, Result.andThen_ok, run_underlying hu, szTy_run hn]
    rw [e1]; rfl
  · cases hp

/-- The parts of a slice's literal. -/
theorem setParts_rep {F1 : Nat → Prop} {h1 : Hp} (hf : Frz h h1) (r1 : Rel W0 ρ F1 h1 w) (k : Keep (fun _ => True) ρ F h w ρ F1 h1 w) {g : DOpd → DV} {sz : Nat} : ∀ {ps : List (Nat × DOpd)} {qs : List (Nat × Value)} {xs : List DV} {p : List DV × List Tok} {arr : Array Value},
    setParts h g sz ps xs = some p → (∀ t ∈ p.2, ∀ ty sz xs, h t = some (.row ty sz xs) → h1 t = some (.frz ty sz xs)) →
    RepL ρ F1 h1 w (flat xs) arr.toList → (flat xs).all one = true → (∀ d ∈ xs, d.cells.length = sz) → closedL xs = true →
    ps.length = qs.length → (∀ (i : Nat) n x j v, ps[i]? = some (n, x) → qs[i]? = some (j, v) → n = j ∧ RepV ρ F h w (g x) v) →
    ∃ arr', Instr.fill (fun i => some (i * sz, sz)) arr qs = some arr' ∧ RepL ρ F1 h1 w (flat p.1) arr'.toList ∧ (flat p.1).all one = true ∧ (∀ d ∈ p.1, d.cells.length = sz) ∧ closedL p.1 = true ∧ p.1.length = xs.length
  | [], [], xs, p, arr, hp, _, hr, ho, hs, hc, _, _ => by
    simp only [setParts, Option.some.injEq] at hp
    subst hp
    exact ⟨arr, rfl, hr, ho, hs, hc, rfl⟩
  | [], q :: qs, _, _, _, _, _, _, _, _, _, hl, _ => by simp at hl
  | p :: ps, [], _, _, _, _, _, _, _, _, _, hl, _ => by simp at hl
  | (n, x) :: ps, (j, v) :: qs, xs, p, arr, hp, hz, hr, ho, hs, hc, hl, hq => by
    simp only [setParts] at hp
    cases hres : res h (g x) with
    | none => simp [hres] at hp
    | some dt =>
      obtain ⟨d, ts⟩ := dt
      simp only [hres] at hp
      split at hp
      · rename_i hcond
        obtain ⟨hstb, hlen, hi⟩ := hcond
        simp only [Option.map_eq_some_iff] at hp
        obtain ⟨p', hp', rfl⟩ := hp
        obtain ⟨rfl, hv⟩ := hq 0 n x j v rfl rfl
        obtain ⟨hv1, hcl⟩ := res_rep hf r1 k (d' := d) (ts := ts) hres (fun t ht => hz t (by simp [ht])) hv
        obtain ⟨c1, c2⟩ := RepV.cells hstb hv1
        have hcl1 := c1.length
        have hrl := hr.length
        have hfl := flat_length hs
        have hb1 : n * sz + sz ≤ xs.length * sz := by rw [← Nat.succ_mul]; exact Nat.mul_le_mul_right _ hi
        have hfold := fill_foldl v.cells.toList 0 (n * sz) arr (by simp at hrl hcl1 ⊢; omega)
        simp only [Nat.add_zero] at hfold
        have hr' := hr.fill c1 (n * sz)
        rw [← hfold] at hr'
        have hset : flat (xs.set n d) = fillAt (flat xs) (n * sz) d.cells := by
          have := flat_set (r := 0) (dc := d.cells) (e' := d) hs (List.getElem?_eq_getElem hi) (by omega) (by rw [fillAt_all (by rw [hlen, hs _ (List.getElem_mem hi)])])
          simpa using this
        rw [← hset] at hr'
        have hs' : ∀ e ∈ xs.set n d, e.cells.length = sz := fun e he => by
          rcases List.mem_or_eq_of_mem_set he with he | rfl
          · exact hs e he
          · exact hlen
        have hc' : closedL (xs.set n d) = true := closedL_of fun e he => by
          rcases List.mem_or_eq_of_mem_set he with he | rfl
          · exact closedL_mem hc he
          · exact hcl
        obtain ⟨arr', e1, e2, e3, e4, e5, e6⟩ := setParts_rep hf r1 k (ps := ps) (qs := qs) hp' (fun t ht => hz t (by simp [ht])) hr' (by rw [hset]; exact all_one_fill ho c2 _) hs' hc' (by simpa using hl)
          (fun i n' x' j' v' h1 h2 => hq (i + 1) n' x' j' v' (by simpa using h1) (by simpa using h2))
        refine ⟨arr', ?_, e2, e3, e4, e5, by rw [e6]; simp⟩
        simp only [Instr.fill]
        have hne : ¬ ((decide (v.cells.size ≠ sz) || decide (n * sz + v.cells.size > arr.size)) = true) := by
          simp at hrl hcl1 ⊢; omega
        rw [if_neg hne, ← e1]
        congr 1
        rw [← Array.foldl_toList]
        simp
      · cases hp

theorem flat_replicate_rep {z : DV} {zv : Value} {sz n : Nat} (hs : z.cells.length = sz) (hsz : 0 < sz) (hr : RepL ρ F h w z.cells zv.cells.toList) :
    RepL ρ F h w (flat (List.replicate n z)) ((Array.range (n * sz)).map (zv.cells[· % zv.cells.size]!)).toList := by
  have hall : ∀ d ∈ List.replicate n z, d.cells.length = sz := fun d hd => by rw [List.eq_of_mem_replicate hd, hs]
  have hl := flat_length hall
  have hzl := hr.length
  have hzs : zv.cells.size = sz := by simp at hzl; omega
  refine RepL.of (by simp [hl]) fun i d x h1 h2 => ?_
  have hi : i < n * sz := by have := (List.getElem?_eq_some_iff.1 h1).1; rw [hl] at this; simpa using this
  have hdiv : i / sz < n := by rw [Nat.div_lt_iff_lt_mul hsz]; exact hi
  have hm := Nat.mod_lt i hsz
  have hg := flat_get hall (List.getElem?_replicate_of_lt hdiv) (i % sz) hm
  rw [show i / sz * sz + i % sz = i by rw [Nat.mul_comm]; exact Nat.div_add_mod i sz] at hg
  rw [hg] at h1
  obtain ⟨y, hy, hry⟩ := hr.get _ d h1
  simp [hi, hzs] at h2
  have hy' : zv.cells[i % sz]? = some y := by simpa using hy
  rw [Array.getElem!_eq_getD, Array.getD_eq_getD_getElem?, hy'] at h2
  simp at h2
  subst h2
  exact hry

theorem ok_bslice (r : Rel W0 ρ F h w) {t e : TypeId} (hu : P.underlying t = some (.slice e)) {sz n : Nat} (hsz : szTy P e = some sz) (hpos : 0 < sz) (hsmall : n * sz ≤ 2 ^ 24) {z : DV} (hz : zeroTy P e = some z) (hzs : z.cells.length = sz)
    {g : DOpd → DV} {ps : List (Nat × DOpd)} {qs : Array (Nat × Value)} {p : List DV × List Tok} (hp : setParts h g sz ps (List.replicate n z) = some p) (hl : ps.length = qs.size)
    (hq : ∀ (i : Nat) m x j v, ps[i]? = some (m, x) → qs[i]? = some (j, v) → m = j ∧ RepV ρ F h w (g x) v) {tk : Tok} (hf : Fresh T h tk) {rs : List Tok} :
    OpOk P W0 T ρ F h w ⟨.ret (.row sz tk n 0 n), rs, frzAll h p.2 ++ [(tk, .row e sz p.1)]⟩ (Instr.buildSlice t n qs) := by
  obtain ⟨F1, h1, e1, hfz, g1, hzz, _⟩ := good_frzAll (T := fun _ => True) p.2 (Frz.refl h) r
  obtain ⟨zv, z1, z2, z3, z4⟩ := zeroTy_run (P := P) (w := w) (ρ := ρ) (F := F1) (h := h1) hz
  obtain ⟨c1, c2⟩ := RepV.cells z4 z2
  have hall : ∀ d ∈ List.replicate n z, d.cells.length = sz := fun d hd => by rw [List.eq_of_mem_replicate hd, hzs]
  have ho : (flat (List.replicate n z)).all one = true := List.all_eq_true.2 fun d hd => by
    simp only [flat, List.mem_flatMap] at hd
    obtain ⟨a, ha, hda⟩ := hd
    rw [List.eq_of_mem_replicate ha] at hda
    exact List.all_eq_true.1 c2 d hda
  obtain ⟨arr', a1, a2, a3, a4, a5, a6⟩ := setParts_rep hfz g1.rel g1.keep (qs := qs.toList) hp hzz (flat_replicate_rep hzs hpos c1) ho hall (closedL_of fun d hd => by rw [List.eq_of_mem_replicate hd]; exact z3) (by simpa using hl)
    (fun i m x j v h1 h2 => hq i m x j v h1 (by simpa using h2))
  have hlen := flat_length a4
  have hal := a2.length
  simp only [List.length_replicate] at a6
  obtain ⟨b1, b2⟩ := good_row g1.rel (hf.frz hfz) (ty := e) (arr := arr') hpos a5 a4 a3 a6 (by simp at hal; omega) (by rw [List.take_of_length_le (by omega)]; exact a2) (c := n) (Nat.le_refl _) (by simp at hal; rw [a6] at hlen; omega)
  have happ : (frzAll h p.2 ++ [(tk, AObj.row e sz p.1)]).app h = h1.set tk (.row e sz p.1) := by rw [Hl.app_append, ← e1]; rfl
  refine ⟨_, _, _, _, _, rfl, ?_, by rw [happ]; exact (g1.weaken fun _ _ => trivial).trans b1, by rw [happ]; exact b2⟩
  simp only [Instr.buildSlice, Sem.run_bind, run_underlying hu, Result.andThen_ok, szTy_run hsz]
  rw [if_neg (by omega)]
  by_cases h0 : n * sz = 0
  · rw [if_pos h0]
    have a1' : Instr.fill (fun i => some (i * sz, sz)) ((Array.range (n * sz)).map ((#[] : Array Value)[· % (#[] : Array Value).size]!)) qs.toList = some arr' := by
      rw [← a1]
      congr 1
      rw [h0]
      have : Array.range 0 = #[] := by decide
      rw [this, Array.map_empty, Array.map_empty]
    simp only [Sem.run_bind, Sem.run_pure, Result.andThen_ok, a1']
    simp [newRow]
  · rw [if_neg h0]
    simp only [Sem.run_bind, Sem.run_pure, Result.andThen_ok, z1, a1]
    simp [newRow]
end
end Go.Di
