/- Each operation at the level of data is the machine's: the rest that calls nothing. -/
import Derived.Test.YtnmjgpnidpgimaaGreatDoorDiSound4
namespace Go.Di
open Go.RowKit
set_option linter.unusedSectionVars false
set_option linter.unusedSimpArgs false
set_option linter.unusedVariables false

section
variable {P : Program} {W0 : World} {T : Tok → Prop} {ρ : Rho} {F : Nat → Prop} {h : Hp} {w : World}

theorem rep_sc {v x : Value} (hv : RepV ρ F h w (.sc v) x) : x = v := by simp only [RepV] at hv; exact hv.1
theorem rep_mk {v : Value} (hp : plain v = true) : RepV ρ F h w (.sc v) v := by simp [RepV, hp]
theorem rep_int (k : IntKind) (n : Int) : RepV ρ F h w (.sc (.int k n)) (.int k n) := rep_mk rfl
theorem rep_bool (b : Bool) : RepV ρ F h w (.sc (.bool b)) (.bool b) := rep_mk rfl
theorem rep_str (s : ByteArray) : RepV ρ F h w (.sc (.string s)) (.string s) := rep_mk rfl

theorem asNat_rep {d : DV} {n : Nat} {x : Value} (ha : asNat d = some n) (hv : RepV ρ F h w d x) : ∃ k, x = .int k n := by
  unfold asNat at ha
  split at ha
  · rename_i k i
    split at ha
    · rename_i h0
      cases ha
      refine ⟨k, ?_⟩
      rw [rep_sc hv, Int.toNat_of_nonneg h0]
    · cases ha
  · cases ha

def isIfaceD : TypeDesc → Bool
  | .interface _ => true
  | _ => false

theorem ok_pick (r : Rel W0 ρ F h w) {b : Bool} {x y : DV} {cv xv yv : Value} (hc : RepV ρ F h w (.sc (.bool b)) cv) (hx : RepV ρ F h w x xv) (hy : RepV ρ F h w y yv) :
    (asBool cv).run P w = .ok b w ∧ RepV ρ F h w (if b then x else y) (if b then xv else yv) := by
  rw [rep_sc hc]
  refine ⟨rfl, ?_⟩
  cases b
  · exact hy
  · exact hx

theorem eqGuard_same (op : BinOp) (ty : TypeId) {ox oy ox' oy' : Operand} {a b : Value} (h1 : a = .nilIface → Region.isConst ox = Region.isConst ox') (h2 : b = .nilIface → Region.isConst oy = Region.isConst oy') :
    eqGuard op ty ox oy a b = eqGuard op ty ox' oy' a b := by
  unfold eqGuard
  cases a <;> cases b <;> first
    | rfl
    | (have e1 := h1 rfl
       have e2 := h2 rfl
       cases ox <;> cases ox' <;> first
         | (simp [Region.isConst] at e1; done)
         | (cases oy <;> cases oy' <;> first
             | (simp [Region.isConst] at e2; done)
             | rfl))

theorem ok_bin (r : Rel W0 ρ F h w) {op : BinOp} {ty : TypeId} {nx ny : Bool} {x y d : DV} {xv yv : Value} {ox oy : Operand} (hb : binEff P op ty nx ny x y = some d) (hx : RepV ρ F h w x xv) (hy : RepV ρ F h w y yv)
    (h1 : xv = .nilIface → Region.isConst ox = nx) (h2 : yv = .nilIface → Region.isConst oy = ny) :
    OpOk P W0 T ρ F h w (.val d) (do eqGuard op ty ox oy xv yv; binOp op ty xv yv) := by
  unfold binEff at hb
  split at hb
  · rename_i a b ha hbv
    have ea := toVal_rep ha hx
    have eb := toVal_rep hbv hy
    subst ea eb
    simp only [Option.bind_eq_some_iff] at hb
    obtain ⟨v, hv, hd⟩ := hb
    split at hd
    · rename_i hp
      cases hd
      have hrun := pureRun_run hv w
      refine OpOk.val r ?_ (rep_mk hp)
      have hg : eqGuard op ty ox oy xv yv = eqGuard op ty (if nx then .const .nilIface else .tmp 0) (if ny then .const .nilIface else .tmp 0) xv yv :=
        eqGuard_same op ty (fun e => by rw [h1 e]; cases nx <;> rfl) (fun e => by rw [h2 e]; cases ny <;> rfl)
      rw [hg]
      exact hrun
    · cases hd
  · cases hb

theorem ok_un (r : Rel W0 ρ F h w) {op : UnOp} {x : DV} {xv a v : Value} (ha : toVal x = some a) (hv : pureRun P (Op.unary op a) = some v) (hp : plain v = true) (hx : RepV ρ F h w x xv) :
    OpOk P W0 T ρ F h w (.val (.sc v)) (Op.unary op xv) := by
  have ea := toVal_rep ha hx
  subst ea
  exact OpOk.val r (pureRun_run hv w) (rep_mk hp)

theorem ok_faddr (r : Rel W0 ρ F h w) {s : TypeId} {fs : Array Field} (hu : P.underlying s = some (.struct fs)) {i : Nat} {f : Field} (hf : fs[i]? = some f) {n : Nat} (hn : szTy P f.type = some n) (hpos : 0 < n)
    {x : DV} {e : Eff} {xv : Value} (hd : faddrEff h f.offset x = some e) (hx : RepV ρ F h w x xv) : OpOk P W0 T ρ F h w e (Instr.fieldAt s xv i) := by
  have run : ∀ b o, xv = .pointer (some ⟨b, o, none⟩) → (Instr.fieldAt s xv i).run P w = .ok (.pointer (some ⟨b, o + f.offset, none⟩)) w := fun b o e => by
    subst e
    simp only [Instr.fieldAt, Sem.run_bind, run_underlying hu, Result.andThen_ok, hf, Instr.sureAddr, Sem.run_pure]
    simp only [fieldPlace, Sem.run_bind, szTy_run hn, Result.andThen_ok]
    rw [if_neg (by omega)]
    simp [addr_add]
  unfold faddrEff at hd
  split at hd
  · rename_i t o
    split at hd
    · rename_i hlive
      cases hd
      simp only [RepV] at hx
      obtain ⟨b, hb, e⟩ := hx.2 hlive
      refine OpOk.ret r (run b o e) ?_
      simp only [RepV]
      exact ⟨⟨_, rfl⟩, fun _ => ⟨b, hb, rfl⟩⟩
    · cases hd
  · rename_i sz t m i' rr
    split at hd
    · rename_i hlt
      obtain ⟨hlt, hlive⟩ := hlt
      cases hd
      simp only [RepV] at hx
      obtain ⟨_, h2⟩ := hx
      obtain ⟨_, h3⟩ := h2 m hlive
      obtain ⟨hi, hr, b, hb, e⟩ := h3 rfl
      refine OpOk.ret r (run b _ e) ?_
      simp only [RepV]
      refine ⟨⟨_, rfl⟩, fun m' hm' => ?_⟩
      rw [hlive] at hm'
      cases hm'
      exact ⟨Nat.le_refl _, fun _ => ⟨hi, hlt, b, hb, by rw [Nat.add_assoc]⟩⟩
    · cases hd
  · rename_i cs
    cases hd
    simp only [RepV] at hx
    obtain ⟨b, o, e, hF, hc, hC⟩ := hx
    refine OpOk.val r (run b o e) ?_
    simp only [RepV]
    refine ⟨b, o + f.offset, rfl, fun hne => hF fun e0 => by subst e0; simp at hne, closedL_drop hc _, RepC.of fun i d hd => ?_⟩
    rw [List.getElem?_drop] at hd
    have := hC.get _ d hd
    rwa [Nat.add_assoc]
  · cases hd

theorem ok_part (r : Rel W0 ρ F h w) {t : TypeId} {k : Option Nat} (ht : ldTy P t = some k) {cs : List DV} {arr : Array Value} {off : Nat} {d : DV} (hr : RepL ρ F h w cs arr.toList) (h1 : cs.all one = true) (hp : pickCells cs off k = some d) :
    OpOk P W0 T ρ F h w (.val d) (part t arr off) := by
  cases k with
  | none =>
    simp only [pickCells] at hp
    obtain ⟨x, hx, hrx⟩ := hr.get off d hp
    have hx' : arr[off]? = some x := by simpa using hx
    exact OpOk.val r (by simp only [part, Sem.run_bind, (ldTy_none ht).1, Result.andThen_ok]; simp [hx']) hrx
  | some n =>
    simp only [pickCells] at hp
    split at hp
    · rename_i hn
      cases hp
      have hl := hr.length
      refine OpOk.val r (v := .agg (arr.extract off (off + n))) (by simp only [part, Sem.run_bind, (ldTy_some ht).1, (ldTy_some ht).2, Result.andThen_ok, if_true]; rfl) ?_
      simp only [RepV]
      refine ⟨_, rfl, List.all_eq_true.2 fun x hx => List.all_eq_true.1 h1 x (List.mem_of_mem_drop (List.mem_of_mem_take hx)), ?_⟩
      have := (hr.drop off).take n
      have e : (arr.extract off (off + n)).toList = (arr.toList.drop off).take n := by
        rw [Array.toList_extract, List.extract_eq_take_drop]
        congr 1
        omega
      rw [e]; exact this
    · cases hp

theorem ok_fld (r : Rel W0 ρ F h w) {s : TypeId} {fs : Array Field} (hu : P.underlying s = some (.struct fs)) {i : Nat} {f : Field} (hf : fs[i]? = some f) {k : Option Nat} (ht : ldTy P f.type = some k)
    {cs : List DV} {d : DV} {xv : Value} (hx : RepV ρ F h w (.agg cs) xv) (hp : pickCells cs f.offset k = some d) : OpOk P W0 T ρ F h w (.val d) (Instr.field s xv i) := by
  simp only [RepV] at hx
  obtain ⟨arr, rfl, h1, hr⟩ := hx
  obtain ⟨d', v, w', ρ', F', e1, e2, e3, e4⟩ := ok_part (P := P) (T := T) r ht hr h1 hp
  refine ⟨d', v, w', ρ', F', e1, ?_, e3, e4⟩
  simp only [Instr.field, Sem.run_bind, run_underlying hu, Result.andThen_ok, hf, asAgg, Sem.run_pure]
  exact e2

theorem ok_iaddr_lst (r : Rel W0 ρ F h w) {t e : TypeId} (hu : P.underlying t = some (.slice e)) {sz : Nat} (hsz : szTy P e = some sz) {xs : List DV} {k : LK} {n : Nat} {el : DV} {xv iv : Value} {i : DV}
    (hx : RepV ρ F h w (.lst sz xs k) xv) (hi : asNat i = some n) (hiv : RepV ρ F h w i iv) (hel : xs[n]? = some el) :
    OpOk P W0 T ρ F h w (.val (.pref el.cells)) (Instr.indexAt t xv iv) := by
  obtain ⟨ik, rfl⟩ := asNat_rep hi hiv
  simp only [RepV] at hx
  obtain ⟨A, c, rfl, _, _, _, hc, hs, hE⟩ := hx
  have hne : xs ≠ [] := fun e0 => by subst e0; simp at hel
  obtain ⟨b, off, rfl, hF, hE⟩ := hE hne
  have hn : n < xs.length := (List.getElem?_eq_some_iff.1 hel).1
  have hD := hE.get n el hel
  refine OpOk.val r (v := .pointer (some ⟨b, off + n * sz, none⟩)) ?_ ?_
  · simp only [Instr.indexAt, asIntOf, Sem.run_bind, Sem.run_pure, Result.andThen_ok, run_underlying hu]
    have : (0 : Int) ≤ (n : Int) ∧ (n : Int) < (xs.length : Int) := by omega
    simp [this, szTy_run hsz, addr_add, hn]
  · simp only [RepV]
    refine ⟨b, _, rfl, fun _ => hF, ?_, hD⟩
    have := closedL_mem hc (List.mem_of_getElem? hel)
    cases el with
    | agg cs => simpa [closed, DV.cells] using this
    | _ => simp [DV.cells, closedL, this]

theorem ok_iaddr_row (r : Rel W0 ρ F h w) {t e : TypeId} (hu : P.underlying t = some (.slice e)) {sz : Nat} (hsz : szTy P e = some sz) (hpos : 0 < sz) {tk : Tok} {m off len n : Nat} {xv iv : Value} {i : DV}
    (hx : RepV ρ F h w (.row sz tk m off len) xv) (hi : asNat i = some n) (hiv : RepV ρ F h w i iv) (hn : n < len) (hlive : h.len? tk = some m) :
    OpOk P W0 T ρ F h w (.val (.rptr sz tk m (off + n) 0)) (Instr.indexAt t xv iv) := by
  obtain ⟨ik, rfl⟩ := asNat_rep hi hiv
  simp only [RepV] at hx
  obtain ⟨A, c, rfl, hlc, hx2⟩ := hx
  obtain ⟨_, h3⟩ := hx2 m hlive
  obtain ⟨h4, h5⟩ := h3 rfl
  obtain ⟨b, hb, rfl, _⟩ := h5 (by omega)
  refine OpOk.val r (v := .pointer (some ⟨b, off * sz + n * sz, none⟩)) ?_ ?_
  · simp only [Instr.indexAt, asIntOf, Sem.run_bind, Sem.run_pure, Result.andThen_ok, run_underlying hu]
    have : (0 : Int) ≤ (n : Int) ∧ (n : Int) < (len : Int) := by omega
    simp [this, szTy_run hsz, addr_add, hn]
  · simp only [RepV]
    refine ⟨⟨_, rfl⟩, fun m' hm' => ?_⟩
    rw [hlive] at hm'; cases hm'
    exact ⟨Nat.le_refl _, fun _ => ⟨by omega, hpos, b, hb, by rw [Nat.add_zero, Nat.add_mul]⟩⟩

theorem ok_idxS (r : Rel W0 ρ F h w) {t : TypeId} (hu : P.underlying t = some .string) {s : ByteArray} {n : Nat} {bt : UInt8} {xv iv : Value} {i : DV}
    (hx : RepV ρ F h w (.sc (.string s)) xv) (hi : asNat i = some n) (hiv : RepV ρ F h w i iv) (hb : s[n]? = some bt) :
    OpOk P W0 T ρ F h w (.val (.sc (.int .u8 bt.toNat))) (Instr.index t xv iv) := by
  obtain ⟨ik, rfl⟩ := asNat_rep hi hiv
  rw [rep_sc hx]
  refine OpOk.val r ?_ (rep_int _ _)
  simp only [Instr.index, asIntOf, Sem.run_bind, Sem.run_pure, Result.andThen_ok, run_underlying hu]
  simp [hb]

theorem ok_extr (r : Rel W0 ρ F h w) {vs : List DV} {i : Nat} {d : DV} {xv : Value} (hx : RepV ρ F h w (.tup vs) xv) (hd : vs[i]? = some d) : OpOk P W0 T ρ F h w (.val d) (Instr.extract xv i) := by
  simp only [RepV] at hx
  obtain ⟨u, rfl, hr⟩ := hx
  obtain ⟨x, hx, hrx⟩ := hr.get i d hd
  have hx' : u[i]? = some x := by simpa using hx
  exact OpOk.val r (by simp [Instr.extract, hx']) hrx

theorem ok_tas (r : Rel W0 ρ F h w) {ty xty : TypeId} {td : TypeDesc} (hu : P.underlying ty = some td) (hni : isIfaceD td = false) {z : DV} (hz : zeroTy P ty = some z) {ok : Bool} {x d : DV} {xv : Value}
    (hd : tasEff ty z ok x = some d) (hx : RepV ρ F h w x xv) : OpOk P W0 T ρ F h w (.val d) (Instr.typeAssert xv xty ty ok) := by
  obtain ⟨zv, z1, z2, _⟩ := zeroTy_run (P := P) (w := w) (ρ := ρ) (F := F) (h := h) hz
  have tupT : ∀ {a : DV} {v : Value} {b : Bool}, RepV ρ F h w a v → RepV ρ F h w (.tup [a, .sc (.bool b)]) (.tuple #[v, .bool b]) := fun hv => by
    simp only [RepV, RepL]
    exact ⟨_, rfl, _, _, rfl, hv, _, _, rfl, ⟨rfl, rfl⟩, rfl⟩
  unfold tasEff at hd
  split at hd
  · rename_i u v
    simp only [RepV] at hx
    obtain ⟨y, rfl, hy⟩ := hx
    split at hd
    · rename_i e
      subst e
      cases hd
      cases ok
      · refine OpOk.val r ?_ hy
        simp only [Instr.typeAssert, Sem.run_bind, run_underlying hu, Result.andThen_ok]
        cases td <;> simp_all [isIfaceD]
      · refine OpOk.val r ?_ (tupT hy)
        simp only [Instr.typeAssert, Sem.run_bind, run_underlying hu, Result.andThen_ok]
        cases td <;> simp_all [isIfaceD]
    · rename_i hne
      cases ok
      · cases hd
      · cases hd
        refine OpOk.val r ?_ (tupT z2)
        simp only [Instr.typeAssert, Sem.run_bind, run_underlying hu, Result.andThen_ok]
        cases td <;> simp_all [isIfaceD]
  · rw [rep_sc hx]
    cases ok
    · cases hd
    · cases hd
      refine OpOk.val r ?_ (tupT z2)
      simp only [Instr.typeAssert, Sem.run_bind, run_underlying hu, Result.andThen_ok]
      cases td <;> simp_all [isIfaceD]
  · cases hd

theorem ok_len (r : Rel W0 ρ F h w) {t : TypeId} {ty : TypeId} {str : Bool} {x d : DV} {xv : Value} (hd : lenEff str x = some d) (hx : RepV ρ F h w x xv) (hs : str = true → P.underlying t = some .string)
    (hs2 : str = false → ∃ e, P.underlying t = some (.slice e)) : OpOk P W0 T ρ F h w (.val d) (Builtin.len_ #[t] ty #[xv]) := by
  unfold lenEff at hd
  split at hd
  · rename_i s
    split at hd
    · rename_i hstr
      cases hd
      rw [rep_sc hx]
      exact OpOk.val r (by simp [Builtin.len_, run_underlying (hs hstr), goInt]) (rep_int _ _)
    · cases hd
  · rename_i sz xs k
    split at hd
    · cases hd
    · rename_i hstr
      cases hd
      obtain ⟨e, he⟩ := hs2 (by simpa using hstr)
      simp only [RepV] at hx
      obtain ⟨A, c, rfl, _⟩ := hx
      exact OpOk.val r (by simp [Builtin.len_, run_underlying he, goInt]) (rep_int _ _)
  · rename_i sz t m off len
    split at hd
    · cases hd
    · rename_i hstr
      cases hd
      obtain ⟨e, he⟩ := hs2 (by simpa using hstr)
      simp only [RepV] at hx
      obtain ⟨A, c, rfl, _⟩ := hx
      exact OpOk.val r (by simp [Builtin.len_, run_underlying he, goInt]) (rep_int _ _)
  · cases hd

theorem sliceBound_run {x : Value} {k : IntKind} {i y : Nat} {code : BoundsCode} (hx : x = .int k i) (hi : i ≤ y) : (Instr.sliceBound x y code).run P w = .ok i w := by
  subst hx
  simp only [Instr.sliceBound, asIntOf, Sem.run_bind, Sem.run_pure, Result.andThen_ok]
  have : (0 : Int) ≤ (i : Int) ∧ (i : Int) ≤ (y : Int) := by omega
  simp [this, hi]

/-- A bound that is there or not. -/
def RepO? (ρ : Rho) (F : Nat → Prop) (h : Hp) (w : World) : Option DV → Option Value → Prop
  | none, none => True
  | some d, some v => RepV ρ F h w d v
  | _, _ => False

def bnd (dflt : Nat) : Option DV → Option Nat
  | none => some dflt
  | some d => asNat d

theorem sliceBounds_run {isS : Bool} {len cap l u m : Nat} {lo hi mx : Option DV} {lov hiv mxv : Option Value} (h1 : RepO? ρ F h w lo lov) (h2 : RepO? ρ F h w hi hiv) (h3 : RepO? ρ F h w mx mxv)
    (hl : bnd 0 lo = some l) (hu : bnd len hi = some u) (hm : bnd cap mx = some m)
    (h4 : l ≤ u) (h5 : u ≤ m) (h6 : m ≤ cap) (h7 : mx.isSome = true → hi.isSome = true) : (Instr.sliceBounds isS len cap lov hiv mxv).run P w = .ok (l, u, m) w := by
  cases mx with
  | none =>
    cases mxv with
    | some _ => exact h3.elim
    | none =>
      simp only [bnd, Option.some.injEq] at hm
      subst hm
      cases hi with
      | none =>
        cases hiv with
        | some _ => exact h2.elim
        | none =>
          simp only [bnd, Option.some.injEq] at hu
          subst hu
          cases lo with
          | none =>
            cases lov with
            | some _ => exact h1.elim
            | none => simp only [bnd, Option.some.injEq] at hl; subst hl; simp [Instr.sliceBounds]
          | some dl =>
            cases lov with
            | none => exact h1.elim
            | some vl =>
              obtain ⟨k, e⟩ := asNat_rep hl h1
              simp [Instr.sliceBounds, sliceBound_run e h4]
      | some dh =>
        cases hiv with
        | none => exact h2.elim
        | some vh =>
          obtain ⟨k, e⟩ := asNat_rep hu h2
          cases lo with
          | none =>
            cases lov with
            | some _ => exact h1.elim
            | none => simp only [bnd, Option.some.injEq] at hl; subst hl; simp [Instr.sliceBounds, sliceBound_run e h5]
          | some dl =>
            cases lov with
            | none => exact h1.elim
            | some vl =>
              obtain ⟨k', e'⟩ := asNat_rep hl h1
              simp [Instr.sliceBounds, sliceBound_run e h5, sliceBound_run e' h4]
  | some dm =>
    cases mxv with
    | none => exact h3.elim
    | some vm =>
      obtain ⟨km, em⟩ := asNat_rep hm h3
      cases hi with
      | none => simp at h7
      | some dh =>
        cases hiv with
        | none => exact h2.elim
        | some vh =>
          obtain ⟨k, e⟩ := asNat_rep hu h2
          cases lo with
          | none =>
            cases lov with
            | some _ => exact h1.elim
            | none => simp only [bnd, Option.some.injEq] at hl; subst hl; simp [Instr.sliceBounds, sliceBound_run em h6, sliceBound_run e h5]
          | some dl =>
            cases lov with
            | none => exact h1.elim
            | some vl =>
              obtain ⟨k', e'⟩ := asNat_rep hl h1
              simp [Instr.sliceBounds, sliceBound_run em h6, sliceBound_run e h5, sliceBound_run e' h4]

theorem optNat_rep {g : DOpd → DV} {dflt n : Nat} {x : Option DOpd} (hx : optNat g dflt x = some n) : bnd dflt (x.map g) = some n := by
  cases x <;> simpa [optNat, bnd] using hx

theorem ok_slcS (r : Rel W0 ρ F h w) {t : TypeId} (hu : P.underlying t = some .string) {g : DOpd → DV} {s : ByteArray} {lo hi : Option DOpd} {e : Eff} (he : strCut s g lo hi = some e) {xv : Value} {lov hiv : Option Value}
    (hx : RepV ρ F h w (.sc (.string s)) xv) (h1 : RepO? ρ F h w (lo.map g) lov) (h2 : RepO? ρ F h w (hi.map g) hiv) : OpOk P W0 T ρ F h w e (Instr.sliceAt t xv lov hiv none) := by
  unfold strCut at he
  split at he
  · rename_i l u hl hh
    split at he
    · rename_i hc
      cases he
      rw [rep_sc hx]
      have hb := sliceBounds_run (P := P) (w := w) (isS := false) (len := s.size) (cap := s.size) (m := s.size) (mx := none) (mxv := none) h1 h2 trivial (optNat_rep hl) (optNat_rep hh) rfl hc.1 hc.2 (Nat.le_refl _) (by simp)
      refine OpOk.val r ?_ (rep_str _)
      simp only [Instr.sliceAt, Sem.run_bind, run_underlying hu, Result.andThen_ok, Instr.slice]
      simp [hb]
    · cases he
  · cases he

theorem ok_slc (r : Rel W0 ρ F h w) {t el : TypeId} (hu : P.underlying t = some (.slice el)) {sz : Nat} (hsz : szTy P el = some sz) {g : DOpd → DV} {x : DV} {lo hi mx : Option DOpd} {e : Eff} (he : slcEff sz x g lo hi mx = some e) {xv : Value} {lov hiv mxv : Option Value}
    (hx : RepV ρ F h w x xv) (h1 : RepO? ρ F h w (lo.map g) lov) (h2 : RepO? ρ F h w (hi.map g) hiv) (h3 : RepO? ρ F h w (mx.map g) mxv) (hmx : mx.isSome = true → hi.isSome = true) :
    OpOk P W0 T ρ F h w e (Instr.sliceAt t xv lov hiv mxv) := by
  unfold slcEff at he
  split at he
  · rename_i sz' xs k
    split at he
    · rename_i l u m hl hh hm
      split at he
      · rename_i hc
        obtain ⟨hszx, hlu, hum, hmx'⟩ := hc
        cases he
        simp only [RepV] at hx
        obtain ⟨A, c, rfl, hlc, hnil, ⟨hfull, _⟩, hcl, hs, hE⟩ := hx
        -- the third bound, where there is none, is the capacity
        have hb : ∃ m', (Instr.sliceBounds true xs.length c lov hiv mxv).run P w = .ok (l, u, m') w ∧ u ≤ m' ∧ (mx.isSome = true → m' = m) ∧ (mx = none → m' = c) := by
          cases mx with
          | none =>
            exact ⟨c, sliceBounds_run (mx := none) (m := c) h1 h2 h3 (optNat_rep hl) (optNat_rep hh) rfl hlu (by omega) (Nat.le_refl _) (by simp), by omega, by simp, fun _ => rfl⟩
          | some q =>
            exact ⟨m, sliceBounds_run (mx := some (g q)) (m := m) h1 h2 h3 (optNat_rep hl) (optNat_rep hh) (by simpa [optNat, bnd] using hm) hlu hum (by omega) (by simpa using hmx), by omega, fun _ => rfl, by simp⟩
        obtain ⟨m', hb, hum', hm1, hm2⟩ := hb
        have hlen : ((xs.drop l).take (u - l)).length = u - l := by simp; omega
        refine OpOk.val r (v := .slice (if m' = l then A else A.map (·.add (l * sz))) (u - l) (m' - l)) ?_ ?_
        · simp only [Instr.sliceAt, Sem.run_bind, run_underlying hu, Result.andThen_ok, Instr.slice]
          simp [hb, szTy_run hsz]
        · simp only [RepV]
          refine ⟨_, m' - l, by rw [hlen], by rw [hlen]; omega, fun hk => ?_, ⟨fun hk => ?_, fun hk => ?_, fun hk => ?_⟩, closedL_take (closedL_drop hcl _) _, fun d hd => ?_, fun hne => ?_⟩
          · split at hk <;> first | cases hk | (split at hk <;> cases hk)
          · rw [hlen]
            split at hk
            · rename_i hq
              have := hm1 hq.1
              omega
            · rename_i hq
              split at hk
              · rename_i hk2
                cases mx with
                | none => have := hm2 rfl; have := hfull hk2.1; omega
                | some q => have := hm1 rfl; simp at hq; omega
              · cases hk
          · split at hk <;> first | cases hk | (split at hk <;> cases hk)
          · split at hk <;> first | cases hk | (split at hk <;> cases hk)
          · have hd' := List.mem_of_mem_drop (List.mem_of_mem_take hd)
            rcases hszx with e0 | e0
            · rw [← e0]; exact hs d hd'
            · subst e0; cases hd'
          · have hxne : xs ≠ [] := fun e0 => by subst e0; simp at hne
            have hszz : sz' = sz := hszx.resolve_right hxne
            subst hszz
            obtain ⟨b, off, rfl, hF, hE⟩ := hE hxne
            have hlt : l < u := by
              rcases Nat.lt_or_ge l u with e0 | e0
              · exact e0
              · have : u - l = 0 := by omega
                rw [this] at hne; simp at hne
            rw [if_neg (by omega)]
            exact ⟨b, off + l * sz', by simp [addr_add], hF, repE_seg hE l (u - l)⟩
      · cases he
    · cases he
  · rename_i sz' tk n off len
    split at he
    · rename_i q
      split at he
      · rename_i hl hh hm
        cases he
        simp only [RepV] at hx
        obtain ⟨A, c, rfl, hlc, _⟩ := hx
        have hb := sliceBounds_run (P := P) (w := w) (isS := true) (len := len) (cap := c) (l := 0) (u := 0) (m := 0) (mx := some (g q)) (mxv := mxv) h1 h2 h3 (optNat_rep hl)
          (by
            cases hi with
            | none => simp at hmx
            | some a => simpa [optNat, bnd] using hh) (by simpa [optNat, bnd] using hm) (Nat.le_refl _) (Nat.le_refl _) (Nat.zero_le _) (by simpa using hmx)
        refine OpOk.val r (v := .slice A 0 0) ?_ (by simp only [RepV]; exact ⟨A, 0, rfl, Nat.le_refl _, (fun h => by cases h), ⟨(fun _ => rfl), (fun h => by cases h), (fun h => by cases h)⟩, rfl, (fun d hd => by cases hd), fun h => absurd rfl h⟩)
        simp only [Instr.sliceAt, Sem.run_bind, run_underlying hu, Result.andThen_ok, Instr.slice]
        simp [hb, szTy_run hsz]
      · cases he
    · split at he
      · rename_i l u hl hh
        split at he
        · rename_i hc
          obtain ⟨rfl, hlu, hul⟩ := hc
          cases he
          simp only [RepV] at hx
          obtain ⟨A, c, rfl, hlc, hx2⟩ := hx
          cases mxv with
          | some _ => exact h3.elim
          | none =>
            have hb := sliceBounds_run (P := P) (w := w) (isS := true) (len := len) (cap := c) (m := c) (mx := none) (mxv := none) h1 h2 trivial (optNat_rep hl) (optNat_rep hh) rfl hlu (by omega) (Nat.le_refl _) (by simp)
            refine OpOk.val r (v := .slice (if c = l then A else A.map (·.add (l * sz'))) (u - l) (c - l)) ?_ ?_
            · simp only [Instr.sliceAt, Sem.run_bind, run_underlying hu, Result.andThen_ok, Instr.slice]
              simp [hb, szTy_run hsz]
            · simp only [RepV]
              refine ⟨_, c - l, rfl, by omega, fun m hm => ?_⟩
              obtain ⟨h4, h5⟩ := hx2 m hm
              refine ⟨h4, fun e0 => ?_⟩
              obtain ⟨h6, h7⟩ := h5 e0
              refine ⟨by omega, fun hpos => ?_⟩
              obtain ⟨b, hb2, rfl, hcap⟩ := h7 (by omega)
              rw [if_neg (by omega)]
              refine ⟨b, hb2, by simp [addr_add, Nat.add_mul], ?_⟩
              rw [show off + l + (c - l) = off + c by omega]
              exact hcap
        · cases he
      · cases he
  · cases he

theorem ok_rngS (r : Rel W0 ρ F h w) {t : TypeId} (hu : P.underlying t = some .string) {s : ByteArray} {xv : Value} (hx : RepV ρ F h w (.sc (.string s)) xv) {tk : Tok} (hf : Fresh T h tk) :
    OpOk P W0 T ρ F h w ⟨.ret (.ptr tk 0), [], [(tk, .sit s 0)]⟩ (Instr.range t xv) := by
  rw [rep_sc hx]
  have g := good_new (T := T) r (t := tk) (o := .sit s 0) (ob := .stringIter s 0) hf.ne (fun u o _ ho => hf.obj u o ho) (by simp only [RepO]; exact ⟨w.heap.size, Rho.set_same .., alloc_new ..⟩)
  refine ⟨_, .pointer (some ⟨w.heap.size, 0, none⟩), _, _, _, rfl, ?_, g, ?_⟩
  · simp only [Instr.range, Sem.run_bind, run_underlying hu, Result.andThen_ok]
    simp
  · simp only [RepV]
    exact ⟨⟨_, rfl⟩, fun _ => ⟨_, Rho.set_same .., rfl⟩⟩

theorem ok_nxtS (r : Rel W0 ρ F h w) {ty : TypeId} {tk : Tok} {s : ByteArray} {pos : Nat} {xv : Value} (hobj : h tk = some (.sit s pos)) (hx : RepV ρ F h w (.ptr tk 0) xv) :
    OpOk P W0 T ρ F h w (if pos < s.size then ⟨.ret (.tup [.sc (.bool true), .sc (.int .i64 pos), .sc (.int .i32 (Utf8.decode s pos).1)]), [tk], [(tk, .sit s (pos + (Utf8.decode s pos).2))]⟩
      else ⟨.ret (.tup [.sc (.bool false)]), [tk], []⟩) (Instr.next xv true ty) := by
  simp only [RepV] at hx
  obtain ⟨b, hb, rfl⟩ := hx.2 (by simp [Hp.len?, hobj, AObj.len?])
  have hO := r.obj tk _ hobj
  simp only [RepO] at hO
  obtain ⟨b', hb', hblk⟩ := hO
  rw [hb] at hb'; cases hb'
  have hget : (getObj b).run P w = .ok (.stringIter s pos) w := by simp [getObj, Sem.run, hblk]
  split
  · rename_i hlt
    have hw' : ∀ c, c ≠ b → ({ w with heap := w.heap.setIfInBounds b (.stringIter s (pos + (Utf8.decode s pos).2)) } : World).heap[c]? = w.heap[c]? := fun c hc => by
      show (w.heap.setIfInBounds b _)[c]? = _
      rw [Array.getElem?_setIfInBounds_ne (Ne.symm hc)]
    have hbl : b < w.heap.size := (Array.getElem?_eq_some_iff.1 hblk).1
    have hself : ({ w with heap := w.heap.setIfInBounds b (.stringIter s (pos + (Utf8.decode s pos).2)) } : World).heap[b]? = some (.stringIter s (pos + (Utf8.decode s pos).2)) := by
      show (w.heap.setIfInBounds b _)[b]? = _
      simp [hbl]
    refine ⟨_, .tuple #[.bool true, goInt pos, .int .i32 (Utf8.decode s pos).1], { w with heap := w.heap.setIfInBounds b (.stringIter s (pos + (Utf8.decode s pos).2)) }, ρ, F, rfl, ?_, ?_, ?_⟩
    · simp only [Instr.next, Sem.run_bind, hget, Result.andThen_ok]
      simp [hlt, setObj, Sem.run, hblk]
    · refine good_upd r hobj rfl hb (fun _ => rfl) (fun m hm => by cases hm) (fun k hk => ?_) hw' (by simp) rfl rfl rfl ?_
      · obtain ⟨arr, t2, h1, _⟩ := hk; rw [hblk] at h1; cases h1
      · simp only [RepO]; exact ⟨b, hb, hself⟩
    · simp only [RepV, RepL]
      exact ⟨_, rfl, _, _, rfl, ⟨rfl, rfl⟩, _, _, rfl, ⟨rfl, rfl⟩, _, _, rfl, ⟨rfl, rfl⟩, rfl⟩
  · rename_i hge
    refine OpOk.ret r (v := .tuple #[.bool false]) ?_ ?_
    · simp only [Instr.next, Sem.run_bind, hget, Result.andThen_ok]
      simp [hge]
    · simp only [RepV, RepL]
      exact ⟨_, rfl, _, _, rfl, ⟨rfl, rfl⟩, rfl⟩

theorem ok_mxmn (r : Rel W0 ρ F h w) {mx : Bool} {k k' : IntKind} {a b : Int} {xv yv : Value} {ts : Array TypeId} {ty : TypeId} (hx : RepV ρ F h w (.sc (.int k a)) xv) (hy : RepV ρ F h w (.sc (.int k' b)) yv) :
    OpOk P W0 T ρ F h w (.val (.sc (.int k (if mx then (if b > a then b else a) else if b < a then b else a)))) (if mx then Builtin.max_ ts ty #[xv, yv] else Builtin.min_ ts ty #[xv, yv]) := by
  rw [rep_sc hx, rep_sc hy]
  cases mx
  · exact OpOk.val r (v := .int k (if b < a then b else a)) (by simp [Builtin.min_, Builtin.min2]) (rep_int _ _)
  · exact OpOk.val r (v := .int k (if b > a then b else a)) (by simp [Builtin.max_, Builtin.max2]) (rep_int _ _)

theorem ok_mkif (r : Rel W0 ρ F h w) {t : TypeId} {td : TypeDesc} (hu : P.underlying t = some td) (hni : isIfaceD td = false) {x : DV} {xv : Value} (hx : RepV ρ F h w x xv) :
    OpOk P W0 T ρ F h w (.val (.iface t x)) (Instr.makeInterface t xv) := by
  refine OpOk.val r (v := .iface t xv) ?_ (by simp only [RepV]; exact ⟨xv, rfl, hx⟩)
  simp only [Instr.makeInterface, Sem.run_bind, run_underlying hu, Result.andThen_ok]
  cases td <;> simp_all [isIfaceD]

theorem ok_cvt (r : Rel W0 ρ F h w) {s t : TypeId} {k j : IntKind} {sd : TypeDesc} (hs : P.underlying s = some sd) (ht : P.underlying t = some (.int k)) {n : Int} {xv : Value} (hx : RepV ρ F h w (.sc (.int j n)) xv) :
    OpOk P W0 T ρ F h w (.val (.sc (.int k (k.wrap n)))) (convert s t xv) := by
  rw [rep_sc hx]
  refine OpOk.val r (v := .int k (k.wrap n)) ?_ (rep_int _ _)
  simp only [convert, Sem.run_bind, run_underlying hs, run_underlying ht, Result.andThen_ok]
  cases sd <;> simp [Conv.intToInt]

theorem ok_cvtS (r : Rel W0 ρ F h w) {s t : TypeId} {sd : TypeDesc} (hs : P.underlying s = some sd) (ht : P.underlying t = some .string) {u : ByteArray} {xv : Value} (hx : RepV ρ F h w (.sc (.string u)) xv) :
    OpOk P W0 T ρ F h w (.val (.sc (.string u))) (convert s t xv) := by
  rw [rep_sc hx]
  refine OpOk.val r (v := .string u) ?_ (rep_str _)
  simp only [convert, Sem.run_bind, run_underlying hs, run_underlying ht, Result.andThen_ok]
  cases sd <;> simp
end
end Go.Di
