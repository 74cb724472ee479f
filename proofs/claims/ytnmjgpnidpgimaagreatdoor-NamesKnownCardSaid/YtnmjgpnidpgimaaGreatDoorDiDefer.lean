/- Functions that defer a closure, which may recover. -/
import Derived.Test.YtnmjgpnidpgimaaGreatDoorDiFn
import Derived.Recover
namespace Go.Di
open Go.RowKit
set_option linter.unusedSectionVars false
set_option linter.unusedSimpArgs false
set_option linter.unusedVariables false

/-- A body in which, at its top, one closure is deferred. -/
inductive DTop where
  | one (c : DCode)
  | seq (a : DCode) (b : DTop)
  | dfr (ds : List DOper) (ks : List Nat) (f : DOpd) (SX : List Nat) (b : DCode)

/-- The closure: its first operation asks for the panic. -/
structure DClo where
  rslot : Nat
  ds : List DOper
  ks : List Nat
  rest : DCode
  ntmps : Nat

structure DFnD where
  top : DTop
  ntmps : Nat
  res : List DRes
  mode : Mode

def heldOk (SX : List Nat) : List Tok → Bool
  | [] => true
  | t :: ts => (match t with
    | 0 :: _ => true
    | (n + 1) :: _ => SX.any (Nat.beq n)
    | [] => false) && heldOk SX ts

def runTop (P : Program) (Γ : Gam) (fuel : Nat) : DTop → EnvL → Hl → Option (CR × Option (FuncId × List DV))
  | .one c, g, h => (runC P Γ fuel c g h).map fun r => (r, none)
  | .seq a b, g, h => match runC P Γ fuel a g h with
    | some (.norm g' h') => runTop P Γ fuel b g' h'
    | some r => some (r, none)
    | none => none
  | .dfr ds ks f SX b, g, h => match seqRun P Γ ds g h with
    | some (.ok g' h') => match getOpd g'.get f with
      | .fn (.func n) [] cap => match heldOk SX (toksL cap), runC P Γ fuel b (g'.keep ks) h' with
        | true, some r => some (r, some (n, cap))
        | _, _ => none
      | _ => none
    | some (.pnc v g' h') => some (.pnc v g' h', none)
    | none => none

def allIn : Hl → Bool
  | [] => true
  | (t, _) :: l => isIn t && allIn l

/-- The closure's code, with what it recovers; its names are those that it was handed. -/
def runClo (P : Program) (Γ : Gam) (fuel : Nat) (dc : DClo) (args : List DV) (rec : DV) (H : Hl) : Option Hl :=
  match Nat.ble args.length dc.ntmps, Nat.blt dc.rslot dc.ntmps, disj (toks rec) [] with
  | true, true, true => match seqRun P Γ dc.ds (EnvL.put (ofArgs 0 args) (some dc.rslot) rec) H with
    | some (.ok g h) => match runC P Γ fuel dc.rest (g.keep dc.ks) h with
      | some (.norm _ h') => cut [] h'
      | some (.ret _ h') => cut [] h'
      | _ => none
    | _ => none
  | _, _, _ => none

/-- What the deferred closure makes of the caller's objects. -/
def runDefer (P : Program) (Γ : Gam) (fuel : Nat) (clo : FuncId → Option DClo) (n : FuncId) (cap : List DV) (rec : DV) (h : Hl) : Option Hl :=
  match clo n with
  | none => none
  | some dc =>
    let ts := reach h.get (rec :: cap)
    match nodup ts && (toksL (rec :: cap)).all ts.contains, handed h.get ts (inName ts) ts with
    | true, some h0 => match runClo P Γ fuel dc (renL (inName ts) cap) (ren (inName ts) rec) h0 with
      | some H2 => match allIn H2 && okHl H2 ts.length H2, backIn ts (outName ts 0) H2 0 ts with
        | true, some l => some (Hl.upd l.reverse h)
        | _, _ => none
      | none => none
    | _, _ => none

def runFnD (P : Program) (Γ : Gam) (fuel : Nat) (clo : FuncId → Option DClo) (df : DFnD) (args : List DV) (H : Hl) : Option (Out × Hl) :=
  match Nat.ble args.length df.ntmps with
  | false => none
  | true => match runTop P Γ fuel df.top (ofArgs 0 args) H with
    | some (.norm g h, none) => match runRes g h df.res with
      | some l => finish df.mode (.ret (tupOf l)) h
      | none => none
    | some (.ret g h, none) => match runRes g h df.res with
      | some l => finish df.mode (.ret (tupOf l)) h
      | none => none
    | some (.pnc v _ h, none) => finish df.mode (.pnc v) h
    | some (.norm g h, some (n, cap)) => match runDefer P Γ fuel clo n cap (.sc .nilIface) h with
      | some h' => match runRes g h' df.res with
        | some l => finish df.mode (.ret (tupOf l)) h'
        | none => none
      | none => none
    | some (.ret g h, some (n, cap)) => match runDefer P Γ fuel clo n cap (.sc .nilIface) h with
      | some h' => match runRes g h' df.res with
        | some l => finish df.mode (.ret (tupOf l)) h'
        | none => none
      | none => none
    | some (.pnc v g h, some (n, cap)) => match runDefer P Γ fuel clo n cap v h with
      | some h' => match runRes g h' df.res with
        | some l => finish df.mode (.ret (tupOf l)) h'
        | none => none
      | none => none
    | _ => none

/-! ## Digests -/

def isDefer (o : Oper) : Option Operand := match o.op, o.guard, o.dst with
  | .defer c, none, none => match c.callee, c.args.toList with
    | .value x, [] => some x
    | _, _ => none
  | _, _, _ => none

def digTop (P : Program) (N : Nat) (SX : List Nat) : Code → List Hint → Option (DTop × List Hint)
  | .seq (.region id ops draw) b, hs => match (ops.toList.getLast?).bind isDefer with
    | some x => match draw, digOpers P ops N ops.toList.dropLast, digOpd x, hs with
      | false, some ds, some f, .keep ks :: hs => match digCode P N b hs with
        | some (y, hs) => match clear SX y with
          | true => some (.dfr ds ks f SX y, hs)
          | false => none
        | none => none
      | _, _, _, _ => none
    | none => match digCode P N (.region id ops draw) hs with
      | some (x, hs) => match digTop P N SX b hs with
        | some (y, hs) => some (.seq x y, hs)
        | none => none
      | none => none
  | .seq a b, hs => match digCode P N a hs with
    | some (x, hs) => match digTop P N SX b hs with
      | some (y, hs) => some (.seq x y, hs)
      | none => none
    | none => none
  | c, hs => (digCode P N c hs).map fun p => (.one p.1, p.2)

def isRecover (o : Oper) : Option Nat := match o.op, o.guard with
  | .call c, none => match c.callee, c.args.toList with
    | .builtin .recover, [] => o.dst
    | _, _ => none
  | _, _ => none

def digClo (P : Program) (fn : Func) (hs : List Hint) : Option DClo := match fn.body with
  | some (.seq (.region _ ops false) b) => match ops.toList with
    | o :: os => match isRecover o, digOpers P ops fn.ntmps os, fn.results.toList, hs with
      | some r, some ds, [], .keep ks :: hs => match digCode P fn.ntmps b hs with
        | some (y, []) => some ⟨r, ds, ks, y, fn.ntmps⟩
        | _ => none
      | _, _, _, _ => none
    | [] => none
  | _ => none

def digFnD (P : Program) (fn : Func) (SX : List Nat) (hs : List Hint) (m : Mode) : Option DFnD :=
  match fn.name == "runtime.NumGoroutine", fn.body with
  | false, some c => match digTop P fn.ntmps SX c hs, digRes P fn.results.toList with
    | some (dt, []), some rs => some ⟨dt, fn.ntmps, rs, m⟩
    | _, _ => none
  | _, _ => none

inductive DigsT (P : Program) (N : Nat) : DTop → Code → Prop
  | one {c x} : Digs P N x c → DigsT P N (.one x) c
  | seq {a b x y} : Digs P N x a → DigsT P N y b → DigsT P N (.seq x y) (.seq a b)
  | dfr {id ops ds ks o x f SX b y} : ops.toList = ops.toList.dropLast ++ [o] → isDefer o = some x → ds.length = ops.toList.dropLast.length →
      (∀ (k : Nat) d, ds[k]? = some d → (∃ o, ops[k]? = some o ∧ digOper P ops o = some d) ∧ ∀ n, d.dst = some n → n < N) → digOpd x = some f → Digs P N y b → clear SX y = true →
      DigsT P N (.dfr ds ks f SX y) (.seq (.region id ops false) b)

section
variable {P : Program} {W0 : World} {ρ0 : Rho} {F0 : Nat → Prop} {h0 : Hp} {w0 : World} {Γ : Gam} {N : Nat}

theorem heldOk_spec {SX : List Nat} : ∀ {ts : List Tok}, heldOk SX ts = true → ∀ t ∈ ts, Held SX t
  | [], _, t, ht => by cases ht
  | u :: ts, h, t, ht => by
    simp only [heldOk, Bool.and_eq_true] at h
    rcases List.mem_cons.1 ht with rfl | ht
    · match t, h.1 with
      | 0 :: l, _ => exact .inl rfl
      | (n + 1) :: l, hh =>
        obtain ⟨m, hm, hb⟩ := List.any_eq_true.1 hh
        exact .inr ⟨n, by rwa [Nat.eq_of_beq_eq_true hb], rfl⟩
    · exact heldOk_spec h.2 t ht

theorem upon_mono {o : Oper} {a : Act} {K K' : Act → World → Prop} {Q Q' : Exit → Act → World → Prop} (hK : ∀ a w, K a w → K' a w) (hQ : ∀ c a w, Q (.panic c) a w → Q' (.panic c) a w) (hL : LetsOut Q → LetsOut Q')
    {r : Result Next} (h : o.upon P a K Q r) : o.upon P a K' Q' r := by
  cases r with
  | halt x w =>
    cases x <;> simp only [Oper.upon] at h ⊢
    exact hQ _ _ _ h
  | ok n w =>
    cases n <;> simp only [Oper.upon] at h ⊢
    · exact hK _ _ h
    · exact hK _ _ h
    · refine Calls.mono h fun e w' he => ?_
      cases e with
      | returned v => exact hK _ _ he
      | panicked c => exact hQ _ _ _ he
      | outgrown => exact hL he
    · exact hK _ _ h
    · exact Rows.mono h fun v w' he => hK _ _ he

theorem wpOp_mono2 {ops : Array Oper} {i : Nat} {a : Act} {w : World} {K K' : Act → World → Prop} {Q Q' : Exit → Act → World → Prop} (hK : ∀ a w, K a w → K' a w) (hQ : ∀ c a w, Q (.panic c) a w → Q' (.panic c) a w) (hL : LetsOut Q → LetsOut Q')
    (h : wpOp P ops Q i K a w) : wpOp P ops Q' i K' a w := by
  unfold wpOp at *
  split
  · rename_i ho
    simp only [ho] at h
    exact hK _ _ h
  · rename_i o ho
    simp only [ho] at h
    split
    · rename_i hw
      simp only [hw, if_true] at h
      exact h.imp (upon_mono hK hQ hL) fun ⟨h1, h2⟩ => ⟨h1, hL h2⟩
    · rename_i hw
      rw [if_neg hw] at h
      exact hK _ _ h

theorem wpOps_append {ops : Array Oper} {Q : Exit → Act → World → Prop} : ∀ {l1 l2 : List Nat} {a : Act} {w : World},
    wpOps P ops (Exit.then (wpOps P ops Q l2) Q) l1 a w → wpOps P ops Q (l1 ++ l2) a w
  | [], l2, a, w, h => by simpa [wpOps, Exit.then] using h
  | i :: l1, l2, a, w, h => by
    rw [List.cons_append, wpOps_cons]
    rw [wpOps_cons] at h
    exact wpOp_mono2 (fun a w h => wpOps_append h) (fun _ _ _ h => h) (fun ⟨a, w, h⟩ => ⟨a, w, h⟩) h

/-- Where nothing asks for a panic, the callers' frames stay. -/
theorem wpOpsS_of {ops : Array Oper} {Q : Exit → Act → List Frame → World → Prop} {cs : List Frame} (hno : ∀ a w, ¬ Q .outgrown a cs w) : ∀ {l : List Nat} {a : Act} {w : World},
    wpOps P ops (fun e a w => Q e a cs w) l a w → wpOpsS P ops Q l a cs w
  | [], a, w, h => h
  | i :: l, a, w, h => by
    rw [wpOps_cons] at h
    unfold wpOp at h
    simp only [wpOpsS]
    split
    · rename_i ho
      simp only [ho] at h
      exact wpOpsS_of hno h
    · rename_i o ho
      simp only [ho] at h
      split
      · rename_i hw
        simp only [hw, if_true] at h
        rcases h with h | ⟨_, a, w, h⟩
        · unfold Oper.wp at h
          split
          · rename_i w' hr
            rw [hr] at h
            exact h.elim
          · exact upon_mono (fun a w h => wpOpsS_of hno h) (fun _ _ _ h => h) (fun h => h) h
        · exact (hno a w h).elim
      · rename_i hw
        rw [if_neg hw] at h
        exact wpOpsS_of hno h

theorem isDefer_spec {o : Oper} {x : Operand} (h : isDefer o = some x) : ∃ c : Call, o.op = .defer c ∧ c.callee = .value x ∧ c.args = #[] ∧ o.guard = none ∧ o.dst = none := by
  unfold isDefer at h
  split at h
  · rename_i c h1 h2 h3
    split at h
    · rename_i y h4 h5
      cases h
      exact ⟨c, h1, h4, by simpa using h5, h2, h3⟩
    · cases h
  · cases h

theorem isRecover_spec {o : Oper} {r : Nat} (h : isRecover o = some r) : ∃ c : Call, o.op = .call c ∧ c.callee = .builtin .recover ∧ c.args = #[] ∧ o.guard = none ∧ o.dst = some r := by
  unfold isRecover at h
  split at h
  · rename_i c h1 h2
    split at h
    · rename_i h4 h5
      exact ⟨c, h1, h4, by simpa using h5, h2, h⟩
    · cases h
  · cases h

/-- The operation that defers a closure. -/
theorem defer_wp {ops : Array Oper} {i : Nat} {o : Oper} (hi : ops[i]? = some o) {x : Operand} (hd : isDefer o = some x) {a : Act} {w : World} {f : FuncId} {cap : Array Value} (hx : a.eval x = .func (.func f) #[] cap)
    {K : Act → World → Prop} {Q : Exit → Act → World → Prop} (hK : K { a with defers := { target := .fn (.func f) cap, args := #[] } :: a.defers } w) : wpOp P ops Q i K a w := by
  obtain ⟨c, h1, h2, h3, h4, h5⟩ := isDefer_spec hd
  unfold wpOp
  rw [hi]
  simp only [Region.wanted, h4, if_true]
  refine .inl ?_
  have : (execOp a.eval o).run P w = .ok (.defer { target := .fn (.func f) cap, args := #[] }) w := by
    obtain ⟨dst, op, type, pos, after, guard⟩ := o
    simp only at h1
    subst h1
    simp [execOp, resolve, h2, h3, hx, Deferred.ofValue]
  unfold Oper.wp
  rw [this, Oper.upon_defer, h5]
  exact hK

/-- The operation that asks for the panic. -/
theorem recover_run {o : Oper} {r : Nat} (hd : isRecover o = some r) (ρ : Operand → Value) (w : World) : (execOp ρ o).run P w = .ok .recover w := by
  obtain ⟨c, h1, h2, h3, h4, h5⟩ := isRecover_spec hd
  obtain ⟨dst, op, type, pos, after, guard⟩ := o
  simp only at h1
  subst h1
  simp [execOp, resolve, h2, h3, invoke, builtin]

theorem digTop_digs {SX : List Nat} : ∀ {c : Code} {hs hs' : List Hint} {dt : DTop}, digTop P N SX c hs = some (dt, hs') → DigsT P N dt c := by
  have plain : ∀ {c : Code} {hs hs' : List Hint} {dt : DTop}, (digCode P N c hs).map (fun p => (DTop.one p.1, p.2)) = some (dt, hs') → DigsT P N dt c := by
    intro c hs hs' dt h
    simp only [Option.map_eq_some_iff] at h
    obtain ⟨p, hp, he⟩ := h
    cases he
    exact .one (digCode_digs (hs' := p.2) (by rw [hp]))
  intro c
  induction c with
  | seq a b _ ihb =>
    intro hs hs' dt h
    have other : (match digCode P N a hs with
        | some (x, hs) => match digTop P N SX b hs with
          | some (y, hs) => some (DTop.seq x y, hs)
          | none => none
        | none => none) = some (dt, hs') → DigsT P N dt (.seq a b) := by
      intro h
      split at h
      · rename_i x hs1 h1
        split at h
        · rename_i y hs2 h2
          cases h
          exact .seq (digCode_digs h1) (ihb h2)
        · cases h
      · cases h
    cases a with
    | region id ops draw =>
      simp only [digTop] at h
      split at h
      · rename_i x hx
        split at h
        · rename_i ds f ks hs1 h1 h2 _
          split at h
          · rename_i y hs2 h3
            split at h
            · rename_i h4
              cases h
              simp only [Option.bind_eq_some_iff] at hx
              obtain ⟨o, ho, hox⟩ := hx
              obtain ⟨l1, l2⟩ := digOpers_spec h1
              have hcat : ops.toList = ops.toList.dropLast ++ [o] := by
                have hne : ops.toList ≠ [] := fun e => by rw [e] at ho; cases ho
                have hl := List.getLast?_eq_some_getLast hne
                rw [hl] at ho
                cases ho
                exact (List.dropLast_concat_getLast hne).symm
              refine .dfr hcat hox l1 (fun k d hd => ?_) h2 (digCode_digs h3) h4
              obtain ⟨⟨o', ho', hd'⟩, hb⟩ := l2 k d hd
              refine ⟨⟨o', ?_, hd'⟩, hb⟩
              have hk : k < ops.toList.dropLast.length := (List.getElem?_eq_some_iff.1 ho').1
              have : ops.toList[k]? = some o' := by rw [hcat, List.getElem?_append_left hk]; exact ho'
              simpa using this
            · cases h
          · cases h
        · cases h
      · exact other h
    | _ => simp only [digTop] at h; exact other h
  | _ => intro hs hs' dt h; simp only [digTop] at h; exact plain h

/-- How the top of a body lands. -/
def LandsD (P : Program) (W0 : World) (ρ0 : Rho) (F0 : Nat → Prop) (h0 : Hp) (w0 : World) (N : Nat) (r : CR) : Option (FuncId × List DV) → Exit → Act → World → Prop
  | none, e, a, w => Lands [] W0 ρ0 F0 h0 w0 [] N r e a w
  | some (n, cap), e, a, w => ∃ (vs : Array Value) (ρ1 : Rho) (F1 : Nat → Prop) (h1 : Hp) (w1 : World) (SX : List Nat), Good W0 (Held []) ρ0 F0 h0 w0 ρ1 F1 h1 w1 ∧ RepL ρ1 F1 h1 w1 cap vs.toList ∧ (∀ t ∈ toksL cap, Held SX t) ∧
      Lands SX W0 ρ1 F1 h1 w1 [{ target := .fn (.func n) vs, args := #[] }] N r e a w

theorem held_nil {t : Tok} (h : Held [] t) : isIn t = true := by
  rcases h with h | ⟨n, hn, _⟩
  · exact h
  · cases hn

theorem top_sound (hΓ : ∀ f sp, Γ f = some sp → FnOk P W0 f sp) (hmix : P.follows .mixedOrders = true) {fuel : Nat} {dt : DTop} {c : Code} (hd : DigsT P N dt c) :
    ∀ {g : EnvL} {h : Hl} {r : CR} {od : Option (FuncId × List DV)}, runTop P Γ fuel dt g h = some (r, od) → ∀ {ρ : Rho} {F : Nat → Prop} {a : Act} {w : World} {Q : Exit → Act → World → Prop}, At [] W0 ρ0 F0 h0 w0 [] N ρ F g.get h.get a w →
      (∀ e a' w', LandsD P W0 ρ0 F0 h0 w0 N r od e a' w' → Q e a' w') → c.wp P Q a w := by
  induction hd with
  | one h1 =>
    intro g h r od hr ρ F a w Q at_ hQ
    simp only [runTop, Option.map_eq_some_iff] at hr
    obtain ⟨r', hr, he⟩ := hr
    cases he
    exact code_sound hΓ hmix h1 clear_nil hr at_ hQ
  | seq h1 h2 ih =>
    intro g h r od hr ρ F a w Q at_ hQ
    simp only [runTop] at hr
    split at hr
    · rename_i g' h' hx
      refine wp_seq (code_sound hΓ hmix h1 clear_nil hx at_ fun e a' w' hl => ?_)
      obtain ⟨rfl, ρ', F', at'⟩ := hl
      exact ih hr at' hQ
    · rename_i r' hne hx
      cases hr
      refine wp_seq (code_sound hΓ hmix h1 clear_nil hx at_ fun e a' w' hl => ?_)
      cases r with
      | norm g' h' => exact (hne g' h' rfl).elim
      | exit id g' h' => have := hl.1; subst this; exact hQ _ _ _ hl
      | ret g' h' => have := hl.1; subst this; exact hQ _ _ _ hl
      | pnc d g' h' => obtain ⟨v, rfl, hh⟩ := hl; exact hQ _ _ _ ⟨v, rfl, hh⟩
    · cases hr
  | @dfr id ops ds ks o x f SX b y hcat hox hlen hops hf hb hcl =>
    intro g h r od hr ρ F a w Q at_ hQ
    have hsz : ops.size = ds.length + 1 := by
      have := congrArg List.length hcat
      simp only [Array.length_toList, List.length_append, List.length_cons, List.length_nil] at this
      omega
    have hlast : ops[ds.length]? = some o := by
      have : ops.toList[ds.length]? = some o := by rw [hcat, hlen]; simp
      simpa using this
    have hrange : List.range ops.size = List.range' (0 + 0) ds.length ++ [ds.length] := by
      rw [hsz, List.range_succ, List.range_eq_range']
    simp only [runTop] at hr
    refine wp_seq (wp_region ?_)
    rw [hrange]
    refine wpOps_append ?_
    split at hr
    · rename_i g' h' hs
      refine seq_sound (SX := []) hΓ (off := 0) (fun k d hk => by simpa using hops k d hk) (fun _ _ _ _ h => by cases h) (rest := ds) (i := 0) (by simp) hs at_ (fun g2 h2 e ρ' F' a' w' at' => ?_) (fun d g2 h2 e => by cases e)
      cases e
      simp only [Exit.then]
      split at hr
      · rename_i n cap hfn
        split at hr
        · rename_i r' hheld hrun
          cases hr
          have hv := opd_rep at'.inv.env hf
          rw [hfn] at hv
          simp only [RepV] at hv
          obtain ⟨u, v, hx, hu, hv⟩ := hv
          have hu' : u = #[] := by simp only [RepL] at hu; simpa using hu
          subst hu'
          refine defer_wp (Q := Exit.then (b.wp P Q) Q) hlast hox hx ?_
          simp only [wpOps, Exit.then]
          refine code_sound (SX := SX) (ρ0 := ρ') (F0 := F') (h0 := h'.get) (w0 := w') (D := [{ target := .fn (.func n) v, args := #[] }]) hΓ hmix hb hcl hrun (ρ := ρ') (F := F') ?_ (fun e a2 w2 hl => ?_)
          · have atk := at_weaken at' (g' := (g'.keep ks).get) fun n => EnvL.get_keep n
            exact ⟨⟨atk.inv.rel, atk.inv.env, atk.inv.size⟩, Good.refl atk.inv.rel, by simp [at'.dfs]⟩
          · exact hQ _ _ _ ⟨v, ρ', F', h'.get, w', SX, at'.good, hv, heldOk_spec hheld, hl⟩
        · cases hr
      · cases hr
    · rename_i v g' h' hs
      cases hr
      refine seq_sound (SX := []) hΓ (off := 0) (fun k d hk => by simpa using hops k d hk) (fun _ _ _ _ h => by cases h) (rest := ds) (i := 0) (by simp) hs at_ (fun g2 h2 e => by cases e) (fun d g2 h2 e ρ' F' x a' w' at' => ?_)
      cases e
      simp only [Exit.then]
      exact hQ _ _ _ ⟨x, rfl, ρ', F', at'⟩
    · cases hr

theorem digClo_spec {fn : Func} {hs : List Hint} {dc : DClo} (h : digClo P fn hs = some dc) : ∃ id ops b o, fn.body = some (.seq (.region id ops false) b) ∧ ops[0]? = some o ∧ isRecover o = some dc.rslot ∧
    (∀ (k : Nat) d, dc.ds[k]? = some d → (∃ o, ops[1 + k]? = some o ∧ digOper P ops o = some d) ∧ ∀ n, d.dst = some n → n < fn.ntmps) ∧ dc.ds.length + 1 = ops.size ∧ fn.results.toList = [] ∧ Digs P fn.ntmps dc.rest b ∧ dc.ntmps = fn.ntmps := by
  unfold digClo at h
  split at h
  · rename_i id ops b hb
    split at h
    · rename_i o os hops
      split at h
      · rename_i r ds ks hs1 h1 h2 h3
        split at h
        · rename_i y h4
          cases h
          obtain ⟨l1, l2⟩ := digOpers_spec h2
          refine ⟨id, ops, b, o, hb, ?_, h1, fun k d hd => ?_, ?_, h3, digCode_digs h4, rfl⟩
          · have : ops.toList[0]? = some o := by rw [hops]; rfl
            simpa using this
          · obtain ⟨⟨o', ho', hd'⟩, hn⟩ := l2 k d hd
            refine ⟨⟨o', ?_, hd'⟩, hn⟩
            have : ops.toList[1 + k]? = some o' := by rw [hops, Nat.add_comm]; simpa using ho'
            simpa using this
          · have := congrArg List.length hops
            simp only [Array.length_toList, List.length_cons] at this
            show ds.length + 1 = ops.size
            omega
        · cases h
      · cases h
    · cases h
  · cases h

theorem clo_ok (hΓ : ∀ f sp, Γ f = some sp → FnOk P W0 f sp) (hmix : P.follows .mixedOrders = true) {fuel : Nat} {f : FuncId} {fn : Func} (hfn : P.funcs[f]? = some fn) {hs : List Hint} {dc : DClo} (hdc : digClo P fn hs = some dc)
    {args : List DV} {rec : DV} {H H' : Hl} (hr : runClo P Γ fuel dc args rec H = some H') {ρ : Rho} {F : Nat → Prop} {w : World} {vs : Array Value} {x : Value} (rel : Rel W0 ρ F H.get w) (hv : RepL ρ F H.get w args vs.toList) (hx : RepV ρ F H.get w rec x)
    {u u' : FrameMode} (hu : ∀ (c₀ : Frame) cs, c₀.mode = u → recoverD (c₀ :: cs) = some (x, { c₀ with mode := u' } :: cs) ∨ (recoverD (c₀ :: cs) = none ∧ x = .nilIface ∧ u' = u)) :
    CallsD P f vs u w fun e u2 w' => (∃ y, e = .returned y) ∧ u2 = u' ∧ ∃ ρ' F', Rel W0 ρ' F' H'.get w' ∧ Ext ρ F H.get w ρ' F' H'.get w' ∧ Keep (fun t => isIn t = true) ρ F H.get w ρ' F' H'.get w' := by
  obtain ⟨id, ops, b, o, hb, ho, hrec, hops, hsz, hres, hdig, hnt⟩ := digClo_spec hdc
  have hlen : vs.size = args.length := by simpa using hv.length
  unfold runClo at hr
  split at hr
  · rename_i hble hblt _
    have hle : args.length ≤ dc.ntmps := Nat.le_of_ble_eq_true hble
    have hlt : dc.rslot < dc.ntmps := by rwa [Nat.blt_eq] at hblt
    refine callsD_of_wpS hfn hb fun c₀ cs hc => ?_
    -- the frames behind the first operation
    have hfr : ∃ cs', cs' = { c₀ with mode := u' } :: cs ∧ (recoverD (c₀ :: cs) = some (x, cs') ∨ (recoverD (c₀ :: cs) = none ∧ x = .nilIface ∧ cs' = c₀ :: cs)) := by
      refine ⟨_, rfl, ?_⟩
      rcases hu c₀ cs hc with h1 | ⟨h1, h2, h3⟩
      · exact .inl h1
      · refine .inr ⟨h1, h2, ?_⟩
        rw [h3, ← hc]
    obtain ⟨cs', hcs', hrc⟩ := hfr
    have hrange : List.range ops.size = 0 :: List.range' (1 + 0) dc.ds.length := by
      rw [← hsz, List.range_eq_range', List.range'_succ]
    generalize hQQ : bodyPostS P fn c₀ cs (fun e u2 w' => (∃ y, e = .returned y) ∧ u2 = u' ∧ ∃ ρ' F', Rel W0 ρ' F' H'.get w' ∧ Ext ρ F H.get w ρ' F' H'.get w' ∧ Keep (fun t => isIn t = true) ρ F H.get w ρ' F' H'.get w') = QQ
    have hno : ∀ a w, ¬ QQ .outgrown a cs' w := fun a w h => by
      rw [← hQQ] at h
      obtain ⟨_, ⟨y, hy⟩, _⟩ := h
      cases hy
    obtain ⟨c, _, _, _, hg, hdst⟩ := isRecover_spec hrec
    refine wpS_seq (wpS_region ?_)
    rw [hrange]
    have hput : ∀ P' : Act → List Frame → World → Prop, P' (Act.put { tmps := vs ++ Array.replicate (fn.ntmps - vs.size) undef, defers := [] } o.dst x) cs' w →
        (match (execOp (Act.eval { tmps := vs ++ Array.replicate (fn.ntmps - vs.size) undef, defers := [] }) o).run P w with
        | .ok .recover w' =>
          match recoverD (c₀ :: cs) with
          | some (v, cs') => P' (Act.put { tmps := vs ++ Array.replicate (fn.ntmps - vs.size) undef, defers := [] } o.dst v) cs' w'
          | none => P' (Act.put { tmps := vs ++ Array.replicate (fn.ntmps - vs.size) undef, defers := [] } o.dst .nilIface) (c₀ :: cs) w'
        | _ => False) := fun P' h => by
      rw [recover_run hrec]
      rcases hrc with h1 | ⟨h1, h2, h3⟩
      · simp only [h1]; exact h
      · simp only [h1]; rw [← h2, ← h3]; exact h
    simp only [wpOpsS, ho, Region.wanted, hg, if_true]
    have key : wpOpsS P ops (Exit.thenS (b.wpS P QQ) QQ) (List.range' (1 + 0) dc.ds.length) (Act.put { tmps := vs ++ Array.replicate (fn.ntmps - vs.size) undef, defers := [] } o.dst x) cs' w := by
      refine wpOpsS_of (Q := Exit.thenS (b.wpS P QQ) QQ) (fun a w h => hno a w h) ?_
      have at0 : At [] W0 ρ F H.get w [] fn.ntmps ρ F (EnvL.get (EnvL.put (ofArgs 0 args) (some dc.rslot) rec)) H.get (Act.put { tmps := vs ++ Array.replicate (fn.ntmps - vs.size) undef, defers := [] } o.dst x) w := by
        rw [EnvL.get_put, hdst]
        refine ⟨⟨rel, put_env (ofArgs_env hv _) hx (fun n hn => ?_), ?_⟩, Good.refl rel, by simp [Act.put]⟩
        · cases hn
          simp
          omega
        · rw [put_size]
          simp
          omega
      split at hr
      · rename_i g h hs
        refine seq_sound (SX := []) hΓ (off := 1) hops (fun _ _ _ _ h => by cases h) (rest := dc.ds) (i := 0) (by simp) hs at0 (fun g2 h2 e ρ' F' a' w' at' => ?_) (fun d g2 h2 e => by cases e)
        cases e
        simp only [Exit.thenS]
        have hend : ∀ {g1 : EnvL} {h1 : Hl}, cut [] h1 = some H' → ∀ {ρ1 F1 a1 w1}, At [] W0 ρ F H.get w [] fn.ntmps ρ1 F1 g1.get h1.get a1 w1 → ∀ e, e = .normal ∨ e = .ret → QQ e a1 cs' w1 := by
          intro g1 h1 hcut ρ1 F1 a1 w1 at1 e he
          obtain ⟨v, hv1, _⟩ := results_rep (P := P) (fn := fn) (ds := []) (g := g1) (hl := h1) (a := a1) (l := []) (by rw [hres]; rfl) rfl at1.inv.rel at1.inv.env
          have cg := cut_good hcut at1.inv.rel
          have g3 := (at1.good.weaken (T' := fun t => isIn t = true) fun t ht => .inl ht).trans (cg.weaken fun t ht => by rw [keptT_iff]; exact .inl ht)
          rw [← hQQ]
          rcases he with rfl | rfl
          · exact ⟨at1.dfs, u', hcs', v, hv1, ⟨v, rfl⟩, rfl, ρ1, F1, g3.rel, g3.ext, g3.keep⟩
          · exact ⟨at1.dfs, u', hcs', v, hv1, ⟨v, rfl⟩, rfl, ρ1, F1, g3.rel, g3.ext, g3.keep⟩
        refine wpS_of_wp ?_
        have atk := at_weaken at' (g' := (g.keep dc.ks).get) fun n => EnvL.get_keep n
        split at hr
        · rename_i g1 h1 hrun
          refine code_sound hΓ hmix hdig clear_nil hrun atk fun e a1 w1 hl => ?_
          obtain ⟨rfl, ρ1, F1, at1⟩ := hl
          exact hend hr at1 _ (.inl rfl)
        · rename_i g1 h1 hrun
          refine code_sound hΓ hmix hdig clear_nil hrun atk fun e a1 w1 hl => ?_
          obtain ⟨rfl, ρ1, F1, at1⟩ := hl
          exact hend hr at1 _ (.inr rfl)
        · cases hr
      · cases hr
    have hk := hput (fun a cs w => wpOpsS P ops (Exit.thenS (b.wpS P QQ) QQ) (List.range' (1 + 0) dc.ds.length) a cs w) key
    rw [recover_run hrec] at hk ⊢
    exact hk
  · cases hr

theorem callsD_mono {f : FuncId} {args : Array Value} {u : FrameMode} {w : World} {R R' : Ending → FrameMode → World → Prop} (h : CallsD P f args u w R) (hr : ∀ e u' w', R e u' w' → R' e u' w') : CallsD P f args u w R' :=
  fun c cs hc => let ⟨e, u', w', fr, h1, rest⟩ := h c cs hc; ⟨e, u', w', fr, hr _ _ _ h1, rest⟩

theorem allIn_spec : ∀ {l : Hl}, allIn l = true → ∀ u o, l.get u = some o → isIn u = true
  | [], _, u, o, h => by simp [Hl.get] at h
  | (t, x) :: l, ha, u, o, h => by
    simp only [allIn, Bool.and_eq_true] at ha
    simp only [Hl.get] at h
    split at h
    · rename_i e; subst e; exact ha.1
    · exact allIn_spec ha.2 u o h

theorem backNew_nil {τ : Tok → Tok} : ∀ {l : Hl}, allIn l = true → backNew τ l = []
  | [], _ => rfl
  | (t, x) :: l, ha => by
    simp only [allIn, Bool.and_eq_true] at ha
    simp only [backNew, ha.1, if_true]
    exact backNew_nil ha.2

/-- The table of closures. -/
def CloOk (P : Program) (clo : FuncId → Option DClo) : Prop := ∀ n dc, clo n = some dc → ∃ fn hs, P.funcs[n]? = some fn ∧ (fn.name == "runtime.NumGoroutine") = false ∧ digClo P fn hs = some dc

theorem defer_ok (hΓ : ∀ f sp, Γ f = some sp → FnOk P W0 f sp) (hmix : P.follows .mixedOrders = true) {fuel : Nat} {clo : FuncId → Option DClo} (hclo : CloOk P clo) {n : FuncId} {cap : List DV} {rec : DV} {h h' : Hl} (hr : runDefer P Γ fuel clo n cap rec h = some h')
    {ρ : Rho} {F : Nat → Prop} {w : World} {vs : Array Value} {x : Value} (rel : Rel W0 ρ F h.get w) (hv : RepL ρ F h.get w cap vs.toList) (hx : RepV ρ F h.get w rec x)
    {u u' : FrameMode} (hu : ∀ (c₀ : Frame) cs, c₀.mode = u → recoverD (c₀ :: cs) = some (x, { c₀ with mode := u' } :: cs) ∨ (recoverD (c₀ :: cs) = none ∧ x = .nilIface ∧ u' = u)) :
    (∀ w, (invoke (.fn (.func n) vs) #[]).run P w = .ok (.enter n vs) w) ∧ CallsD P n vs u w fun e u2 w' => (∃ y, e = .returned y) ∧ u2 = u' ∧ ∃ ρ' F', Good W0 (fun _ => True) ρ F h.get w ρ' F' h'.get w' := by
  unfold runDefer at hr
  split at hr
  · cases hr
  · rename_i dc hdc
    obtain ⟨fn, hs, hfn, hname, hdig⟩ := hclo n dc hdc
    refine ⟨fun w => ?_, ?_⟩
    · obtain ⟨id, ops, b, o, hb, _⟩ := digClo_spec hdig
      have hp : Sem.run P program w = .ok P w := rfl
      simp only [invoke, callFunc, Sem.run_bind, hp, Result.andThen_ok, hfn, hname, hb, Option.isNone_some, Bool.false_eq_true, if_false]
      simp
    · simp only at hr
      split at hr
      · rename_i h0 hc h0e
        simp only [Bool.and_eq_true] at hc
        split at hr
        · rename_i H2 hrun
          split at hr
          · rename_i l hok hl
            simp only [Bool.and_eq_true] at hok
            cases hr
            have hv2 : RepL ρ F h.get w (rec :: cap) (#[x] ++ vs).toList := by
              simp only [RepL]
              exact ⟨x, vs.toList, by simp, hx, hv⟩
            obtain ⟨ρc, relc, hvc, i1, i2, out⟩ := call_frame rel hc.1 hc.2 h0e hv2
            have hvc' : RepV ρc F h0.get w (ren (inName (reach h.get (rec :: cap))) rec) x ∧ RepL ρc F h0.get w (renL (inName (reach h.get (rec :: cap))) cap) vs.toList := by
              simp only [renL, RepL] at hvc
              obtain ⟨y, ys, he, h1, h2⟩ := hvc
              simp at he
              obtain ⟨rfl, rfl⟩ := he
              exact ⟨h1, h2⟩
            refine callsD_mono (clo_ok hΓ hmix hfn hdig hrun relc hvc'.2 hvc'.1 hu) fun e u2 w2 ⟨h1, h2, ρ2, F2, r2, e2, k2⟩ => ⟨h1, h2, ?_⟩
            have no : ∀ u, isIn u = false → (H2.get u).isSome = true → False := fun u h1 h2 => by
              cases hg : H2.get u with
              | none => simp [hg] at h2
              | some o => have := allIn_spec hok.1 u o hg; rw [h1] at this; cases this
            obtain ⟨ρ3, good, _⟩ := out (d := 0) (T := fun _ => True) hl hok.2 (fun t _ u h1 h2 => (no u h1 h2).elim) (fun _ _ _ t _ u h1 h2 => (no u h1 h2).elim) (fun t _ u h1 h2 => (no u h1 h2).elim) r2 e2 k2
            rw [backNew_nil hok.1, List.append_nil, ← Hl.get_upd] at good
            exact ⟨ρ3, F2, good⟩
          · cases hr
        · cases hr
      · cases hr

theorem digFnD_spec {fn : Func} {SX : List Nat} {hs : List Hint} {m : Mode} {df : DFnD} (hd : digFnD P fn SX hs m = some df) : ∃ c, fn.body = some c ∧ (fn.name == "runtime.NumGoroutine") = false ∧ DigsT P df.ntmps df.top c ∧ df.ntmps = fn.ntmps ∧ digRes P fn.results.toList = some df.res ∧ df.mode = m := by
  unfold digFnD at hd
  split at hd
  · rename_i c hn hb
    split at hd
    · rename_i dc rs h1 h2
      cases hd
      exact ⟨c, hb, hn, digTop_digs h1, rfl, h2, rfl⟩
    · cases hd
  · cases hd

theorem fnD_at (hΓ : ∀ f sp, Γ f = some sp → FnOk P W0 f sp) (hmix : P.follows .mixedOrders = true) {clo : FuncId → Option DClo} (hclo : CloOk P clo) {f : FuncId} {fn : Func} (hfn : P.funcs[f]? = some fn) {SX : List Nat} {hs : List Hint} {m : Mode} {df : DFnD} (hd : digFnD P fn SX hs m = some df)
    {fuel : Nat} {args : List DV} {H : Hl} {q : Out × Hl} (hr : runFnD P Γ fuel clo df args H = some q) : FnAt P W0 f m.isPure args H q := by
  obtain ⟨c, hb, _, hdig, hnt, hres, hm⟩ := digFnD_spec hd
  intro hpure ρ F w vs rel hrep _ _
  have hlen : vs.size = args.length := by simpa using hrep.length
  simp only [runFnD] at hr
  split at hr
  · cases hr
  · rename_i hble
    have hle : args.length ≤ df.ntmps := Nat.le_of_ble_eq_true hble
    refine calls_of_wp_defers hfn hb ?_
    have at0 : At [] W0 ρ F (Hl.get H) w [] df.ntmps ρ F (ofArgs 0 args).get (Hl.get H) { tmps := vs ++ Array.replicate (fn.ntmps - vs.size) undef, defers := [] } w :=
      ⟨⟨rel, ofArgs_env hrep _, by simp; omega⟩, Good.refl rel, rfl⟩
    obtain ⟨out', H'⟩ := q
    have hfin : ∀ {out : Out} {hl : Hl} {ρ1 F1 w1}, finish df.mode out hl = some (out', H') → Good W0 (fun t => isIn t = true) ρ F H.get w ρ1 F1 hl.get w1 → ∀ {v}, RepV ρ1 F1 hl.get w1 out.dv v →
        ∃ ρ' F', Rel W0 ρ' F' (Hl.get H') w1 ∧ Ext ρ F (Hl.get H) w ρ' F' (Hl.get H') w1 ∧ Keep (fun t => isIn t = true) ρ F (Hl.get H) w ρ' F' (Hl.get H') w1 ∧ RepOut ρ' F' (Hl.get H') w1 out' (endsWith out v) := by
      intro out hl ρ1 F1 w1 hf gd v hv
      exact finish_ok hf (fun hp => hpure (by rw [← hm]; exact hp)) gd hv
    have hend : ∀ {g : EnvL} {hl : Hl}, (match runRes g hl df.res with
        | some l => finish df.mode (.ret (tupOf l)) hl
        | none => none) = some (out', H') → ∀ {ρ1 F1 w1} {a1 : Act}, Good W0 (fun t => isIn t = true) ρ F H.get w ρ1 F1 hl.get w1 → RepEnv ρ1 F1 hl.get w1 g.get a1 →
        ∃ v, (results fn a1.tmps).run P w1 = .ok v w1 ∧ ∃ ρ' F', Rel W0 ρ' F' (Hl.get H') w1 ∧ Ext ρ F (Hl.get H) w ρ' F' (Hl.get H') w1 ∧ Keep (fun t => isIn t = true) ρ F (Hl.get H) w ρ' F' (Hl.get H') w1 ∧ RepOut ρ' F' (Hl.get H') w1 out' (.returned v) := by
      intro g hl hf ρ1 F1 w1 a1 gd henv
      split at hf
      · rename_i l hl1
        obtain ⟨v, h1, h2⟩ := results_rep hres hl1 gd.rel henv
        exact ⟨v, h1, hfin hf gd h2⟩
      · cases hf
    -- with a closure to come
    have hdef : ∀ {g : EnvL} {hl : Hl} {n : FuncId} {cap : List DV} {rec : DV}, (match runDefer P Γ fuel clo n cap rec hl with
        | some h' => match runRes g h' df.res with
          | some l => finish df.mode (.ret (tupOf l)) h'
          | none => none
        | none => none) = some (out', H') → ∀ {ρ2 F2 w2} {a2 : Act} {vs' : Array Value} {x : Value} {u u' : FrameMode}, Good W0 (fun t => isIn t = true) ρ F H.get w ρ2 F2 hl.get w2 → RepEnv ρ2 F2 hl.get w2 g.get a2 → RepL ρ2 F2 hl.get w2 cap vs'.toList → RepV ρ2 F2 hl.get w2 rec x →
        a2.defers = [{ target := .fn (.func n) vs', args := #[] }] → u ≠ .run → (∀ (c₀ : Frame) cs, c₀.mode = u → recoverD (c₀ :: cs) = some (x, { c₀ with mode := u' } :: cs) ∨ (recoverD (c₀ :: cs) = none ∧ x = .nilIface ∧ u' = u)) → settle u' = .returning →
        Leaves P fn a2.tmps (fun e w' => ∃ ρ' F', Rel W0 ρ' F' (Hl.get H') w' ∧ Ext ρ F (Hl.get H) w ρ' F' (Hl.get H') w' ∧ Keep (fun t => isIn t = true) ρ F (Hl.get H) w ρ' F' (Hl.get H') w' ∧ RepOut ρ' F' (Hl.get H') w' out' e) a2.defers u w2 := by
      intro g hl n cap rec hf ρ2 F2 w2 a2 vs' x u u' gd henv hcap hx hdfs hrun hu hset
      split at hf
      · rename_i h' hdr
        obtain ⟨hinv, hcall⟩ := defer_ok hΓ hmix hclo hdr gd.rel hcap hx hu
        rw [hdfs]
        refine ⟨hrun, .func n, vs', n, vs', rfl, hinv w2, callsD_mono hcall fun e u2 w3 ⟨⟨y, hy⟩, h2, ρ3, F3, g3⟩ => ?_⟩
        subst hy
        subst h2
        simp only
        rw [hset]
        exact hend hf (gd.trans (g3.weaken fun _ _ => trivial)) (fun n => RepV.keep g3.keep _ _ (fun _ _ => trivial) (henv n))
      · cases hf
    have weak : ∀ {SX : List Nat} {ρ1 F1 h1 w1 ρ2 F2 h2 w2}, Good W0 (Held SX) ρ1 F1 h1 w1 ρ2 F2 h2 w2 → Good W0 (fun t => isIn t = true) ρ1 F1 h1 w1 ρ2 F2 h2 w2 := fun gd => gd.weaken fun t ht => .inl ht
    have hret : ∀ (c₀ : Frame) cs, c₀.mode = FrameMode.returning → recoverD (c₀ :: cs) = some (Value.nilIface, { c₀ with mode := FrameMode.returning } :: cs) ∨ (recoverD (c₀ :: cs) = none ∧ Value.nilIface = .nilIface ∧ FrameMode.returning = .returning) := fun c₀ cs hc => .inr ⟨by simp [recoverD, hc], rfl, rfl⟩
    have hnil : ∀ {ρ F h w}, RepV ρ F h w (.sc .nilIface) .nilIface := by intro ρ F h w; simp [RepV, plain]
    split at hr
    · rename_i g hl hrun
      refine top_sound hΓ hmix hdig hrun at0 fun e a' w' hl' => ?_
      obtain ⟨rfl, ρ1, F1, at1⟩ := hl'
      simp only [bodyPostD, at1.dfs]
      exact hend hr (weak at1.good) at1.inv.env
    · rename_i g hl hrun
      refine top_sound hΓ hmix hdig hrun at0 fun e a' w' hl' => ?_
      obtain ⟨rfl, ρ1, F1, at1⟩ := hl'
      simp only [bodyPostD, at1.dfs]
      exact hend hr (weak at1.good) at1.inv.env
    · rename_i d _ hl hrun
      refine top_sound hΓ hmix hdig hrun at0 fun e a' w' hl' => ?_
      obtain ⟨v, rfl, ρ1, F1, at1⟩ := hl'
      simp only [bodyPostD, at1.dfs]
      exact hfin (out := .pnc d) hr (weak at1.good) at1.rep
    · rename_i g hl n cap hrun
      refine top_sound hΓ hmix hdig hrun at0 fun e a' w' hl' => ?_
      obtain ⟨vs', ρ1, F1, h1, w1, SX, g1, hcap, hheld, rfl, ρ2, F2, at2⟩ := hl'
      simp only [bodyPostD]
      exact hdef hr ((weak g1).trans (weak at2.good)) at2.inv.env (RepL.keep at2.good.keep _ _ hheld hcap) hnil at2.dfs (by simp) hret rfl
    · rename_i g hl n cap hrun
      refine top_sound hΓ hmix hdig hrun at0 fun e a' w' hl' => ?_
      obtain ⟨vs', ρ1, F1, h1, w1, SX, g1, hcap, hheld, rfl, ρ2, F2, at2⟩ := hl'
      simp only [bodyPostD]
      exact hdef hr ((weak g1).trans (weak at2.good)) at2.inv.env (RepL.keep at2.good.keep _ _ hheld hcap) hnil at2.dfs (by simp) hret rfl
    · rename_i d g hl n cap hrun
      refine top_sound hΓ hmix hdig hrun at0 fun e a' w' hl' => ?_
      obtain ⟨vs', ρ1, F1, h1, w1, SX, g1, hcap, hheld, v, rfl, ρ2, F2, at2⟩ := hl'
      simp only [bodyPostD]
      refine hdef hr ((weak g1).trans (weak at2.good)) at2.env (RepL.keep at2.good.keep _ _ hheld hcap) at2.rep at2.dfs (by simp) (u' := .panicking [{ v, recovered := true }]) (fun c₀ cs hc => .inl (by simp [recoverD, hc])) rfl
    · cases hr

theorem fnD_ok {f : FuncId} {fn : Func} (hfn : P.funcs[f]? = some fn) {SX : List Nat} {hs : List Hint} {m : Mode} {df : DFnD} (hd : digFnD P fn SX hs m = some df) {sp : FSpec} (hp : sp.pure = m.isPure)
    (hat : ∀ args H q, sp.run args H = some q → FnAt P W0 f m.isPure args H q) : FnOk P W0 f sp := by
  obtain ⟨c, hb, hname, _, _, _, _⟩ := digFnD_spec hd
  refine ⟨fun args w => ?_, fun args H out H' hq hpure ρ F w vs rel hrep h1 h2 => hat args H (out, H') hq (fun h => hpure (by rw [hp]; exact h)) ρ F w vs rel hrep h1 h2⟩
  have hp : Sem.run P program w = .ok P w := rfl
  simp only [callFunc, Sem.run_bind, hp, Result.andThen_ok, hfn, hname, hb, Option.isNone_some, Bool.false_eq_true, if_false]
  rfl
end
end Go.Di
