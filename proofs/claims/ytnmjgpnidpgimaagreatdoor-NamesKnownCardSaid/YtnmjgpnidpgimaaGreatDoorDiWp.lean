/- One operation: what it comes to over data is what the machine does. -/
import Derived.Test.YtnmjgpnidpgimaaGreatDoorDiX
namespace Go.Di
open Go.RowKit
set_option linter.unusedSectionVars false
set_option linter.unusedSimpArgs false
set_option linter.unusedVariables false

section
variable {P : Program} {W0 : World} {T : Tok → Prop} {ρ : Rho} {F : Nat → Prop} {h : Hp} {w : World} {Γ : Gam}

theorem storeEff_out {n : Nat} {a x : DV} {e : Eff} (he : storeEff h n a x = some e) : e.out = .ret .any := by
  unfold storeEff at he
  split at he
  · split at he
    · split at he
      · cases he; rfl
      · cases he
    · cases he
  · split at he
    · split at he
      · split at he
        · cases he; rfl
        · cases he
      · cases he
    · cases he
  · cases he

theorem op_wp (hΓ : ∀ f sp, Γ f = some sp → FnOk P W0 f sp) {o : Oper} {dop : DOp} (hd : digOp P o.op = some dop) {g : Env} {a : Act} {e : Eff} (he : opEff P Γ o.dst (getOpd g) h dop = some e) (r : Rel W0 ρ F h w) (hg : RepEnv ρ F h w g a)
    (hT : ∀ n, ∀ t ∈ toks (g n), T t) (hfr : ∀ t ∈ made o.dst (getOpd g) dop e, FreshTok t g h ∧ ∀ u, T u → u ≠ t)
    {next : Act → World → Prop} {Q : Exit → Act → World → Prop}
    (hret : ∀ d v w' ρ' F', e.out = .ret d → Good W0 T ρ F h w ρ' F' (e.upds.app h) w' → RepV ρ' F' (e.upds.app h) w' d v → next (a.put o.dst v) w')
    (hpnc : ∀ d v w' ρ' F', e.out = .pnc d → Good W0 T ρ F h w ρ' F' (e.upds.app h) w' → RepV ρ' F' (e.upds.app h) w' d v → Q (.panic [{ v, recovered := false }]) a w') : o.wp P a w next Q := by
  have ev := fun {x d} (hx : digOpd x = some d) => opd_rep hg hx
  obtain ⟨dst, op, type, pos, after, guard⟩ := o
  simp only at *
  have callW : ∀ {f : FuncId} {args : List DV} {vs : Array Value}, callEff Γ dst h f args = some e → RepL ρ F h w args vs.toList → (made dst (getOpd g) dop e = newIn e.reads e.upds) →
      ((∀ (args : Array Value) (w : World), (callFunc f args).run P w = .ok (.enter f args) w) → (execOp a.eval ⟨dst, op, type, pos, after, guard⟩).run P w = .ok (.enter f vs) w) → Oper.wp P ⟨dst, op, type, pos, after, guard⟩ a w next Q := fun hce hv hcr hex => by
    obtain ⟨c1, c2⟩ := call_ok (T := T) hΓ r hce hv (fun t ht => by
      obtain ⟨f1, f2⟩ := hfr t (by rw [hcr]; exact ht)
      exact ⟨f2, f1.obj⟩)
    exact wp_of_call (hex c2) c1 hret hpnc
  cases hX : digX P op with
  | some p =>
    obtain ⟨k, ds⟩ := p
    simp only [digOp, hX, Option.some.injEq] at hd
    subst hd
    exact x_wp (T := T) (o := ⟨dst, op, type, pos, after, guard⟩) hX (by simpa only [opEff] using he) r hg (fun t ht => hfr t ht) hret
  | none =>
  replace hd : digOp0 P op = some dop := by simpa only [digOp, hX] using hd
  clear hX
  cases op with
  | move x =>
    simp only [digOp0, Option.map_eq_some_iff] at hd
    obtain ⟨d, hx, rfl⟩ := hd
    simp only [opEff, Option.some.injEq] at he; subst he
    exact wp_of_ok (T := T) (s := pure (a.eval x)) rfl (OpOk.val r rfl (ev hx)) hret
  | assign x =>
    simp only [digOp0, Option.map_eq_some_iff] at hd
    obtain ⟨d, hx, rfl⟩ := hd
    simp only [opEff, Option.some.injEq] at he; subst he
    exact wp_of_ok (T := T) (s := pure (a.eval x)) rfl (OpOk.val r rfl (ev hx)) hret
  | pick c x y =>
    simp only [digOp0] at hd
    split at hd
    · rename_i dc dx dy h1 h2 h3
      cases hd
      simp only [opEff] at he
      have go : ∀ b : Bool, getOpd g dc = .sc (.bool b) → e = .val (if b then getOpd g dx else getOpd g dy) → Oper.wp P ⟨dst, .pick c x y, type, pos, after, guard⟩ a w next Q := fun b hb hee => by
        subst hee
        have hc := ev h1
        rw [hb] at hc
        obtain ⟨p1, p2⟩ := ok_pick (P := P) r hc (ev h2) (ev h3)
        refine wp_of_ok (T := T) (s := do pure (if ← asBool (a.eval c) then a.eval x else a.eval y)) ?_ (OpOk.val r ?_ p2) hret
        · simp only [execOp, bind_assoc, pure_bind]
        · simp only [Sem.run_bind, p1, Result.andThen_ok, Sem.run_pure]
      split at he
      · rename_i hb; cases he; exact go true hb rfl
      · rename_i hb; cases he; exact go false hb rfl
      · cases he
    · cases hd
  | alloc t =>
    simp only [digOp0, Option.map_eq_some_iff] at hd
    obtain ⟨z, hz, rfl⟩ := hd
    simp only [opEff, Option.map_eq_some_iff] at he
    obtain ⟨tk, htk, rfl⟩ := he
    cases dst with
    | none => simp [nameOf] at htk
    | some d =>
      obtain ⟨f1, f2⟩ := hfr [d + 1] (by simp [made, mk, creates, nameOf])
      exact wp_of_ok (T := T) (s := Instr.alloc t true (.tuple #[])) rfl (ok_alloc r hz (fresh_of f1 f2 tk htk)) hret
  | box t x =>
    simp only [digOp0, Option.map_eq_some_iff] at hd
    obtain ⟨dx, hx, rfl⟩ := hd
    simp only [opEff] at he
    split at he
    · rename_i hs
      simp only [Option.map_eq_some_iff] at he
      obtain ⟨tk, htk, rfl⟩ := he
      cases dst with
      | none => simp [nameOf] at htk
      | some d =>
        obtain ⟨f1, f2⟩ := hfr [d + 1] (by simp [made, mk, creates, nameOf])
        exact wp_of_ok (T := T) (s := Instr.box t (a.eval x)) rfl (ok_box r hs (ev hx) (opd_toks hx hT) (fresh_of f1 f2 tk htk)) hret
    · cases he
  | build t ps =>
    simp only [digOp0] at hd
    split at hd
    · rename_i z place hz hp
      simp only [Option.map_eq_some_iff] at hd
      obtain ⟨ds, hds, rfl⟩ := hd
      simp only [opEff, Option.map_eq_some_iff] at he
      obtain ⟨cs, hcs, rfl⟩ := he
      obtain ⟨p1, p2⟩ := parts_rep hg hds
      refine wp_of_ok (T := T) (s := Instr.build t (ps.map fun (i, x) => (i, a.eval x))) rfl (ok_build r hz hp hcs (by simpa using p1) fun i off n x j v q1 q2 => p2 i off n x j v q1 ?_) hret
      simpa using q2
    · cases hd
  | buildSlice t n ps =>
    simp only [digOp0] at hd
    split at hd
    · rename_i el hu
      split at hd
      · rename_i sz z ds h1 h2 h3
        split at hd
        · rename_i hc
          cases hd
          simp only [opEff] at he
          split at he
          · rename_i tk xs ts htk hsp
            cases he
            obtain ⟨p1, p2⟩ := elems_rep hg h3
            cases dst with
            | none => simp [nameOf] at htk
            | some d =>
              obtain ⟨f1, f2⟩ := hfr [d + 1] (by simp [made, mk, creates, nameOf])
              refine wp_of_ok (T := T) (s := Instr.buildSlice t n (ps.map fun (i, x) => (i, a.eval x))) rfl
                (ok_bslice r hu h1 hc.1 hc.2.1 h2 hc.2.2 hsp (by simpa using p1) (fun i m x j v q1 q2 => p2 i m x j v q1 (by simpa using q2)) (fresh_of f1 f2 tk htk)) hret
          · cases he
        · cases hd
      · cases hd
    · cases hd
  | load t x =>
    simp only [digOp0] at hd
    split at hd
    · rename_i k d h1 h2
      cases hd
      exact wp_of_ok (T := T) (s := Instr.loadAt t (a.eval x)) rfl (ok_load r h1 he (ev h2)) hret
    · cases hd
  | store t x y =>
    simp only [digOp0] at hd
    split at hd
    · rename_i n dx dy h1 h2 h3
      cases hd
      simp only [opEff] at he
      have hout := storeEff_out he
      have fin : ∀ {w' F'}, (Instr.storeAt t (a.eval x) (a.eval y)).run P w = .ok () w' → Good W0 T ρ F h w ρ F' (e.upds.app h) w' → Oper.wp P ⟨dst, .store t x y, type, pos, after, guard⟩ a w next Q := fun hrun hgd => by
        unfold Oper.wp
        simp only [execOp, Sem.run_bind, hrun, Result.andThen_ok, Sem.run_pure, Oper.upon_skip]
        exact hret .any undef _ _ _ hout hgd (by simp [RepV])
      have hx := ev h2
      have hy := ev h3
      unfold storeEff at he
      split at he
      · rename_i tk off hdx
        rw [hdx] at hx
        split at he
        · rename_i ty cs hob
          split at he
          · rename_i hc
            cases he
            obtain ⟨w', q1, q2⟩ := ok_store_ptr (T := T) (P := P) r h1 hob hc.1 hc.2.1 hc.2.2 hx hy
            exact fin q1 q2
          · cases he
        · cases he
      · rename_i sz tk m i q hdx
        rw [hdx] at hx
        split at he
        · rename_i ty sz' xs hob
          split at he
          · rename_i d' ts el hres hel
            split at he
            · rename_i hc
              obtain ⟨rfl, c2, c3, c4, c5, c6⟩ := hc
              cases he
              obtain ⟨w', F', q1, q2⟩ := ok_store_rptr (T := T) (P := P) r h1 hob hres hel c2 c3 c4 c5 (by simpa using c6) hx hy
              exact fin q1 q2
            · cases he
          · cases he
        · cases he
      · cases he
    · cases hd
  | nilCheck x =>
    simp only [digOp0, Option.map_eq_some_iff] at hd
    obtain ⟨dx, hx, rfl⟩ := hd
    have hv := ev hx
    simp only [opEff] at he
    have fin : ∀ {dv ts}, e = ⟨.ret dv, ts, []⟩ → RepV ρ F h w dv (a.eval x) → execOp a.eval ⟨dst, .nilCheck x, type, pos, after, guard⟩ = (do pure (Next.value (← (pure (a.eval x) : Sem Value)))) → Oper.wp P ⟨dst, .nilCheck x, type, pos, after, guard⟩ a w next Q := fun hee hvv hex => by
      subst hee
      exact wp_of_ok (T := T) (s := pure (a.eval x)) hex (OpOk.ret r rfl hvv) hret
    split at he
    · rename_i t o hdx
      rw [hdx] at hv
      split at he
      · rename_i hlive
        cases he
        refine fin rfl hv ?_
        simp only [RepV] at hv
        obtain ⟨b, _, e1⟩ := hv.2 hlive
        simp only [execOp, e1, pure_bind]
      · cases he
    · rename_i sz t n i rr hdx
      rw [hdx] at hv
      split at he
      · rename_i hlive
        cases he
        refine fin rfl hv ?_
        simp only [RepV] at hv
        obtain ⟨_, _, b, _, e1⟩ := (hv.2 n hlive).2 rfl
        simp only [execOp, e1, pure_bind]
      · cases he
    · rename_i cs hdx
      rw [hdx] at hv
      cases he
      refine fin rfl hv ?_
      simp only [RepV] at hv
      obtain ⟨b, off, e1, _⟩ := hv
      simp only [execOp, e1, pure_bind]
    · rename_i f a' b' hdx
      rw [hdx] at hv
      cases he
      refine fin rfl hv ?_
      simp only [RepV] at hv
      obtain ⟨u, v, e1, _⟩ := hv
      simp only [execOp, e1, pure_bind]
    · rename_i ty v' hdx
      rw [hdx] at hv
      cases he
      refine fin rfl hv ?_
      simp only [RepV] at hv
      obtain ⟨y, e1, _⟩ := hv
      simp only [execOp, e1, pure_bind]
    · cases he
  | binOp op t x y yt =>
    simp only [digOp0, digBin] at hd
    split at hd
    · rename_i dx dy h1 h2
      cases hd
      simp only [opEff, Option.map_eq_some_iff] at he
      obtain ⟨dv, hb, rfl⟩ := he
      have cst : ∀ {z : Operand} {dz : DOpd}, digOpd z = some dz → a.eval z = .nilIface → Region.isConst z = isNilC dz := fun {z dz} hz hzv => by
        cases z with
        | tmp t => simp only [digOpd, Option.some.injEq] at hz; subst hz; rfl
        | const v =>
          have : v = .nilIface := hzv
          subst this
          simp [digOpd, ofVal, plain] at hz
          subst hz; rfl
        | func f => simp [Act.eval] at hzv
        | global n => simp [digOpd] at hz
      exact wp_of_ok (T := T) (s := do eqGuard op t x y (a.eval x) (a.eval y); binOp op t (a.eval x) (a.eval y)) rfl (ok_bin r hb (ev h1) (ev h2) (cst h1) (cst h2)) hret
    · cases hd
  | unOp op t x =>
    simp only [digOp0, Option.map_eq_some_iff] at hd
    obtain ⟨dx, hx, rfl⟩ := hd
    simp only [opEff] at he
    split at he
    · rename_i av hav
      simp only [Option.bind_eq_some_iff] at he
      obtain ⟨v, hv, he⟩ := he
      split at he
      · rename_i hp
        cases he
        exact wp_of_ok (T := T) (s := Op.unary op (a.eval x)) rfl (ok_un r hav hv hp (ev hx)) hret
      · cases he
    · cases he
  | convert s t x =>
    simp only [digOp0] at hd
    split at hd
    · rename_i k0 k d h1 h2 h3
      cases hd
      simp only [opEff] at he
      split at he
      · rename_i j n hdx
        cases he
        have hv := ev h3
        rw [hdx] at hv
        exact wp_of_ok (T := T) (s := convert s t (a.eval x)) rfl (ok_cvt r h1 h2 hv) hret
      · cases he
    · rename_i d h1 h2 h3
      cases hd
      simp only [opEff] at he
      split at he
      · rename_i u hdx
        cases he
        have hv := ev h3
        rw [hdx] at hv
        exact wp_of_ok (T := T) (s := convert s t (a.eval x)) rfl (ok_cvtS r h1 h2 hv) hret
      · cases he
    · cases hd
  | makeInterface t x =>
    simp only [digOp0] at hd
    split at hd
    · rename_i hn
      simp only [Option.map_eq_some_iff] at hd
      obtain ⟨dx, hx, rfl⟩ := hd
      simp only [opEff, Option.some.injEq] at he; subst he
      obtain ⟨td, h1, h2⟩ := notIface_spec hn
      exact wp_of_ok (T := T) (s := Instr.makeInterface t (a.eval x)) rfl (ok_mkif r h1 h2 (ev hx)) hret
    · cases hd
  | makeFunc f fs cs =>
    simp only [digOp0] at hd
    split at hd
    · rename_i dfs dcs h1 h2
      cases hd
      simp only [opEff, Option.some.injEq] at he; subst he
      refine wp_of_ok (T := T) (s := Instr.makeFunc f (fs.map a.eval) (cs.map a.eval)) rfl (OpOk.val r rfl ?_) hret
      simp only [RepV]
      exact ⟨_, _, rfl, by simpa using opds_rep hg h1, by simpa using opds_rep hg h2⟩
    · cases hd
  | slice t x lo hi mx =>
    simp only [digOp0] at hd
    split at hd
    · rename_i dx dlo dhi h1 h2 h3 h4 h5
      cases hd
      simp only [opEff] at he
      split at he
      · rename_i s hs
        have hv := ev h2
        rw [hs] at hv
        have hmx : mx = none := by
          cases mx with
          | none => rfl
          | some m => simp [digOpt] at h5
        subst hmx
        exact wp_of_ok (T := T) (s := Instr.sliceAt t (a.eval x) (lo.map a.eval) (hi.map a.eval) none) rfl (ok_slcS r h1 he hv (opt_rep hg h3) (opt_rep hg h4)) hret
      · cases he
    · rename_i el dx dlo dhi dmx h1 h2 h3 h4 h5
      split at hd
      · rename_i sz hsz
        split at hd
        · rename_i hc
          cases hd
          simp only [opEff] at he
          refine wp_of_ok (T := T) (s := Instr.sliceAt t (a.eval x) (lo.map a.eval) (hi.map a.eval) (mx.map a.eval)) rfl (ok_slc r h1 hsz he (ev h2) (opt_rep hg h3) (opt_rep hg h4) (opt_rep hg h5) ?_) hret
          cases dmx <;> simp_all
        · cases hd
      · cases hd
    · cases hd
  | fieldAddr s x i =>
    simp only [digOp0] at hd
    split at hd
    · rename_i fs d h1 h2
      split at hd
      · rename_i f hf
        split at hd
        · rename_i hn
          cases hd
          simp only [opEff] at he
          obtain ⟨n, hn1, hn2⟩ := (Option.any_eq_true _ _).1 hn
          exact wp_of_ok (T := T) (s := Instr.fieldAt s (a.eval x) i) rfl (ok_faddr r h1 hf hn1 (by simpa using hn2) he (ev h2)) hret
        · cases hd
      · cases hd
    · cases hd
  | field s x i =>
    simp only [digOp0] at hd
    split at hd
    · rename_i fs d h1 h2
      split at hd
      · rename_i f hf
        simp only [Option.map_eq_some_iff] at hd
        obtain ⟨k, hk, rfl⟩ := hd
        simp only [opEff] at he
        split at he
        · rename_i cs hcs
          simp only [Option.map_eq_some_iff] at he
          obtain ⟨dv, hp, rfl⟩ := he
          have hv := ev h2
          rw [hcs] at hv
          exact wp_of_ok (T := T) (s := Instr.field s (a.eval x) i) rfl (ok_fld r h1 hf hk hv hp) hret
        · cases he
      · cases hd
    · cases hd
  | indexAddr t x i =>
    simp only [digOp0] at hd
    split at hd
    · rename_i el dx di h1 h2 h3
      simp only [Option.map_eq_some_iff] at hd
      obtain ⟨sz, hsz, rfl⟩ := hd
      simp only [opEff] at he
      split at he
      · rename_i sz' xs k n hx hi
        split at he
        · rename_i hs
          subst hs
          simp only [Option.map_eq_some_iff] at he
          obtain ⟨el', hel, rfl⟩ := he
          have hv := ev h2
          rw [hx] at hv
          exact wp_of_ok (T := T) (s := Instr.indexAt t (a.eval x) (a.eval i)) rfl (ok_iaddr_lst r h1 hsz hv hi (ev h3) hel) hret
        · cases he
      · rename_i sz' tk m off len n hx hi
        split at he
        · rename_i hc
          obtain ⟨rfl, c2, c3, c4⟩ := hc
          cases he
          have hv := ev h2
          rw [hx] at hv
          have hok := ok_iaddr_row (T := T) (P := P) r h1 hsz c3 hv hi (ev h3) c2 c4
          obtain ⟨d', v', w', ρ', F', q1, q2, q3, q4⟩ := hok
          exact wp_of_ok (T := T) (s := Instr.indexAt t (a.eval x) (a.eval i)) rfl ⟨d', v', w', ρ', F', q1, q2, q3, q4⟩ hret
        · cases he
      · cases he
    · cases hd
  | index t x i =>
    simp only [digOp0] at hd
    split at hd
    · rename_i dx di h1 h2 h3
      cases hd
      simp only [opEff] at he
      split at he
      · rename_i s n hx hi
        simp only [Option.map_eq_some_iff] at he
        obtain ⟨b, hb, rfl⟩ := he
        have hv := ev h2
        rw [hx] at hv
        exact wp_of_ok (T := T) (s := Instr.index t (a.eval x) (a.eval i)) rfl (ok_idxS r h1 hv hi (ev h3) hb) hret
      · cases he
    · cases hd
  | typeAssert x xt t ok =>
    simp only [digOp0] at hd
    split at hd
    · rename_i hn
      split at hd
      · rename_i z d h1 h2
        cases hd
        simp only [opEff, Option.map_eq_some_iff] at he
        obtain ⟨dv, hdv, rfl⟩ := he
        obtain ⟨td, h3, h4⟩ := notIface_spec hn
        exact wp_of_ok (T := T) (s := Instr.typeAssert (a.eval x) xt t ok) rfl (ok_tas r h3 h4 h1 hdv (ev h2)) hret
      · cases hd
    · cases hd
  | extract x i =>
    simp only [digOp0, Option.map_eq_some_iff] at hd
    obtain ⟨dx, hx, rfl⟩ := hd
    simp only [opEff] at he
    split at he
    · rename_i vs hvs
      simp only [Option.map_eq_some_iff] at he
      obtain ⟨dv, hdv, rfl⟩ := he
      have hv := ev hx
      rw [hvs] at hv
      exact wp_of_ok (T := T) (s := Instr.extract (a.eval x) i) rfl (ok_extr r hv hdv) hret
    · cases he
  | range t x =>
    simp only [digOp0] at hd
    split at hd
    · rename_i d h1 h2
      cases hd
      simp only [opEff] at he
      split at he
      · rename_i s tk hs htk
        cases he
        have hv := ev h2
        rw [hs] at hv
        cases dst with
        | none => simp [nameOf] at htk
        | some d =>
          obtain ⟨f1, f2⟩ := hfr [d + 1] (by simp [made, mk, creates, nameOf])
          exact wp_of_ok (T := T) (s := Instr.range t (a.eval x)) rfl (ok_rngS r h1 hv (fresh_of f1 f2 tk htk)) hret
      · cases he
    · cases hd
  | next x s =>
    cases s with
    | false => simp [digOp0] at hd
    | true =>
      simp only [digOp0, Option.map_eq_some_iff] at hd
      obtain ⟨dx, hx, rfl⟩ := hd
      simp only [opEff] at he
      split at he
      · rename_i tk htk
        split at he
        · rename_i s pos2 hob
          have hv := ev hx
          rw [htk] at hv
          have hok := ok_nxtS (T := T) (P := P) (ty := type) r hob hv
          refine wp_of_ok (T := T) (s := Instr.next (a.eval x) true type) rfl ?_ hret
          split at he
          · rename_i hlt; cases he; simpa [hlt] using hok
          · rename_i hlt; cases he; simpa [hlt] using hok
        · cases he
      · cases he
  | panic x =>
    simp only [digOp0, Option.map_eq_some_iff] at hd
    obtain ⟨dx, hx, rfl⟩ := hd
    simp only [opEff] at he
    split at he
    · rename_i ty v hdv
      cases he
      have hv := ev hx
      rw [hdv] at hv
      have hv2 := hv
      simp only [RepV] at hv
      obtain ⟨y, e1, _⟩ := hv
      unfold Oper.wp
      simp only [execOp, e1, Instr.panic, Sem.run_bind, run_goPanic, Result.andThen_halt, Oper.upon_panic]
      rw [← e1]
      exact hpnc _ _ _ ρ F rfl (Good.refl r) hv2
    · cases he
  | call c =>
    simp only [digOp0, digCall] at hd
    split at hd
    · rename_i f hcal
      simp only [Option.map_eq_some_iff] at hd
      obtain ⟨ds, hds, rfl⟩ := hd
      simp only [opEff] at he
      have hl : RepL ρ F h w (ds.map (getOpd g)) (c.args.map a.eval).toList := by simpa using opds_rep hg hds
      refine callW he hl rfl fun hen => ?_
      simp only [execOp, resolve, hcal, Act.eval, Deferred.ofValue, Sem.run_bind, Sem.run_pure, Result.andThen_ok, invoke, hen]
      simp
    · rename_i x hnf hcal
      split at hd
      · rename_i dx ds h1 h2
        cases hd
        simp only [opEff] at he
        split at he
        · rename_i n cap hfn
          have hv := ev h1
          rw [hfn] at hv
          simp only [RepV, RepL] at hv
          obtain ⟨u, v, e1, e2, e3⟩ := hv
          have hu : u = #[] := by simpa using e2
          subst hu
          have hl : RepL ρ F h w (ds.map (getOpd g) ++ cap) (c.args.map a.eval ++ v).toList := by
            rw [Array.toList_append]
            exact RepL.append (by simpa using opds_rep hg h2) e3
          refine callW he hl rfl fun hen => ?_
          simp only [execOp, resolve, hcal, e1, Deferred.ofValue, Sem.run_bind, Sem.run_pure, Result.andThen_ok, invoke, hen]
          simp
        · cases he
      · cases hd
    · rename_i hcal
      split at hd
      · rename_i x y t xt hargs htys
        split at hd
        · rename_i el el' dx dy h1 h2 h3 h4
          split at hd
          · rename_i sz hsz
            split at hd
            · rename_i happ
              cases hd
              simp only [opEff] at he
              have hca : c.args = #[x, y] := by rw [← Array.toList_inj]; simpa using hargs
              have hct : c.argTypes = #[t, xt] := by rw [← Array.toList_inj]; simpa using htys
              have hok := ok_app (T := T) (P := P) (ty := type) r happ ⟨_, h2⟩ he (ev h3) (ev h4) (fun hrow tk htk => by
                cases dst with
                | none => simp [nameOf] at htk
                | some d => obtain ⟨f1, f2⟩ := hfr [d + 1] (by simp [made, mk, hrow, nameOf]); exact fresh_of f1 f2 tk htk)
              refine wp_of_ok (T := T) (s := Builtin.append_ #[t, xt] type #[a.eval x, a.eval y]) ?_ hok hret
              simp only [execOp, resolve, hcal, hca, hct, pure_bind, invoke, builtin]
              simp
            · cases hd
          · cases hd
        · cases hd
      · cases hd
    · rename_i hcal
      split at hd
      · rename_i x t hargs htys
        have hca : c.args = #[x] := by rw [← Array.toList_inj]; simpa using hargs
        have hct : c.argTypes = #[t] := by rw [← Array.toList_inj]; simpa using htys
        split at hd
        · rename_i d h1 h2
          cases hd
          simp only [opEff, Option.map_eq_some_iff] at he
          obtain ⟨dv, hdv, rfl⟩ := he
          refine wp_of_ok (T := T) (s := Builtin.len_ #[t] type #[a.eval x]) ?_ (ok_len r hdv (ev h2) (fun _ => h1) (fun e0 => by cases e0)) hret
          simp only [execOp, resolve, hcal, hca, hct, pure_bind, invoke, builtin]
          simp
        · rename_i el d h1 h2
          cases hd
          simp only [opEff, Option.map_eq_some_iff] at he
          obtain ⟨dv, hdv, rfl⟩ := he
          refine wp_of_ok (T := T) (s := Builtin.len_ #[t] type #[a.eval x]) ?_ (ok_len r hdv (ev h2) (fun e0 => by cases e0) (fun _ => ⟨_, h1⟩)) hret
          simp only [execOp, resolve, hcal, hca, hct, pure_bind, invoke, builtin]
          simp
        · cases hd
      · cases hd
    · rename_i hcal
      split at hd
      · rename_i x y hargs
        have hca : c.args = #[x, y] := by rw [← Array.toList_inj]; simpa using hargs
        split at hd
        · rename_i da db h1 h2
          cases hd
          simp only [opEff] at he
          split at he
          · rename_i k i k' j e1 e2
            cases he
            have hv1 := ev h1; have hv2 := ev h2
            rw [e1] at hv1; rw [e2] at hv2
            refine wp_of_ok (T := T) (s := Builtin.max_ c.argTypes type #[a.eval x, a.eval y]) ?_ (by simpa using ok_mxmn (T := T) (mx := true) (ts := c.argTypes) (ty := type) r hv1 hv2) hret
            simp only [execOp, resolve, hcal, hca, pure_bind, invoke, builtin]
            simp
          · cases he
        · cases hd
      · cases hd
    · rename_i hcal
      split at hd
      · rename_i x y hargs
        have hca : c.args = #[x, y] := by rw [← Array.toList_inj]; simpa using hargs
        split at hd
        · rename_i da db h1 h2
          cases hd
          simp only [opEff] at he
          split at he
          · rename_i k i k' j e1 e2
            cases he
            have hv1 := ev h1; have hv2 := ev h2
            rw [e1] at hv1; rw [e2] at hv2
            refine wp_of_ok (T := T) (s := Builtin.min_ c.argTypes type #[a.eval x, a.eval y]) ?_ (by simpa using ok_mxmn (T := T) (mx := false) (ts := c.argTypes) (ty := type) r hv1 hv2) hret
            simp only [execOp, resolve, hcal, hca, pure_bind, invoke, builtin]
            simp
          · cases he
        · cases hd
      · cases hd
    · cases hd
  | _ => simp [digOp0] at hd
end
end Go.Di
