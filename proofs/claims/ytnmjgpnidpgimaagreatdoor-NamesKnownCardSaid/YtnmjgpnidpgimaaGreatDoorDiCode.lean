/- Code: what is run, what it was digested from, and that it is so. -/
import Derived.Test.YtnmjgpnidpgimaaGreatDoorDiDraw
namespace Go.Di
open Go.RowKit
set_option linter.unusedSectionVars false
set_option linter.unusedSimpArgs false
set_option linter.unusedVariables false

inductive DCode where
  | skip
  | reg (ds : List DOper) (keep : List Nat)
  | drw (ds : List DOper) (ms : List Nat) (keep : List Nat)
  | seq (a b : DCode)
  | cond (c : DOpd) (a b : DCode)
  | block (id : Nat) (b : DCode)
  | loop (b : DCode)
  | exit (id : Nat)
  | ret
  | virt (s v : Nat) (ty : TypeId) (sz : Nat) (b : DCode)

inductive CR where
  | norm (g : EnvL) (h : Hl)
  | exit (id : Nat) (g : EnvL) (h : Hl)
  | ret (g : EnvL) (h : Hl)
  | pnc (v : DV) (g : EnvL) (h : Hl)

def EnvL.keep (g : EnvL) : List Nat → EnvL
  | [] => []
  | k :: ks => (k, g.get k) :: EnvL.keep g ks

def EnvL.rep : EnvL → Nat → DV → EnvL
  | [], n, v => [(n, v)]
  | (k, x) :: l, n, v => match Nat.beq n k with
    | true => (k, v) :: l
    | false => (k, x) :: EnvL.rep l n v

def afterReg (keep : List Nat) : Option RR → Option CR
  | some (.ok g h) => some (.norm (g.keep keep) h)
  | some (.pnc v g h) => some (.pnc v g h)
  | none => none

def iter (body : EnvL → Hl → Option CR) : Nat → EnvL → Hl → Option CR
  | 0, _, _ => none
  | n + 1, g, h => match body g h with
    | some (.norm g' h') => iter body n g' h'
    | r => r

def runC (P : Program) (Γ : Gam) (fuel : Nat) : DCode → EnvL → Hl → Option CR
  | .skip, g, h => some (.norm g h)
  | .reg ds keep, g, h => afterReg keep (seqRun P Γ ds g h)
  | .drw ds ms keep, g, h => afterReg keep (drawRun P Γ ds ms g h)
  | .seq a b, g, h => match runC P Γ fuel a g h with
    | some (.norm g' h') => runC P Γ fuel b g' h'
    | r => r
  | .cond c a b, g, h => match getOpd g.get c with
    | .sc (.bool true) => runC P Γ fuel a g h
    | .sc (.bool false) => runC P Γ fuel b g h
    | _ => none
  | .block id b, g, h => match runC P Γ fuel b g h with
    | some (.exit id' g' h') => match Nat.beq id' id with
      | true => some (.norm g' h')
      | false => some (.exit id' g' h')
    | r => r
  | .loop b, g, h => iter (runC P Γ fuel b) fuel g h
  | .exit id, g, h => some (.exit id g h)
  | .ret, g, h => some (.ret g h)
  | .virt s v ty sz b, g, h => match EnvL.get g s with
    | .lst _ [] .nil => match freshN [[v + 1]] g h with
      | true => runC P Γ fuel b (g.rep s (.row sz [v + 1] 0 0 0)) (Hl.put h [v + 1] (.row ty sz []))
      | false => none
    | _ => runC P Γ fuel b g h

/-! ## The digest -/

inductive Hint where
  | keep (l : List Nat)
  | virt (s v : Nat) (ty : TypeId) (sz : Nat)

def digOpers (P : Program) (ops : Array Oper) (N : Nat) : List Oper → Option (List DOper)
  | [] => some []
  | o :: os => match digOper P ops o, digOpers P ops N os with
    | some d, some ds => match d.dst with
      | none => some (d :: ds)
      | some n => match Nat.blt n N with
        | true => some (d :: ds)
        | false => none
    | _, _ => none

def takeVirts : List Hint → DCode → Option DCode
  | [], c => some c
  | .virt s v ty sz :: hs, c => match Nat.blt 0 sz with
    | true => (takeVirts hs c).map (.virt s v ty sz)
    | false => none
  | .keep _ :: _, _ => none

def splitVirts : List Hint → List Hint × List Hint
  | .virt s v ty sz :: hs => let p := splitVirts hs; (.virt s v ty sz :: p.1, p.2)
  | hs => ([], hs)

def digCode (P : Program) (N : Nat) : Code → List Hint → Option (DCode × List Hint)
  | .skip, hs => some (.skip, hs)
  | .region _ ops draw, hs => match hs with
    | .keep ks :: hs => match digOpers P ops N ops.toList with
      | some ds => match draw with
        | false => some (.reg ds ks, hs)
        | true => match masks [] ops.toList with
          | some ms => match slotAll [] ms ds with
            | true => some (.drw ds ms ks, hs)
            | false => none
          | none => none
      | none => none
    | _ => none
  | .seq a b, hs => match digCode P N a hs with
    | some (x, hs) => match digCode P N b hs with
      | some (y, hs) => some (.seq x y, hs)
      | none => none
    | none => none
  | .cond c a b, hs => match digOpd c with
    | some d => match digCode P N a hs with
      | some (x, hs) => match digCode P N b hs with
        | some (y, hs) => some (.cond d x y, hs)
        | none => none
      | none => none
    | none => none
  | .block id b, hs => match digCode P N b hs with
    | some (x, hs) => some (.block id x, hs)
    | none => none
  | .loop b, hs => match digCode P N b (splitVirts hs).2 with
    | some (x, hs') => match takeVirts (splitVirts hs).1 (.loop x) with
      | some y => some (y, hs')
      | none => none
    | none => none
  | .exit id, hs => some (.exit id, hs)
  | .ret, hs => some (.ret, hs)
  | _, _ => none

/-- What a digest is of. -/
inductive Digs (P : Program) (N : Nat) : DCode → Code → Prop
  | skip : Digs P N .skip .skip
  | reg {ds ks id ops} : DigOps P ops N ds → Digs P N (.reg ds ks) (.region id ops false)
  | drw {ds ms ks id ops} : DigOps P ops N ds → masks [] ops.toList = some ms → slotAll [] ms ds = true → Digs P N (.drw ds ms ks) (.region id ops true)
  | seq {a b x y} : Digs P N x a → Digs P N y b → Digs P N (.seq x y) (.seq a b)
  | cond {c d a b x y} : digOpd c = some d → Digs P N x a → Digs P N y b → Digs P N (.cond d x y) (.cond c a b)
  | block {id a x} : Digs P N x a → Digs P N (.block id x) (.block id a)
  | loop {a x} : Digs P N x a → Digs P N (.loop x) (.loop a)
  | exit {id} : Digs P N (.exit id) (.exit id)
  | ret : Digs P N .ret .ret
  | virt {s v ty sz a x} : 0 < sz → Digs P N x a → Digs P N (.virt s v ty sz x) a

section
variable {P : Program} {N : Nat}

theorem digOpers_spec {ops : Array Oper} : ∀ {os : List Oper} {ds : List DOper}, digOpers P ops N os = some ds → ds.length = os.length ∧
    ∀ (k : Nat) d, ds[k]? = some d → (∃ o, os[k]? = some o ∧ digOper P ops o = some d) ∧ ∀ n, d.dst = some n → n < N
  | [], ds, h => by simp only [digOpers, Option.some.injEq] at h; subst h; exact ⟨rfl, fun k d hd => by simp at hd⟩
  | o :: os, ds, h => by
    simp only [digOpers] at h
    split at h
    · rename_i d0 ds0 h1 h2
      obtain ⟨h3, h4⟩ := digOpers_spec h2
      have key : ds = d0 :: ds0 ∧ ∀ n, d0.dst = some n → n < N := by
        split at h
        · rename_i hd; cases h; exact ⟨rfl, fun n hn => by rw [hd] at hn; cases hn⟩
        · rename_i n hd
          split at h
          · rename_i hb; cases h; exact ⟨rfl, fun m hm => by rw [hd] at hm; cases hm; rwa [Nat.blt_eq] at hb⟩
          · cases h
      obtain ⟨rfl, h5⟩ := key
      refine ⟨by simp [h3], fun k d hd => ?_⟩
      cases k with
      | zero => simp at hd; subst hd; exact ⟨⟨o, rfl, h1⟩, h5⟩
      | succ k => simpa using h4 k d (by simpa using hd)
    · cases h

theorem takeVirts_digs : ∀ {hs : List Hint} {x y : DCode} {c : Code}, takeVirts hs x = some y → Digs P N x c → Digs P N y c
  | [], x, y, c, h, hd => by simp only [takeVirts, Option.some.injEq] at h; subst h; exact hd
  | .keep _ :: _, x, y, c, h, hd => by simp [takeVirts] at h
  | .virt s v ty sz :: hs, x, y, c, h, hd => by
    simp only [takeVirts] at h
    split at h
    · rename_i hz
      simp only [Option.map_eq_some_iff] at h
      obtain ⟨z, h1, rfl⟩ := h
      exact .virt (by rwa [Nat.blt_eq] at hz) (takeVirts_digs h1 hd)
    · cases h

theorem digOps_of {ops : Array Oper} {ds : List DOper} (h1 : digOpers P ops N ops.toList = some ds) : DigOps P ops N ds := by
  obtain ⟨a, b⟩ := digOpers_spec h1
  exact ⟨by simpa using a, fun k x hx => by simpa using b k x hx⟩

theorem digCode_digs : ∀ {c : Code} {hs hs' : List Hint} {dc : DCode}, digCode P N c hs = some (dc, hs') → Digs P N dc c := by
  intro c
  induction c with
  | skip => intro hs hs' dc h; simp only [digCode, Option.some.injEq, Prod.mk.injEq] at h; rw [← h.1]; exact .skip
  | region id ops draw =>
    intro hs hs' dc h
    simp only [digCode] at h
    split at h
    · split at h
      · rename_i ds h1
        split at h
        · cases h; exact .reg (digOps_of h1)
        · split at h
          · rename_i ms h5
            split at h
            · rename_i h6; cases h; exact .drw (digOps_of h1) h5 h6
            · cases h
          · cases h
      · cases h
    · cases h
  | seq a b iha ihb =>
    intro hs hs' dc h
    simp only [digCode] at h
    split at h
    · rename_i x hs1 h1
      split at h
      · rename_i y hs2 h2; cases h; exact .seq (iha h1) (ihb h2)
      · cases h
    · cases h
  | cond c a b iha ihb =>
    intro hs hs' dc h
    simp only [digCode] at h
    split at h
    · rename_i d h0
      split at h
      · rename_i x hs1 h1
        split at h
        · rename_i y hs2 h2; cases h; exact .cond h0 (iha h1) (ihb h2)
        · cases h
      · cases h
    · cases h
  | block id b ih =>
    intro hs hs' dc h
    simp only [digCode] at h
    split at h
    · rename_i x hs1 h1; cases h; exact .block (ih h1)
    · cases h
  | loop b ih =>
    intro hs hs' dc h
    simp only [digCode] at h
    split at h
    · rename_i x hs1 h1
      split at h
      · rename_i y h2; cases h; exact takeVirts_digs h2 (.loop (ih h1))
      · cases h
    · cases h
  | exit id => intro hs hs' dc h; simp only [digCode, Option.some.injEq, Prod.mk.injEq] at h; rw [← h.1]; exact .exit
  | ret => intro hs hs' dc h; simp only [digCode, Option.some.injEq, Prod.mk.injEq] at h; rw [← h.1]; exact .ret
  | rangeFunc => intro hs hs' dc h; simp [digCode] at h
  | scope => intro hs hs' dc h; simp [digCode] at h
  | label => intro hs hs' dc h; simp [digCode] at h
  | goto => intro hs hs' dc h; simp [digCode] at h
  | refuse => intro hs hs' dc h; simp [digCode] at h
end

/-! ## What is run is so -/

section
variable {P : Program} {SX : List Nat} {W0 : World} {ρ0 : Rho} {F0 : Nat → Prop} {h0 : Hp} {w0 : World} {D : List Deferred} {Γ : Gam} {N : Nat}

theorem EnvL.get_keep {g : EnvL} : ∀ {ks : List Nat} (n : Nat), EnvL.get (g.keep ks) n = g.get n ∨ EnvL.get (g.keep ks) n = .any
  | [], n => .inr rfl
  | k :: ks, n => by
    simp only [EnvL.keep, EnvL.get]
    cases hb : Nat.beq n k with
    | true => have := Nat.eq_of_beq_eq_true hb; subst this; exact .inl rfl
    | false => exact EnvL.get_keep n

theorem EnvL.get_rep : ∀ (g : EnvL) (n : Nat) (v : DV), EnvL.get (g.rep n v) = setEnv g.get (some n) v
  | [], n, v => by
    funext m
    simp only [EnvL.rep, EnvL.get, setEnv]
    by_cases e : m = n
    · subst e; simp
    · rw [if_neg e]
      cases hb : Nat.beq m n with
      | false => rfl
      | true => exact absurd (Nat.eq_of_beq_eq_true hb) e
  | (k, x) :: l, n, v => by
    funext m
    simp only [EnvL.rep]
    cases hb : Nat.beq n k with
    | true =>
      have := Nat.eq_of_beq_eq_true hb
      subst this
      simp only [EnvL.get, setEnv]
      by_cases e : m = n
      · subst e; simp
      · rw [if_neg e]
        cases hm : Nat.beq m n with
        | false => rfl
        | true => exact absurd (Nat.eq_of_beq_eq_true hm) e
    | false =>
      simp only [EnvL.get]
      rw [EnvL.get_rep l n v]
      simp only [setEnv]
      by_cases e : m = n
      · subst e; rw [hb]
      · rw [if_neg e, if_neg e]

theorem at_weaken {ρ : Rho} {F : Nat → Prop} {g g' : Env} {h : Hp} {a : Act} {w : World} (at_ : At SX W0 ρ0 F0 h0 w0 D N ρ F g h a w) (hg : ∀ n, g' n = g n ∨ g' n = .any) : At SX W0 ρ0 F0 h0 w0 D N ρ F g' h a w :=
  ⟨⟨at_.inv.rel, fun n => by
    rcases hg n with e | e
    · rw [e]; exact at_.inv.env n
    · rw [e]; simp [RepV], at_.inv.size⟩, at_.good, at_.dfs⟩

/-- How a run and an exit of the code go together. -/
def Lands (SX : List Nat) (W0 : World) (ρ0 : Rho) (F0 : Nat → Prop) (h0 : Hp) (w0 : World) (D : List Deferred) (N : Nat) : CR → Exit → Act → World → Prop
  | .norm g h, e, a, w => e = .normal ∧ ∃ ρ F, At SX W0 ρ0 F0 h0 w0 D N ρ F g.get h.get a w
  | .exit id g h, e, a, w => e = .exit id ∧ ∃ ρ F, At SX W0 ρ0 F0 h0 w0 D N ρ F g.get h.get a w
  | .ret g h, e, a, w => e = .ret ∧ ∃ ρ F, At SX W0 ρ0 F0 h0 w0 D N ρ F g.get h.get a w
  | .pnc d g h, e, a, w => ∃ v, e = .panic [{ v, recovered := false }] ∧ ∃ ρ F, AtP SX W0 ρ0 F0 h0 w0 D N ρ F g.get h.get d v a w

theorem lands_reg {keep : List Nat} {rr : Option RR} {r : CR} (hr : afterReg keep rr = some r) : (∃ g h, rr = some (.ok g h) ∧ r = .norm (g.keep keep) h) ∨ ∃ d g h, rr = some (.pnc d g h) ∧ r = .pnc d g h := by
  unfold afterReg at hr
  split at hr
  · cases hr; exact .inl ⟨_, _, rfl, rfl⟩
  · cases hr; exact .inr ⟨_, _, _, rfl, rfl⟩
  · cases hr

theorem least {p : Nat → Prop} : ∀ {n : Nat}, p n → ∃ m, p m ∧ ∀ k, p k → m ≤ k := by
  intro n
  induction n using Nat.strongRecOn with
  | _ n ih =>
    intro hn
    by_cases h : ∃ k, k < n ∧ p k
    · obtain ⟨k, hk, hp⟩ := h; exact ih k hk hp
    · exact ⟨n, hn, fun k hk => Nat.le_of_not_lt fun hlt => h ⟨k, hlt, hk⟩⟩

open Classical in
theorem wp_loop_n {c : Code} {Q : Exit → Act → World → Prop} (I : Nat → Act → World → Prop) {n : Nat} {a : Act} {w : World} (hI : I n a w)
    (round : ∀ n a w, I n a w → c.wp P (Exit.then (fun a' w' => ∃ m, m < n ∧ I m a' w') Q) a w) : (Code.loop c).wp P Q a w := by
  refine wp_loop (fun a w => ∃ n, I n a w) (fun a w => if h : ∃ n, I n a w then Classical.choose (least (p := fun n => I n a w) (Classical.choose_spec h)) else 0) ⟨n, hI⟩ ?_
  intro a w hx
  have hm := Classical.choose_spec (least (p := fun n => I n a w) (Classical.choose_spec hx))
  refine wp_mono (round _ a w hm.1) fun e a' w' hq => ?_
  cases e with
  | normal =>
    obtain ⟨m, hlt, hI'⟩ := hq
    refine ⟨⟨m, hI'⟩, ?_⟩
    simp only [dif_pos hx, dif_pos (⟨m, hI'⟩ : ∃ n, I n a' w')]
    have := (Classical.choose_spec (least (p := fun n => I n a' w') (Classical.choose_spec (⟨m, hI'⟩ : ∃ n, I n a' w')))).2 m hI'
    omega
  | _ => exact hq

theorem at_virt {s v : Nat} {ty : TypeId} {sz sz' : Nat} (hz : 0 < sz) {g : EnvL} {h : Hl} {ρ : Rho} {F : Nat → Prop} {a : Act} {w : World} (at_ : At SX W0 ρ0 F0 h0 w0 D N ρ F g.get h.get a w)
    (hs : g.get s = .lst sz' [] .nil) (hf : FreshTok [v + 1] g.get h.get) (hv : v ∉ SX) :
    At SX W0 ρ0 F0 h0 w0 D N (ρ.set [v + 1] none) F (EnvL.get (g.rep s (.row sz [v + 1] 0 0 0))) (Hl.get (Hl.put h [v + 1] (.row ty sz []))) a w := by
  have hk : Good W0 (fun t => t ≠ [v + 1]) ρ F h.get w (ρ.set [v + 1] none) F (Hp.set h.get [v + 1] (.row ty sz [])) w :=
    good_virt at_.inv.rel hz (fun u hu => hu) fun u o' _ hu hm => hf.obj u o' hu hm
  rw [EnvL.get_rep, Hl.get_put]
  refine ⟨⟨hk.rel, fun n => ?_, at_.inv.size⟩, at_.good.trans ⟨hk.rel, hk.keep.weaken fun t ht => ?_, hk.ext⟩, at_.dfs⟩
  · simp only [setEnv]
    split
    · rename_i e
      subst e
      have := at_.inv.env n
      rw [hs] at this
      simp only [RepV] at this ⊢
      obtain ⟨A, c, hx, h1, h2, _⟩ := this
      obtain ⟨rfl, rfl⟩ := h2 trivial
      exact ⟨none, 0, hx, Nat.le_refl _, fun m _ => ⟨Nat.zero_le _, fun e => ⟨by omega, fun hc => absurd hc (by omega)⟩⟩⟩
    · exact RepV.keep hk.keep _ _ (fun t ht e => hf.env n (e ▸ ht)) (at_.inv.env n)
  · rintro rfl
    rcases ht with ht | ⟨n, hn, he⟩
    · simp [isIn] at ht
    · simp only [List.head?_cons, Option.some.injEq, Nat.add_right_cancel_iff] at he
      subst he
      exact hv hn

/-- No operation has one of these slots. -/
def clearOps (SX : List Nat) : List DOper → Bool
  | [] => true
  | d :: ds => (match d.dst with | some n => !SX.any (Nat.beq n) | none => true) && clearOps SX ds

def clear (SX : List Nat) : DCode → Bool
  | .reg ds _ => clearOps SX ds
  | .drw ds _ _ => clearOps SX ds
  | .seq a b => clear SX a && clear SX b
  | .cond _ a b => clear SX a && clear SX b
  | .block _ b => clear SX b
  | .loop b => clear SX b
  | .virt _ v _ _ b => !SX.any (Nat.beq v) && clear SX b
  | _ => true

theorem notAny {SX : List Nat} {n : Nat} (h : SX.any (Nat.beq n) = false) : n ∉ SX := fun hm => by
  have : SX.any (Nat.beq n) = true := List.any_eq_true.2 ⟨n, hm, Nat.beq_refl n⟩
  rw [h] at this
  cases this

theorem clearOps_spec {SX : List Nat} : ∀ {ds : List DOper}, clearOps SX ds = true → ∀ d ∈ ds, ∀ n, d.dst = some n → n ∉ SX
  | [], _, d, hd, _, _ => by cases hd
  | x :: ds, h, d, hd, n, hn => by
    simp only [clearOps, Bool.and_eq_true] at h
    rcases List.mem_cons.1 hd with rfl | hd
    · have := h.1
      rw [hn] at this
      exact notAny (by simpa using this)
    · exact clearOps_spec h.2 d hd n hn

theorem clearOps_nil : ∀ {ds : List DOper}, clearOps [] ds = true
  | [] => rfl
  | d :: ds => by simp only [clearOps, clearOps_nil (ds := ds)]; cases d.dst <;> rfl

theorem clear_nil : ∀ {c : DCode}, clear [] c = true := by
  intro c
  induction c <;> simp_all [clear, clearOps_nil]

theorem code_sound (hΓ : ∀ f sp, Γ f = some sp → FnOk P W0 f sp) (hmix : P.follows .mixedOrders = true) {fuel : Nat} {dc : DCode} {c : Code} (hd : Digs P N dc c) (hcl : clear SX dc = true) :
    ∀ {g : EnvL} {h : Hl} {r : CR}, runC P Γ fuel dc g h = some r → ∀ {ρ : Rho} {F : Nat → Prop} {a : Act} {w : World} {Q : Exit → Act → World → Prop}, At SX W0 ρ0 F0 h0 w0 D N ρ F g.get h.get a w →
      (∀ e a' w', Lands SX W0 ρ0 F0 h0 w0 D N r e a' w' → Q e a' w') → c.wp P Q a w := by
  induction hd with
  | skip =>
    intro g h r hr ρ F a w Q at_ hQ
    simp only [runC, Option.some.injEq] at hr
    subst hr
    exact wp_skip (hQ _ _ _ ⟨rfl, ρ, F, at_⟩)
  | @reg ds ks id ops h1 =>
    intro g h r hr ρ F a w Q at_ hQ
    simp only [runC] at hr
    have hlen : List.range' (0 + 0) ds.length = List.range ops.size := by rw [h1.1, List.range_eq_range']
    refine wp_region ?_
    rw [← hlen]
    rcases lands_reg hr with ⟨g', h', he, rfl⟩ | ⟨d, g', h', he, rfl⟩
    · refine seq_sound hΓ (off := 0) (fun k d hk => by simpa using h1.2 k d hk) (clearOps_spec hcl) (rest := ds) (i := 0) (by simp) he at_ (fun g2 h2 e ρ' F' a' w' at' => ?_) (fun d g2 h2 e => by cases e)
      cases e
      exact hQ _ _ _ ⟨rfl, ρ', F', at_weaken at' fun n => EnvL.get_keep n⟩
    · refine seq_sound hΓ (off := 0) (fun k d hk => by simpa using h1.2 k d hk) (clearOps_spec hcl) (rest := ds) (i := 0) (by simp) he at_ (fun g2 h2 e => by cases e) (fun d g2 h2 e ρ' F' v a' w' at' => ?_)
      cases e
      exact hQ _ _ _ ⟨v, rfl, ρ', F', at'⟩
  | @drw ds ms ks id ops h1 h3 h4 =>
    intro g h r hr ρ F a w Q at_ hQ
    simp only [runC] at hr
    rcases lands_reg hr with ⟨g', h', he, rfl⟩ | ⟨d, g', h', he, rfl⟩
    · refine draw_sound hΓ hmix h1 (clearOps_spec hcl) h3 h4 he at_ (fun g2 h2 e ρ' F' a' w' at' => ?_) (fun d g2 h2 e => by cases e)
      cases e
      exact hQ _ _ _ ⟨rfl, ρ', F', at_weaken at' fun n => EnvL.get_keep n⟩
    · refine draw_sound hΓ hmix h1 (clearOps_spec hcl) h3 h4 he at_ (fun g2 h2 e => by cases e) (fun d g2 h2 e ρ' F' v a' w' at' => ?_)
      cases e
      exact hQ _ _ _ ⟨v, rfl, ρ', F', at'⟩
  | seq h1 h2 iha ihb =>
    simp only [clear, Bool.and_eq_true] at hcl
    have iha := @iha hcl.1
    have ihb := @ihb hcl.2
    intro g h r hr ρ F a w Q at_ hQ
    simp only [runC] at hr
    split at hr
    · rename_i g' h' hx
      refine wp_seq (iha hx at_ fun e a' w' hl => ?_)
      obtain ⟨rfl, ρ', F', at'⟩ := hl
      exact ihb hr at' hQ
    · rename_i hx
      refine wp_seq (iha hr at_ fun e a' w' hl => ?_)
      cases r with
      | norm g' h' => exact absurd hr (hx g' h')
      | exit id g' h' => have := hl.1; subst this; exact hQ _ _ _ hl
      | ret g' h' => have := hl.1; subst this; exact hQ _ _ _ hl
      | pnc d g' h' => obtain ⟨v, rfl, hh⟩ := hl; exact hQ _ _ _ ⟨v, rfl, hh⟩
  | cond h0 h1 h2 iha ihb =>
    simp only [clear, Bool.and_eq_true] at hcl
    have iha := @iha hcl.1
    have ihb := @ihb hcl.2
    intro g h r hr ρ F a w Q at_ hQ
    simp only [runC] at hr
    have hc := opd_rep at_.inv.env h0
    split at hr
    · rename_i he
      rw [he] at hc
      exact wp_cond_true (rep_sc hc) (iha hr at_ hQ)
    · rename_i he
      rw [he] at hc
      exact wp_cond_false (rep_sc hc) (ihb hr at_ hQ)
    · cases hr
  | block h1 ih =>
    have ih := @ih hcl
    intro g h r hr ρ F a w Q at_ hQ
    simp only [runC] at hr
    refine wp_block ?_
    split at hr
    · rename_i id' g' h' hx
      refine ih hx at_ fun e a' w' hl => ?_
      obtain ⟨rfl, hh⟩ := hl
      split at hr
      · rename_i hb
        cases hr
        simp only [Exit.inBlock, if_pos (Nat.eq_of_beq_eq_true hb)]
        exact hQ _ _ _ ⟨rfl, hh⟩
      · rename_i hb
        cases hr
        simp only [Exit.inBlock]
        rw [if_neg (fun e => by subst e; simp at hb)]
        exact hQ _ _ _ ⟨rfl, hh⟩
    · rename_i hx
      refine ih hr at_ fun e a' w' hl => ?_
      cases r with
      | norm g' h' => have := hl.1; subst this; exact hQ _ _ _ hl
      | exit id g' h' => exact absurd hr (hx id g' h')
      | ret g' h' => have := hl.1; subst this; exact hQ _ _ _ hl
      | pnc d g' h' => obtain ⟨v, rfl, hh⟩ := hl; exact hQ _ _ _ ⟨v, rfl, hh⟩
  | @loop ac x h1 ih =>
    have ih := @ih hcl
    intro g h r hr ρ F a w Q at_ hQ
    simp only [runC] at hr
    refine wp_loop_n (fun n a w => ∃ g h ρ F, iter (runC P Γ fuel x) n g h = some r ∧ At SX W0 ρ0 F0 h0 w0 D N ρ F g.get h.get a w) (n := fuel) ⟨g, h, ρ, F, hr, at_⟩ ?_
    rintro n a w ⟨g, h, ρ, F, hr, at_⟩
    cases n with
    | zero => simp [iter] at hr
    | succ n =>
      simp only [iter] at hr
      split at hr
      · rename_i g' h' hx
        refine ih hx at_ fun e a' w' hl => ?_
        obtain ⟨rfl, ρ', F', at'⟩ := hl
        exact ⟨n, Nat.lt_succ_self n, g', h', ρ', F', hr, at'⟩
      · rename_i hx
        refine ih hr at_ fun e a' w' hl => ?_
        cases r with
        | norm g' h' => exact absurd hr (hx g' h')
        | exit id g' h' => have := hl.1; subst this; exact hQ _ _ _ hl
        | ret g' h' => have := hl.1; subst this; exact hQ _ _ _ hl
        | pnc d g' h' => obtain ⟨v, rfl, hh⟩ := hl; exact hQ _ _ _ ⟨v, rfl, hh⟩
  | exit =>
    intro g h r hr ρ F a w Q at_ hQ
    simp only [runC, Option.some.injEq] at hr
    subst hr
    exact wp_exit (hQ _ _ _ ⟨rfl, ρ, F, at_⟩)
  | ret =>
    intro g h r hr ρ F a w Q at_ hQ
    simp only [runC, Option.some.injEq] at hr
    subst hr
    exact wp_ret (hQ _ _ _ ⟨rfl, ρ, F, at_⟩)
  | virt hz h1 ih =>
    simp only [clear, Bool.and_eq_true, Bool.not_eq_true'] at hcl
    have ih := @ih hcl.2
    intro g h r hr ρ F a w Q at_ hQ
    simp only [runC] at hr
    split at hr
    · rename_i hs
      split at hr
      · rename_i hf
        refine ih hr (at_virt hz at_ hs (freshN_at hf (by simp)) (notAny hcl.1)) hQ
      · cases hr
    · exact ih hr at_ hQ
end
end Go.Di
