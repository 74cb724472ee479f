/- Regions of operations in the order of the text: what is run, and that it is so. -/
import Derived.Test.YtnmjgpnidpgimaaGreatDoorDiRegion
namespace Go.Di
open Go.RowKit
set_option linter.unusedSectionVars false
set_option linter.unusedSimpArgs false
set_option linter.unusedVariables false

abbrev EnvL := List (Nat × DV)

def EnvL.get : EnvL → Env
  | [], _ => .any
  | (k, v) :: l, n => match Nat.beq n k with
    | true => v
    | false => EnvL.get l n

def EnvL.put (l : EnvL) (d : Option Nat) (v : DV) : EnvL := match d with
  | none => l
  | some n => (n, v) :: l

theorem EnvL.get_put (l : EnvL) (d : Option Nat) (v : DV) : EnvL.get (EnvL.put l d v) = setEnv (EnvL.get l) d v := by
  funext m
  cases d with
  | none => rfl
  | some n =>
    simp only [EnvL.put, EnvL.get, setEnv]
    by_cases e : m = n
    · subst e; simp
    · rw [if_neg e]
      have : Nat.beq m n = false := by
        cases hb : Nat.beq m n with
        | false => rfl
        | true => exact absurd (Nat.eq_of_beq_eq_true hb) e
      rw [this]

def teq : Tok → Tok → Bool
  | [], [] => true
  | a :: as, b :: bs => match Nat.beq a b with
    | true => teq as bs
    | false => false
  | _, _ => false

theorem teq_iff : ∀ {a b : Tok}, teq a b = true ↔ a = b
  | [], [] => by simp [teq]
  | [], _ :: _ => by simp [teq]
  | _ :: _, [] => by simp [teq]
  | a :: as, b :: bs => by
    simp only [teq]
    cases hb : Nat.beq a b with
    | true => simp [Nat.eq_of_beq_eq_true hb, teq_iff]
    | false =>
      have : a ≠ b := fun e => by subst e; simp at hb
      simp [this]

def Hl.put : Hl → Tok → AObj → Hl
  | [], t, o => [(t, o)]
  | (u, o') :: l, t, o => match teq u t with
    | true => (u, o) :: l
    | false => (u, o') :: Hl.put l t o

theorem Hl.get_put : ∀ (l : Hl) (t : Tok) (o : AObj), Hl.get (Hl.put l t o) = Hp.set (Hl.get l) t o
  | [], t, o => by funext u; simp only [Hl.put, Hl.get, Hp.set]; simp only [eq_comm]
  | (u, o') :: l, t, o => by
    funext v
    simp only [Hl.put]
    cases hb : teq u t with
    | true =>
      have := teq_iff.1 hb
      subst this
      simp only [Hl.get, Hp.set]
      by_cases e : v = u
      · subst e; simp
      · simp [e, Ne.symm e]
    | false =>
      have hn : u ≠ t := fun e => by rw [teq_iff.2 e] at hb; cases hb
      simp only [Hl.get, Hl.get_put l t o, Hp.set]
      by_cases e : v = t
      · subst e; simp [hn]
      · simp [e]

/-- Changes brought into a heap. -/
def Hl.upd : Hl → Hl → Hl
  | [], h => h
  | (t, o) :: u, h => Hl.upd u (Hl.put h t o)

theorem Hl.get_upd : ∀ (u h : Hl), Hl.get (Hl.upd u h) = Hl.app u (Hl.get h)
  | [], h => rfl
  | (t, o) :: u, h => by simp only [Hl.upd, Hl.app]; rw [Hl.get_upd u, Hl.get_put]

def tin (t : Tok) : List Tok → Bool
  | [] => false
  | u :: l => teq t u || tin t l

def disj : List Tok → List Tok → Bool
  | [], _ => true
  | t :: ts, l => !tin t l && disj ts l

def freshE (cr : List Tok) : EnvL → Bool
  | [] => true
  | (_, v) :: l => disj (toks v) cr && freshE cr l

def freshH (cr : List Tok) : Hl → Bool
  | [] => true
  | (_, o) :: l => disj o.toks cr && freshH cr l

/-- Are these names in nobody's hands? -/
def freshN (cr : List Tok) (g : EnvL) (h : Hl) : Bool := match cr with
  | [] => true
  | cr => freshE cr g && freshH cr h

/-- What a region leaves. -/
inductive RR where
  | ok (g : EnvL) (h : Hl)
  | pnc (v : DV) (g : EnvL) (h : Hl)

def seqRun (P : Program) (Γ : Gam) : List DOper → EnvL → Hl → Option RR
  | [], g, h => some (.ok g h)
  | o :: os, g, h => match opStep P Γ o g.get h.get with
    | none => none
    | some none => seqRun P Γ os (g.put o.dst (.tup [])) h
    | some (some e) => match freshN (made o.dst (getOpd g.get) o.op e) g h with
      | false => none
      | true => match e.out with
        | .ret v => seqRun P Γ os (g.put o.dst v) (Hl.upd e.upds h)
        | .pnc v => some (.pnc v g (Hl.upd e.upds h))

/-- Digested operations and the given ones. -/
def DigOps (P : Program) (ops : Array Oper) (N : Nat) (ds : List DOper) : Prop :=
  ds.length = ops.size ∧ (∀ (k : Nat) d, ds[k]? = some d → (∃ o, ops[k]? = some o ∧ digOper P ops o = some d) ∧ ∀ n, d.dst = some n → n < N)

/-- Names that nothing under evaluation makes anew: what was handed in; what these slots have made. -/
def Held (SX : List Nat) (t : Tok) : Prop := isIn t = true ∨ ∃ n ∈ SX, t.head? = some (n + 1)

/-- Where the code under evaluation stands, against where it began. -/
structure At (SX : List Nat) (W0 : World) (ρ0 : Rho) (F0 : Nat → Prop) (h0 : Hp) (w0 : World) (D : List Deferred) (N : Nat) (ρ : Rho) (F : Nat → Prop) (g : Env) (h : Hp) (a : Act) (w : World) : Prop where
  inv : Inv W0 ρ F g h N a w
  good : Good W0 (Held SX) ρ0 F0 h0 w0 ρ F h w
  dfs : a.defers = D

structure AtP (SX : List Nat) (W0 : World) (ρ0 : Rho) (F0 : Nat → Prop) (h0 : Hp) (w0 : World) (D : List Deferred) (N : Nat) (ρ : Rho) (F : Nat → Prop) (g : Env) (h : Hp) (d : DV) (v : Value) (a : Act) (w : World) : Prop where
  env : RepEnv ρ F h w g a
  size : a.tmps.size = N
  good : Good W0 (Held SX) ρ0 F0 h0 w0 ρ F h w
  rep : RepV ρ F h w d v
  dfs : a.defers = D

section
variable {P : Program} {SX : List Nat} {W0 : World} {ρ0 : Rho} {F0 : Nat → Prop} {h0 : Hp} {w0 : World} {D : List Deferred} {ρ : Rho} {F : Nat → Prop} {Γ : Gam} {N : Nat}

theorem tin_iff {t : Tok} : ∀ {l : List Tok}, tin t l = true ↔ t ∈ l
  | [] => by simp [tin]
  | u :: l => by simp [tin, teq_iff, tin_iff (l := l)]

theorem disj_iff : ∀ {a b : List Tok}, disj a b = true ↔ ∀ t ∈ a, t ∉ b
  | [], _ => by simp [disj]
  | t :: ts, b => by
    simp only [disj, Bool.and_eq_true, Bool.not_eq_true', disj_iff (a := ts), List.mem_cons, forall_eq_or_imp]
    rw [← Bool.not_eq_true, tin_iff]

theorem freshE_spec {cr : List Tok} : ∀ {g : EnvL}, freshE cr g = true → ∀ n, ∀ t ∈ toks (g.get n), t ∉ cr
  | [], _, n, t, ht => by simp [EnvL.get, toks] at ht
  | (k, v) :: l, h, n, t, ht => by
    simp only [freshE, Bool.and_eq_true] at h
    simp only [EnvL.get] at ht
    split at ht
    · exact disj_iff.1 h.1 t ht
    · exact freshE_spec h.2 n t ht

theorem freshH_spec {cr : List Tok} : ∀ {h : Hl}, freshH cr h = true → ∀ u o, h.get u = some o → ∀ t ∈ o.toks, t ∉ cr
  | [], _, u, o, hu, _, _ => by simp [Hl.get] at hu
  | (k, x) :: l, h, u, o, hu, t, ht => by
    simp only [freshH, Bool.and_eq_true] at h
    simp only [Hl.get] at hu
    split at hu
    · cases hu; exact disj_iff.1 h.1 t ht
    · exact freshH_spec h.2 u o hu t ht

theorem freshN_at {cr : List Tok} {g : EnvL} {h : Hl} (hf : freshN cr g h = true) {t : Tok} (ht : t ∈ cr) : FreshTok t g.get h.get := by
  cases cr with
  | nil => cases ht
  | cons c cs =>
    simp only [freshN, Bool.and_eq_true] at hf
    exact ⟨fun n hn => freshE_spec hf.1 n t hn ht, fun u o hu hm => freshH_spec hf.2 u o hu t hm ht⟩

theorem in_head {t : Tok} (h : isIn t = true) (n : Nat) : t.head? ≠ some (n + 1) := by
  match t, h with
  | 0 :: _, _ => simp

/-- What is made is the operation's own: no name that was handed in. -/
theorem made_head {o : DOper} {g : Env} {r : Option Eff} (h : ∀ t ∈ madeOf o g r, ∃ n v, o.dst = some n ∧ t = (n + 1) :: v) (hS : ∀ n, o.dst = some n → n ∉ SX) : ∀ t ∈ madeOf o g r, Held SX t → False := fun t ht hi => by
  obtain ⟨n, v, hd, rfl⟩ := h t ht
  rcases hi with hi | ⟨m, hm, he⟩
  · simp [isIn] at hi
  · simp only [List.head?_cons, Option.some.injEq, Nat.add_right_cancel_iff] at he
    subst he
    exact hS _ hd hm

theorem opStep_made {o : DOper} {g : Env} {h : Hp} {r : Option Eff} (hr : opStep P Γ o g h = some r) : ∀ t ∈ madeOf o g r, ∃ n v, o.dst = some n ∧ t = (n + 1) :: v := fun t ht => by
  unfold opStep at hr
  split at hr
  · simp only [Option.map_eq_some_iff] at hr
    obtain ⟨e, he, rfl⟩ := hr
    have named : t ∈ (nameOf o.dst).toList → ∃ n v, o.dst = some n ∧ t = (n + 1) :: v := fun hm => by
      cases hd : o.dst with
      | none => simp [nameOf, hd] at hm
      | some n => simp [nameOf, hd] at hm; exact ⟨n, [], rfl, hm⟩
    have call : ∀ {f args}, callEff Γ o.dst h f args = some e → t ∈ newIn e.reads e.upds → ∃ n v, o.dst = some n ∧ t = (n + 1) :: v := fun {f args} hc hm => by
      obtain ⟨h1, ob, h2⟩ := newIn_iff.1 hm
      unfold callEff at hc
      split at hc
      · cases hc
      · split at hc
        · split at hc
          · cases hc
          · split at hc
            · split at hc
              · cases hc; exact absurd (frzAll_toks h2).2 h1
              · cases hc
            · cases hc
        · simp only at hc
          split at hc
          · split at hc
            · rename_i hdst
              split at hc
              · split at hc
                · rename_i hl
                  split at hc
                  · cases hc
                    simp only [List.mem_reverse, List.mem_append] at h2
                    rcases h2 with h2 | h2
                    · exact absurd (backIn_mem hl t ob h2).1 h1
                    · obtain ⟨⟨v, e⟩, _⟩ := backNew_mem t ob h2
                      exact ⟨_, v, hdst, e⟩
                  · cases hc
                · cases hc
              · cases hc
            · cases hc
          · cases hc
    simp only [madeOf] at ht
    cases hop : o.op with
    | call f xs =>
      rw [hop] at he ht
      exact call he ht
    | callv f xs =>
      rw [hop] at he ht
      simp only [opEff] at he
      split at he
      · exact call he ht
      · cases he
    | _ =>
      rw [hop] at ht
      simp only [made] at ht
      split at ht
      · exact named ht
      · cases ht
  · cases hr; cases ht
  · cases hr

theorem opStep_digs {ops : Array Oper} {o : Oper} {d : DOper} (hd : digOper P ops o = some d) : digOp P o.op = some d.op :=
  (digOper_spec (ρ := fun _ => none) (F := fun _ => False) (g := fun _ => .any) (h := fun _ => none) (w := default) hd).1

/-- One operation, from where the code stands. -/
theorem oper_at (hΓ : ∀ f sp, Γ f = some sp → FnOk P W0 f sp) {ops : Array Oper} {i : Nat} {o : Oper} (hi : ops[i]? = some o) {d : DOper} (hd : digOper P ops o = some d) {g : Env} {h : Hp} {a : Act} {w : World}
    (at_ : At SX W0 ρ0 F0 h0 w0 D N ρ F g h a w) {r : Option Eff} (hr : opStep P Γ d g h = some r)
    (hf : FreshOp d g h r) (hN : ∀ n, d.dst = some n → n < N) (hS : ∀ n, d.dst = some n → n ∉ SX) {K : Act → World → Prop} {Q : Exit → Act → World → Prop}
    (hK : resPanics r = false → ∀ ρ' F' a' w', At SX W0 ρ0 F0 h0 w0 D N ρ' F' (setEnv g d.dst (resVal r)) ((resUpds r).app h) a' w' → K a' w')
    (hQ : resPanics r = true → ∀ ρ' F' v a' w', AtP SX W0 ρ0 F0 h0 w0 D N ρ' F' g ((resUpds r).app h) (resVal r) v a' w' → Q (.panic [{ v, recovered := false }]) a' w') :
    wpOp P ops Q i K a w := by
  refine oper_wp hΓ hi hd at_.inv hr hf hN (fun hp a' w' ρ' F' ha inv e k => ?_) (fun hp v w' ρ' F' rel e k hv he => ?_)
  · exact hK hp ρ' F' a' w' ⟨inv, at_.good.trans ⟨inv.rel, k.weaken fun t ht _ hm => made_head (opStep_made hr) hS t hm ht, e⟩, ha.trans at_.dfs⟩
  · exact hQ hp ρ' F' v a w' ⟨he, at_.inv.size, at_.good.trans ⟨rel, k.weaken fun t ht _ hm => made_head (opStep_made hr) hS t hm ht, e⟩, hv, at_.dfs⟩

/-- A region in the order of the text. -/
theorem seq_sound (hΓ : ∀ f sp, Γ f = some sp → FnOk P W0 f sp) {ops : Array Oper} {ds : List DOper} {off : Nat} (hd : ∀ (k : Nat) d, ds[k]? = some d → (∃ o, ops[off + k]? = some o ∧ digOper P ops o = some d) ∧ ∀ n, d.dst = some n → n < N) (hS : ∀ d ∈ ds, ∀ n, d.dst = some n → n ∉ SX) {Q : Exit → Act → World → Prop} :
    ∀ {rest : List DOper} {i : Nat} {g : EnvL} {h : Hl} {ρ : Rho} {F : Nat → Prop} {a : Act} {w : World} {r : RR}, ds.drop i = rest → seqRun P Γ rest g h = some r →
    At SX W0 ρ0 F0 h0 w0 D N ρ F g.get h.get a w →
    (∀ g' h', r = .ok g' h' → ∀ ρ' F' a' w', At SX W0 ρ0 F0 h0 w0 D N ρ' F' g'.get h'.get a' w' → Q .normal a' w') →
    (∀ d g' h', r = .pnc d g' h' → ∀ ρ' F' v a' w', AtP SX W0 ρ0 F0 h0 w0 D N ρ' F' g'.get h'.get d v a' w' → Q (.panic [{ v, recovered := false }]) a' w') →
    wpOps P ops Q (List.range' (off + i) rest.length) a w := by
  intro rest
  induction rest with
  | nil =>
    intro i g h ρ F a w r _ hr at_ hok _
    simp only [seqRun, Option.some.injEq] at hr
    exact hok g h hr.symm ρ F a w at_
  | cons o os ih =>
    intro i g h ρ F a w r hdr hr at_ hok hpnc
    have hoi : ds[i]? = some o := by
      have := congrArg (fun l => l[0]?) hdr
      simpa using this
    have hdr' : ds.drop (i + 1) = os := by
      have := congrArg (List.drop 1) hdr
      simpa [List.drop_drop] using this
    obtain ⟨⟨op, hop, hdig⟩, hN⟩ := hd i o hoi
    have hSo := hS o (List.mem_of_getElem? hoi)
    rw [List.length_cons, List.range'_succ, wpOps_cons]
    simp only [seqRun] at hr
    split at hr
    · cases hr
    · rename_i hs
      refine oper_at hΓ hop hdig at_ hs (fun t ht => by cases ht) hN hSo (fun _ ρ' F' a' w' at' => ?_) (fun hp => by simp [resPanics] at hp)
      simp only [resVal, resUpds, Hl.app] at at'
      rw [← EnvL.get_put] at at'
      exact ih hdr' hr at' hok hpnc
    · rename_i e hs
      split at hr
      · cases hr
      rename_i hfresh
      have hf : FreshOp o g.get h.get (some e) := fun t ht => freshN_at hfresh ht
      split at hr
      · rename_i v hv
        refine oper_at hΓ hop hdig at_ hs hf hN hSo (fun _ ρ' F' a' w' at' => ?_) (fun hp => by simp [resPanics, hv] at hp)
        simp only [resVal, hv, Out.dv, resUpds] at at'
        rw [← EnvL.get_put, ← Hl.get_upd] at at'
        exact ih hdr' hr at' hok hpnc
      · rename_i v hv
        cases hr
        refine oper_at hΓ hop hdig at_ hs hf hN hSo (fun hp => by simp [resPanics, hv] at hp) (fun _ ρ' F' x a' w' at' => ?_)
        simp only [resVal, hv, Out.dv, resUpds] at at'
        rw [← Hl.get_upd] at at'
        exact hpnc v _ _ rfl ρ' F' x a' w' at'
end
end Go.Di
