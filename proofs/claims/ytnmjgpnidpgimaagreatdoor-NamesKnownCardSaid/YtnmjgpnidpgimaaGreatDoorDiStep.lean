/- Steps of memory: a new object, an object turned, rows that become persistent. -/
import Derived.Test.YtnmjgpnidpgimaaGreatDoorDiOps
namespace Go.Di
open Go.RowKit
set_option linter.unusedSectionVars false

def Hp.set (h : Hp) (t : Tok) (o : AObj) : Hp := fun u => if u = t then some o else h u
def Rho.set (ρ : Rho) (t : Tok) (b : Option Nat) : Rho := fun u => if u = t then b else ρ u

def Hl.app : Hl → Hp → Hp
  | [], h => h
  | (t, o) :: l, h => Hl.app l (h.set t o)

theorem Hl.app_append (a b : Hl) (h : Hp) : Hl.app (a ++ b) h = Hl.app b (Hl.app a h) := by
  induction a generalizing h with
  | nil => rfl
  | cons x xs ih => obtain ⟨t, o⟩ := x; simp [Hl.app, ih]

theorem Hp.set_same (h : Hp) (t o) : (h.set t o) t = some o := by simp [Hp.set]
theorem Hp.set_ne (h : Hp) {t u : Tok} (o) (hn : u ≠ t) : (h.set t o) u = h u := by simp [Hp.set, hn]
theorem Hp.len?_set_ne (h : Hp) {t u : Tok} (o) (hn : u ≠ t) : (h.set t o).len? u = h.len? u := by simp [Hp.len?, Hp.set_ne h o hn]
theorem Rho.set_same (ρ : Rho) (t b) : (ρ.set t b) t = b := by simp [Rho.set]
theorem Rho.set_ne (ρ : Rho) {t u : Tok} (b) (hn : u ≠ t) : (ρ.set t b) u = ρ u := by simp [Rho.set, hn]

structure Good (W0 : World) (T : Tok → Prop) (ρ : Rho) (F : Nat → Prop) (h : Hp) (w : World) (ρ' : Rho) (F' : Nat → Prop) (h' : Hp) (w' : World) : Prop where
  rel : Rel W0 ρ' F' h' w'
  keep : Keep T ρ F h w ρ' F' h' w'
  ext : Ext ρ F h w ρ' F' h' w'

theorem Good.refl {W0 T ρ F h w} (r : Rel W0 ρ F h w) : Good W0 T ρ F h w ρ F h w := ⟨r, Keep.refl .., Ext.refl ..⟩
theorem Good.trans {W0 T ρ F h w ρ1 F1 h1 w1 ρ2 F2 h2 w2} (a : Good W0 T ρ F h w ρ1 F1 h1 w1) (b : Good W0 T ρ1 F1 h1 w1 ρ2 F2 h2 w2) : Good W0 T ρ F h w ρ2 F2 h2 w2 :=
  ⟨b.rel, a.keep.trans b.keep, a.ext.trans b.ext⟩
theorem Good.weaken {W0 T T' ρ F h w ρ1 F1 h1 w1} (a : Good W0 T ρ F h w ρ1 F1 h1 w1) (hT : ∀ t, T' t → T t) : Good W0 T' ρ F h w ρ1 F1 h1 w1 :=
  ⟨a.rel, a.keep.weaken hT, a.ext⟩

theorem RepM.keep {T ρ F h w ρ' F' h' w'} (k : Keep T ρ F h w ρ' F' h' w') : ∀ {l : List (Value × DV × Nat)} {es : List MapEntry}, (∀ t ∈ toksE l, T t) → RepM ρ F h w l es → RepM ρ' F' h' w' l es
  | [], _, _, hr => by simpa [RepM] using hr
  | (key, d, n) :: l, es, ht, hr => by
    simp only [RepM] at *
    obtain ⟨e, r, h1, h2, h3, h4, h5⟩ := hr
    exact ⟨e, r, h1, h2, h3, RepV.keep k d _ (fun t h => ht t (by simp [toksE, h])) h4, RepM.keep k (fun t h => ht t (by simp [toksE, h])) h5⟩

/-- An object that was not touched. -/
theorem RepO.keep {T ρ F h w ρ' F' h' w'} (k : Keep T ρ F h w ρ' F' h' w') {t : Tok} {o : AObj} (hρ : ρ' t = ρ t)
    (hb : ∀ b, ρ t = some b → owns o = true → w'.heap[b]? = w.heap[b]?) (hT : ∀ u ∈ o.toks, T u) (hr : RepO ρ F h w t o) : RepO ρ' F' h' w' t o := by
  have hcl : ∀ {xs : List DV}, closedL xs = true → ∀ u ∈ toksL xs, T u := fun hc u hu => by rw [toksL_closed _ hc] at hu; cases hu
  cases o with
  | cells ty cs =>
    simp only [RepO] at *
    obtain ⟨b, arr, h1, h2, h3, h4⟩ := hr
    exact ⟨b, arr, hρ.trans h1, (hb b h1 rfl).trans h2, h3, RepL.keep k cs _ hT h4⟩
  | row ty sz xs =>
    simp only [RepO] at *
    obtain ⟨h0, h1, h2, h3⟩ := hr
    refine ⟨h0, h1, h2, ?_⟩
    rcases h3 with ⟨h3, h4⟩ | ⟨b, arr, h3, h4, h5, h6⟩
    · exact .inl ⟨h3, hρ.trans h4⟩
    · exact .inr ⟨b, arr, hρ.trans h3, (hb b h3 rfl).trans h4, h5, RepE.keep k sz xs b 0 (hcl h0) (hb b h3 rfl) h6⟩
  | frz ty sz xs =>
    simp only [RepO] at *
    obtain ⟨h0, h1, h2, hF, h3⟩ := hr
    refine ⟨h0, h1, h2, fun b hb => k.imp _ (hF b (by rw [← hρ]; exact hb)), fun hn => ?_⟩
    obtain ⟨b, h4, h6⟩ := h3 hn
    exact ⟨b, hρ.trans h4, RepE.keep k sz xs b 0 (hcl h0) (k.blk _ (hF b h4)) h6⟩
  | mp es c =>
    simp only [RepO] at *
    obtain ⟨b, arr, h1, h2, h3⟩ := hr
    exact ⟨b, arr, hρ.trans h1, (hb b h1 rfl).trans h2, RepM.keep k hT h3⟩
  | sit s pos =>
    simp only [RepO] at *
    obtain ⟨b, h1, h2⟩ := hr
    exact ⟨b, hρ.trans h1, (hb b h1 rfl).trans h2⟩

theorem alloc_old (w : World) (o : Obj) {b : Nat} (hb : b < w.heap.size) : (w.alloc o).heap[b]? = w.heap[b]? := Below.heap_alloc w o b hb
theorem alloc_new (w : World) (o : Obj) : (w.alloc o).heap[w.heap.size]? = some o := by
  show (w.heap.push o)[w.heap.size]? = _
  simp
theorem capOk_lt {w : World} {b n : Nat} (h : CapOk w b n) : b < w.heap.size := by
  obtain ⟨arr, ty, h1, _⟩ := h
  exact (Array.getElem?_eq_some_iff.1 h1).1
theorem capOk_of {w w' : World} {b n : Nat} (hb : w'.heap[b]? = w.heap[b]?) (h : CapOk w b n) : CapOk w' b n := by
  obtain ⟨arr, ty, h1, h2⟩ := h
  exact ⟨arr, ty, hb.trans h1, h2⟩

theorem own_lt {W0 ρ F h w} (r : Rel W0 ρ F h w) {b : Nat} (hb : Own ρ h b) : b < w.heap.size := by
  obtain ⟨t, o, h1, h2, h3⟩ := hb
  have ho := r.obj t o h1
  have lt : ∀ {x : Obj}, w.heap[b]? = some x → b < w.heap.size := fun hx => (Array.getElem?_eq_some_iff.1 hx).1
  cases o with
  | cells ty cs => simp only [RepO] at ho; obtain ⟨b', arr, h4, h5, _⟩ := ho; rw [h3] at h4; cases h4; exact lt h5
  | row ty sz xs =>
    simp only [RepO] at ho
    rcases ho.2.2.2 with ⟨_, h4⟩ | ⟨b', arr, h4, h5, _⟩
    · rw [h3] at h4; cases h4
    · rw [h3] at h4; cases h4; exact lt h5
  | frz ty sz xs => simp [owns] at h2
  | mp es c => simp only [RepO] at ho; obtain ⟨b', arr, h4, h5, _⟩ := ho; rw [h3] at h4; cases h4; exact lt h5
  | sit s pos => simp only [RepO] at ho; obtain ⟨b', h4, h5⟩ := ho; rw [h3] at h4; cases h4; exact lt h5

/-! ## A new object -/
section
variable {W0 : World} {T : Tok → Prop} {ρ : Rho} {F : Nat → Prop} {h : Hp} {w : World}

theorem keep_new (r : Rel W0 ρ F h w) (t : Tok) (o : AObj) (ob : Obj) :
    Keep (· ≠ t) ρ F h w (ρ.set t (some w.heap.size)) F (h.set t o) (w.alloc ob) where
  imp := fun _ h => h
  blk := fun b hb => alloc_old w ob (r.fin b hb)
  non := fun u hu hn => by
    rw [Hp.len?_set_ne h o hu] at hn
    exact ⟨hn, fun b hb => by rw [Rho.set_ne ρ _ hu]; exact hb⟩
  row := fun u m hu hm => by
    rw [Hp.len?_set_ne h o hu] at hm
    exact ⟨m, hm, Nat.le_refl _, fun _ b hb => ⟨by rw [Rho.set_ne ρ _ hu]; exact hb, fun k hk => capOk_of (alloc_old w ob (capOk_lt hk)) hk⟩⟩

theorem good_new (r : Rel W0 ρ F h w) {t : Tok} {o : AObj} {ob : Obj} (hT : ∀ u, T u → u ≠ t) (hfr : ∀ u o', u ≠ t → h u = some o' → t ∉ o'.toks)
    (ho : RepO (ρ.set t (some w.heap.size)) F (h.set t o) (w.alloc ob) t o) :
    Good W0 T ρ F h w (ρ.set t (some w.heap.size)) F (h.set t o) (w.alloc ob) := by
  have k := keep_new r t o ob
  have own' : ∀ b, Own (ρ.set t (some w.heap.size)) (h.set t o) b → b = w.heap.size ∨ ∃ u o', u ≠ t ∧ h u = some o' ∧ owns o' = true ∧ ρ u = some b := by
    rintro b ⟨u, o', h1, h2, h3⟩
    by_cases hu : u = t
    · subst hu; rw [Rho.set_same] at h3; exact .inl (Option.some.inj h3).symm
    · rw [Hp.set_ne h o hu] at h1; rw [Rho.set_ne ρ _ hu] at h3; exact .inr ⟨u, o', hu, h1, h2, h3⟩
  have rel : Rel W0 (ρ.set t (some w.heap.size)) F (h.set t o) (w.alloc ob) := by
    refine ⟨fun b hb => ?_, fun u o' hu => ?_, fun b hb => ?_, fun b hb => ?_, ?_⟩
    · obtain ⟨h1, h2⟩ := r.base b hb
      exact ⟨h1, (alloc_old w ob (r.fin b h1)).trans h2⟩
    · by_cases e : u = t
      · subst e; rw [Hp.set_same] at hu; cases hu; exact ho
      · rw [Hp.set_ne h o e] at hu
        refine RepO.keep k (Rho.set_ne ρ _ e) (fun b hb hw => alloc_old w ob (own_lt r ⟨u, o', hu, hw, hb⟩)) (fun x hx hxt => ?_) (r.obj u o' hu)
        subst hxt; exact hfr u o' e hu hx
    · have := r.fin b hb; simp; omega
    · rcases own' b hb with rfl | ⟨u, o', _, h1, h2, h3⟩
      · exact fun hF => Nat.lt_irrefl _ (r.fin _ hF)
      · exact r.sep b ⟨u, o', h1, h2, h3⟩
    · intro u o1 u' o2 b h1 h2 h3 h4 h5 h6
      by_cases e : u = t <;> by_cases e' : u' = t
      · rw [e, e']
      · rw [e, Rho.set_same] at h5
        rw [Hp.set_ne h o e'] at h3; rw [Rho.set_ne ρ _ e'] at h6
        have := own_lt r ⟨u', o2, h3, h4, h6⟩
        have := Option.some.inj h5
        omega
      · rw [e', Rho.set_same] at h6
        rw [Hp.set_ne h o e] at h1; rw [Rho.set_ne ρ _ e] at h5
        have := own_lt r ⟨u, o1, h1, h2, h5⟩
        have := Option.some.inj h6
        omega
      · rw [Hp.set_ne h o e] at h1; rw [Rho.set_ne ρ _ e] at h5
        rw [Hp.set_ne h o e'] at h3; rw [Rho.set_ne ρ _ e'] at h6
        exact r.inj u o1 u' o2 b h1 h2 h3 h4 h5 h6
  refine ⟨rel, k.weaken hT, ⟨rfl, rfl, rfl, by simp, fun b hb _ => alloc_old w ob hb, fun _ h => h, fun _ _ h => .inl h, fun b hb ho => ?_⟩⟩
  rcases own' b ho with rfl | ⟨u, o', _, h1, h2, h3⟩
  · omega
  · exact ⟨u, o', h1, h2, h3⟩

/-! ## A row that has no memory yet -/
theorem keep_virt (t : Tok) (o : AObj) : Keep (· ≠ t) ρ F h w (ρ.set t none) F (h.set t o) w where
  imp := fun _ h => h
  blk := fun _ _ => rfl
  non := fun u hu hn => by
    rw [Hp.len?_set_ne h o hu] at hn
    exact ⟨hn, fun b hb => by rw [Rho.set_ne ρ _ hu]; exact hb⟩
  row := fun u m hu hm => by
    rw [Hp.len?_set_ne h o hu] at hm
    exact ⟨m, hm, Nat.le_refl _, fun _ b hb => ⟨by rw [Rho.set_ne ρ _ hu]; exact hb, fun k hk => hk⟩⟩

theorem good_virt (r : Rel W0 ρ F h w) {t : Tok} {ty : TypeId} {sz : Nat} (hsz : 0 < sz) (hT : ∀ u, T u → u ≠ t) (hfr : ∀ u o', u ≠ t → h u = some o' → t ∉ o'.toks) :
    Good W0 T ρ F h w (ρ.set t none) F (h.set t (.row ty sz [])) w := by
  have k := keep_virt (ρ := ρ) (F := F) (h := h) (w := w) t (.row ty sz [])
  have own' : ∀ b, Own (ρ.set t none) (h.set t (.row ty sz [])) b → ∃ u o', u ≠ t ∧ h u = some o' ∧ owns o' = true ∧ ρ u = some b := by
    rintro b ⟨u, o', h1, h2, h3⟩
    by_cases hu : u = t
    · subst hu; rw [Rho.set_same] at h3; cases h3
    · rw [Hp.set_ne h _ hu] at h1; rw [Rho.set_ne ρ _ hu] at h3; exact ⟨u, o', hu, h1, h2, h3⟩
  refine ⟨⟨r.base, fun u o' hu => ?_, r.fin, fun b hb => ?_, ?_⟩, k.weaken hT, ⟨rfl, rfl, rfl, Nat.le_refl _, fun b hb _ => rfl, fun _ h => h, fun _ _ h => .inl h, fun b hb ho => ?_⟩⟩
  · by_cases e : u = t
    · subst e; rw [Hp.set_same] at hu; cases hu
      show closedL [] = true ∧ _
      exact ⟨rfl, (fun d hd => by cases hd), hsz, .inl ⟨rfl, Rho.set_same ..⟩⟩
    · rw [Hp.set_ne h _ e] at hu
      refine RepO.keep k (Rho.set_ne ρ _ e) (fun b hb hw => rfl) (fun x hx hxt => ?_) (r.obj u o' hu)
      subst hxt; exact hfr u o' e hu hx
  · obtain ⟨u, o', _, h1, h2, h3⟩ := own' b hb
    exact r.sep b ⟨u, o', h1, h2, h3⟩
  · intro u o1 u' o2 b h1 h2 h3 h4 h5 h6
    by_cases e : u = t
    · rw [e, Rho.set_same] at h5; cases h5
    · by_cases e' : u' = t
      · rw [e', Rho.set_same] at h6; cases h6
      · rw [Hp.set_ne h _ e] at h1; rw [Rho.set_ne ρ _ e] at h5
        rw [Hp.set_ne h _ e'] at h3; rw [Rho.set_ne ρ _ e'] at h6
        exact r.inj u o1 u' o2 b h1 h2 h3 h4 h5 h6
  · obtain ⟨u, o', _, h1, h2, h3⟩ := own' b ho
    exact ⟨u, o', h1, h2, h3⟩

/-! ## An object turned in its own block -/
/-- What is asked of the new object beside the old one: rows only grow in place, and keep their room. -/
theorem keep_upd (r : Rel W0 ρ F h w) {t : Tok} {o o' : AObj} {b : Nat} {w' : World} (hold : h t = some o) (hown : owns o = true) (hρ : ρ t = some b)
    (hn : o'.len? = none → o.len? = none) (hlen : ∀ m', o'.len? = some m' → ∃ m, o.len? = some m ∧ m ≤ m')
    (hcap : ∀ k, CapOk w b k → CapOk w' b k) (hfar : ∀ c, c ≠ b → w'.heap[c]? = w.heap[c]?) :
    Keep (fun _ => True) ρ F h w ρ F (h.set t o') w' where
  imp := fun _ h => h
  blk := fun c hc => hfar c fun e => r.sep b ⟨t, o, hold, hown, hρ⟩ (e ▸ hc)
  non := fun u _ hu => by
    by_cases e : u = t
    · subst e
      simp only [Hp.len?, Hp.set_same, Option.bind_some] at hu
      exact ⟨by simp [Hp.len?, hold, hn hu], fun _ h => h⟩
    · rw [Hp.len?_set_ne h o' e] at hu; exact ⟨hu, fun _ h => h⟩
  row := fun u m hu hm => by
    have cap : ∀ c k, CapOk w c k → CapOk w' c k := fun c k hk => by
      by_cases e : c = b
      · subst e; exact hcap k hk
      · exact capOk_of (hfar c e) hk
    by_cases e : u = t
    · subst e
      simp only [Hp.len?, Hp.set_same, Option.bind_some] at hm
      obtain ⟨m0, h1, h2⟩ := hlen m hm
      exact ⟨m0, by simp [Hp.len?, hold, h1], h2, fun _ c hc => ⟨hc, cap c⟩⟩
    · rw [Hp.len?_set_ne h o' e] at hm
      exact ⟨m, hm, Nat.le_refl _, fun _ c hc => ⟨hc, cap c⟩⟩

theorem good_upd (r : Rel W0 ρ F h w) {t : Tok} {o o' : AObj} {b : Nat} {w' : World} (hold : h t = some o) (hown : owns o = true) (hρ : ρ t = some b)
    (hn : o'.len? = none → o.len? = none) (hlen : ∀ m', o'.len? = some m' → ∃ m, o.len? = some m ∧ m ≤ m')
    (hcap : ∀ k, CapOk w b k → CapOk w' b k) (hfar : ∀ c, c ≠ b → w'.heap[c]? = w.heap[c]?) (hsz : w'.heap.size = w.heap.size)
    (hos : w'.os = w.os) (htape : w'.tape = w.tape) (hout : w'.output = w.output)
    (ho : RepO ρ F (h.set t o') w' t o') : Good W0 T ρ F h w ρ F (h.set t o') w' := by
  have k := keep_upd r hold hown hρ hn hlen hcap hfar
  have hb : Own ρ h b := ⟨t, o, hold, hown, hρ⟩
  have own' : ∀ c, Own ρ (h.set t o') c → Own ρ h c := by
    rintro c ⟨u, o1, h1, h2, h3⟩
    by_cases e : u = t
    · subst e; exact ⟨u, o, hold, hown, h3⟩
    · rw [Hp.set_ne h o' e] at h1; exact ⟨u, o1, h1, h2, h3⟩
  have old : ∀ u o1, (h.set t o') u = some o1 → owns o1 = true → ∃ o2, h u = some o2 ∧ owns o2 = true := fun u o1 h1 h2 => by
    by_cases e : u = t
    · subst e; exact ⟨o, hold, hown⟩
    · rw [Hp.set_ne h o' e] at h1; exact ⟨o1, h1, h2⟩
  refine ⟨⟨fun c hc => ?_, fun u o1 hu => ?_, fun c hc => by rw [hsz]; exact r.fin c hc, fun c hc => r.sep c (own' c hc), ?_⟩, k.weaken fun _ _ => trivial,
    ⟨hos, htape, hout, by omega, fun c hc hnot => hfar c fun e => hnot (e ▸ hb), fun _ h => h, fun _ _ h => .inl h, fun c _ h => own' c h⟩⟩
  · obtain ⟨h1, h2⟩ := r.base c hc
    exact ⟨h1, (k.blk c h1).trans h2⟩
  · by_cases e : u = t
    · subst e; rw [Hp.set_same] at hu; cases hu; exact ho
    · rw [Hp.set_ne h o' e] at hu
      refine RepO.keep k rfl (fun c hc hw => hfar c fun ec => e ?_) (fun _ _ => trivial) (r.obj u o1 hu)
      exact r.inj u o1 t o c hu hw hold hown hc (ec ▸ hρ)
  · intro u o1 u' o2 c h1 h2 h3 h4 h5 h6
    obtain ⟨o3, h7, h8⟩ := old u o1 h1 h2
    obtain ⟨o4, h9, h10⟩ := old u' o2 h3 h4
    exact r.inj u o3 u' o4 c h7 h8 h9 h10 h5 h6

/-! ## A row that becomes persistent -/
theorem good_frz (r : Rel W0 ρ F h w) {t : Tok} {ty : TypeId} {sz : Nat} {xs : List DV} (hold : h t = some (.row ty sz xs)) :
    Good W0 T ρ F h w ρ (fun b => F b ∨ ρ t = some b) (h.set t (.frz ty sz xs)) w := by
  have ho := r.obj t _ hold
  simp only [RepO] at ho
  obtain ⟨h0, h1, h2, h3⟩ := ho
  have len : ∀ u, (h.set t (.frz ty sz xs)).len? u = h.len? u := fun u => by
    by_cases e : u = t
    · subst e; simp [Hp.len?, Hp.set_same, hold, AObj.len?]
    · exact Hp.len?_set_ne h _ e
  have k : Keep (fun _ => True) ρ F h w ρ (fun b => F b ∨ ρ t = some b) (h.set t (.frz ty sz xs)) w :=
    ⟨fun _ h => .inl h, fun _ _ => rfl, fun u _ hu => ⟨by rw [len] at hu; exact hu, fun _ h => h⟩,
      fun u m _ hm => ⟨m, by rw [len] at hm; exact hm, Nat.le_refl _, fun _ _ hb => ⟨hb, fun _ hk => hk⟩⟩⟩
  have own' : ∀ c, Own ρ (h.set t (.frz ty sz xs)) c → ∃ u o, u ≠ t ∧ h u = some o ∧ owns o = true ∧ ρ u = some c := by
    rintro c ⟨u, o1, h4, h5, h6⟩
    by_cases e : u = t
    · subst e; rw [Hp.set_same] at h4; cases h4; simp [owns] at h5
    · rw [Hp.set_ne h _ e] at h4; exact ⟨u, o1, e, h4, h5, h6⟩
  refine ⟨⟨fun b hb => ⟨.inl (r.base b hb).1, (r.base b hb).2⟩, fun u o1 hu => ?_, fun b hb => ?_, fun b hb => ?_, ?_⟩, k.weaken fun _ _ => trivial,
    ⟨rfl, rfl, rfl, Nat.le_refl _, fun _ _ _ => rfl, fun _ h => .inl h, fun b _ hb => ?_, fun b _ hb => ?_⟩⟩
  · by_cases e : u = t
    · subst e; rw [Hp.set_same] at hu; cases hu
      simp only [RepO]
      refine ⟨h0, h1, h2, fun b hb => .inr hb, fun hn => ?_⟩
      rcases h3 with ⟨h4, _⟩ | ⟨b, arr, h4, h5, h6, h7⟩
      · exact absurd h4 hn
      · exact ⟨b, h4, RepE.keep k sz xs b 0 (fun _ _ => trivial) rfl h7⟩
    · rw [Hp.set_ne h _ e] at hu
      exact RepO.keep k rfl (fun _ _ _ => rfl) (fun _ _ => trivial) (r.obj u o1 hu)
  · rcases hb with hb | hb
    · exact r.fin b hb
    · exact own_lt r ⟨t, _, hold, rfl, hb⟩
  · obtain ⟨u, o, h4, h5, h6, h7⟩ := own' b hb
    rintro (hF | hF)
    · exact r.sep b ⟨u, o, h5, h6, h7⟩ hF
    · exact h4 (r.inj u o t _ b h5 h6 hold rfl h7 hF)
  · intro u o1 u' o2 c h4 h5 h6 h7 h8 h9
    by_cases e : u = t
    · subst e; rw [Hp.set_same] at h4; cases h4; simp [owns] at h5
    · by_cases e' : u' = t
      · subst e'; rw [Hp.set_same] at h6; cases h6; simp [owns] at h7
      · rw [Hp.set_ne h _ e] at h4; rw [Hp.set_ne h _ e'] at h6
        exact r.inj u o1 u' o2 c h4 h5 h6 h7 h8 h9
  · rcases hb with hb | hb
    · exact .inl hb
    · exact .inr ⟨t, _, hold, rfl, hb⟩
  · obtain ⟨u, o, _, h5, h6, h7⟩ := own' b hb
    exact ⟨u, o, h5, h6, h7⟩
end
end Go.Di
