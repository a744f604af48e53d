/- Code: each point of a function is met. No condition. -/
import Derived.Test.YtaaacaejpchbpaaGreatDrawn2
set_option linter.unusedVariables false
set_option linter.unusedSimpArgs false
namespace Go.Proofs.YtaaacaejpchbpaaGreat
namespace Ab
open Go Go.RowKit
section
variable {P : Program} {w0 w : World} {E : Env} {N : Nat} {h : Heap} {φ : Map} {fr : Fr} {a : Act} {Q : Exit → Act → World → Prop} {r : Value × Heap}

def LoopGoes (P : Program) (c : Code) (Q : Exit → Act → World → Prop) (a : Act) (w : World) : Prop :=
  ∀ (b : Frame) (k : List Item) (cs : List Frame), ∃ e a' w', Q e a' w' ∧ Arrives P (lone (b.at a (.code c :: .inLoop c :: k)) cs w) b k cs e a' w'
theorem loop_wp {c : Code} (h : LoopGoes P c Q a w) : (Code.loop c).wp P Q a w := fun b k cs => by
  obtain ⟨e, a', w', hq, harr⟩ := h b k cs
  exact ⟨e, a', w', hq, .of_steps (.one step_loop) harr⟩
theorem loop_step {c : Code} (h : c.wp P (Exit.then (LoopGoes P c Q) Q) a w) : LoopGoes P c Q a w := fun b k cs => by
  obtain ⟨e, a₁, w₁, hq, harr⟩ := h b (.inLoop c :: k) cs
  cases e with
  | normal =>
    obtain ⟨e₂, a₂, w₂, hq₂, harr₂⟩ := hq b k cs
    exact ⟨e₂, a₂, w₂, hq₂, .of_steps (Steps.trans harr (.one step_inLoop)) harr₂⟩
  | exit id => exact ⟨_, a₁, w₁, hq, .pass (x := .inLoop c) rfl (fun _ _ => .inl (by simp)) harr⟩
  | goto l => exact ⟨_, a₁, w₁, hq, .pass (x := .inLoop c) rfl (fun _ _ => .inl (by simp)) harr⟩
  | ret => exact ⟨_, a₁, w₁, hq, .pass (x := .inLoop c) rfl (fun _ _ => .inl (by simp)) harr⟩
  | panic ch => exact ⟨_, a₁, w₁, hq, .pass (x := .inLoop c) rfl (fun _ _ => .inl (by simp)) harr⟩
  | outgrown => exact ⟨_, a₁, w₁, hq, .pass (x := .inLoop c) rfl (fun _ _ => .inl (by simp)) harr⟩
def wpL (P : Program) (c : Code) (Q : Exit → Act → World → Prop) (a : Act) (w : World) : Prop := match c with | .loop c => LoopGoes P c Q a w | c => c.wp P Q a w
theorem wpL_wp {c : Code} (h : wpL P c Q a w) : c.wp P Q a w := by
  cases c <;> first | exact loop_wp h | exact h

theorem At.drew (s : At w0 N φ fr h a w) : At w0 N φ fr h a { w with drawn := w.drawn + 1 } := ⟨s.f, s.n, s.d, s.r.drew⟩

theorem region_sim (hE : EOk P w0 E) {id : Nat} {ops : Array Oper} (hN : okOps N ops.toList = true) (s : At w0 N φ fr h a w) {ρ : Type} {r : ρ} {K : Fr → Heap → Option ρ}
    (hK : ∀ φ' fr' h' a' w', Grow h h' φ φ' → At w0 N φ' fr' h' a' w' → K fr' h' = some r → Q .normal a' w') (e : hops E ops.toList ops.toList fr h K = some r) : (Code.region id ops false).wp P Q a w := by
  have hN' : ∀ o ∈ ops.toList, ∀ d, o.dst = some d → d < N := fun o ho d hd => by
    have := List.all_eq_true.1 hN o ho
    simpa [hd] using this
  refine wp_region ?_
  have := hops_sim (r := r) hE hN' ops.toList 0 φ fr h a w (by simp) s hK e
  rw [List.range_eq_range']
  simpa using this
theorem drawn_sim (hm : P.follows .mixedOrders = true) (hE : EOk P w0 E) {id : Nat} {ops : Array Oper} (hN : okOps N ops.toList = true) (hD : okD ops.toList = true) (s : At w0 N φ fr h a w) {ρ : Type} {r : ρ} {K : Fr → Heap → Option ρ}
    (hK : ∀ φ' fr' h' a' w', Grow h h' φ φ' → At w0 N φ' fr' h' a' w' → K fr' h' = some r → Q .normal a' w')
    (e : hopsD E ops.toList (bef ops.toList) (canon ops.toList (bef ops.toList) ops.toList.length 0 (List.range ops.toList.length)) [] fr h K = some r) : (Code.region id ops true).wp P Q a w := by
  have hN' : ∀ o ∈ ops.toList, ∀ d, o.dst = some d → d < N := fun o ho d hd => by
    have := List.all_eq_true.1 hN o ho
    simpa [hd] using this
  refine wp_region_any hm ?_
  have hL : (fun k => (Array.replicate ops.size false).getD k false) = fun _ => false := by
    funext k
    rw [Array.getD_eq_getD_getElem?, Array.getElem?_replicate]
    split <;> rfl
  refine drawn_main (fr0 := fr) (h0 := h) (φ0 := φ) hE (order_of hD) hN' hK ops.size _ [] [] fr h _ a _ φ ?_ (by simp) ?_ e
  · rw [hL]
    exact ⟨by simp, rfl, fun j hj => (by cases hj), fun j hj => (by cases hj), s.drew, .same, fun l1 x l2 hd => (by simp at hd)⟩
  · rw [hL]
    unfold Left
    simpa using List.length_filter_le (fun _ => true) (List.range ops.size)

/- points and their contexts -/
def QStep (P : Program) (b : Bool) (c : Code) (Q : Exit → Act → World → Prop) : Exit → Act → World → Prop :=
  match c, b with
  | .seq _ y, false => Exit.then (y.wp P Q) Q
  | .block id _, _ => Exit.inBlock id Q
  | .loop c, _ => Exit.then (LoopGoes P c Q) Q
  | _, _ => Q
def Qdown (P : Program) : Nat → Nat → Code → (Exit → Act → World → Prop) → Exit → Act → World → Prop
  | 0, _, _, Q => Q
  | i + 1, p, c, Q => Qdown P i p (down (p.testBit i) c) (QStep P (p.testBit i) c Q)

theorem cDown_snoc (b : Bool) : ∀ (i p : Nat) (c : Code), cDown (i + 1) (2 * p + b.toNat) c = down b (cDown i p c)
  | 0, p, c => by
    have : (2 * p + b.toNat).testBit 0 = b := by cases b <;> simp [Nat.testBit_zero] <;> omega
    simp only [cDown, this]
  | i + 1, p, c => by
    have : (2 * p + b.toNat).testBit (i + 1) = p.testBit i := by
      rw [Nat.testBit_succ]
      congr 1
      cases b <;> simp <;> omega
    rw [show cDown (i + 1 + 1) (2 * p + b.toNat) c = cDown (i + 1) (2 * p + b.toNat) (down ((2 * p + b.toNat).testBit (i + 1)) c) from rfl, this, cDown_snoc b i p]
    rfl
theorem Qdown_snoc (b : Bool) : ∀ (i p : Nat) (c : Code) (Q : Exit → Act → World → Prop), Qdown P (i + 1) (2 * p + b.toNat) c Q = QStep P b (cDown i p c) (Qdown P i p c Q)
  | 0, p, c, Q => by
    have : (2 * p + b.toNat).testBit 0 = b := by cases b <;> simp [Nat.testBit_zero] <;> omega
    simp only [Qdown, cDown, this]
  | i + 1, p, c, Q => by
    have : (2 * p + b.toNat).testBit (i + 1) = p.testBit i := by
      rw [Nat.testBit_succ]
      congr 1
      cases b <;> simp <;> omega
    rw [show Qdown P (i + 1 + 1) (2 * p + b.toNat) c Q = Qdown P (i + 1) (2 * p + b.toNat) (down ((2 * p + b.toNat).testBit (i + 1)) c) (QStep P ((2 * p + b.toNat).testBit (i + 1)) c Q) from rfl, this, Qdown_snoc b i p]
    rfl
theorem log2_snoc {p : Nat} (hp : 1 ≤ p) (b : Bool) : (2 * p + b.toNat).log2 = p.log2 + 1 := by
  have h1 : (2 * p + b.toNat) / 2 = p := by cases b <;> simp <;> omega
  rw [Nat.log2_def, if_pos (by omega), h1]

/-- Point p of the body: its code and what stands round it. -/
structure Ctx (P : Program) (body : Code) (Q0 : Exit → Act → World → Prop) (p : Nat) (c : Code) (Q : Exit → Act → World → Prop) : Prop where
  p1 : 1 ≤ p
  c : cN p body = c
  q : Qdown P p.log2 p body Q0 = Q
theorem Ctx.down {body c : Code} {Q0 Q : Exit → Act → World → Prop} {p : Nat} (x : Ctx P body Q0 p c Q) (b : Bool) : Ctx P body Q0 (2 * p + b.toNat) (down b c) (QStep P b c Q) := by
  have hl := log2_snoc x.p1 b
  refine ⟨by have := x.p1; omega, ?_, ?_⟩
  · unfold cN
    rw [hl, cDown_snoc, ← x.c]; rfl
  · rw [hl, Qdown_snoc, ← x.q, ← x.c]; rfl

theorem getS_some {ρ : Type} {r : ρ} {fr : Fr} : ∀ {l : List (Nat × RK)} {K : List Value → Option ρ}, getS fr l K = some r → ∃ vs, K vs = some r ∧ ∀ t v, mkFr l vs t = some v → fr t = some v
  | [], K, e => ⟨[], e, fun t v h => by simp [mkFr] at h⟩
  | (s, k) :: l, K, e => by
    unfold getS at e
    split at e
    · rename_i v hv
      obtain ⟨vs, h1, h2⟩ := getS_some (K := fun r => K (v :: r)) (castRK_some e)
      refine ⟨v :: vs, h1, fun t u h => ?_⟩
      simp only [mkFr] at h
      split at h
      · rename_i q; rw [q, hv]; exact h
      · exact h2 t u h
    · cases e

variable {h0 : Heap} {φ0 : Map} {body : Code} {Q0 : Exit → Act → World → Prop}
def KOk (w0 : World) (N : Nat) (h0 : Heap) (φ0 : Map) (r : Value × Heap) (K : Kont) (Q : Exit → Act → World → Prop) : Prop :=
  ∀ e fr h φ a w, Grow h0 h φ0 φ → At w0 N φ fr h a w → K e fr h = some r → Q e a w
def JOk (P : Program) (w0 : World) (E : Env) (N : Nat) (h0 : Heap) (φ0 : Map) (r : Value × Heap) (body : Code) (Q0 : Exit → Act → World → Prop) : Prop :=
  ∀ p l c Q vs fr h φ a w, E.ann p = some l → Ctx P body Q0 p c Q → Grow h0 h φ0 φ → fr = mkFr l vs → At w0 N φ fr h a w → E.J p vs h = some r → wpL P c Q a w

theorem jump_sim (hJ : JOk P w0 E N h0 φ0 r body Q0) {p : Nat} {l : List (Nat × RK)} {c : Code} {Q : Exit → Act → World → Prop} (hl : E.ann p = some l) (x : Ctx P body Q0 p c Q) (g : Grow h0 h φ0 φ) (s : At w0 N φ fr h a w)
    (e : jump E p l fr h = some r) : wpL P c Q a w := by
  obtain ⟨vs, h1, h2⟩ := getS_some e
  exact hJ p l c Q vs _ h φ a w hl x g rfl ⟨fun t v ht => s.f t v (h2 t v ht), s.n, s.d, s.r⟩ h1
theorem enter_sim (hJ : JOk P w0 E N h0 φ0 r body Q0) {p : Nat} {c : Code} {Q : Exit → Act → World → Prop} (x : Ctx P body Q0 p c Q) (g : Grow h0 h φ0 φ) (s : At w0 N φ fr h a w) {go : Out} (hg : go = some r → wpL P c Q a w)
    (e : enter E p fr h go = some r) : wpL P c Q a w := by
  unfold enter at e
  split at e
  · exact hg e
  · rename_i l hl
    exact jump_sim hJ hl x g s e

theorem hc_sim (hm : P.follows .mixedOrders = true) (hE : EOk P w0 E) (hJ : JOk P w0 E N h0 φ0 r body Q0) : ∀ (c : Code) (p : Nat) (Q : Exit → Act → World → Prop) (K : Kont) (fr : Fr) (h : Heap) (φ : Map) (a : Act) (w : World),
    Ctx P body Q0 p c Q → okCode N c = true → KOk w0 N h0 φ0 r K Q → Grow h0 h φ0 φ → At w0 N φ fr h a w → hc E c p fr h K = some r → wpL P c Q a w := by
  intro c
  induction c with
  | skip => intro p Q K fr h φ a w x hk hK g s e; exact wp_skip (hK _ _ _ _ _ _ g s e)
  | seq y z ihy ihz =>
    intro p Q K fr h φ a w x hk hK g s e
    simp only [okCode, Bool.and_eq_true] at hk
    have x1 := x.down false
    have x2 := x.down true
    refine wp_seq (wpL_wp (enter_sim hJ x1 g s ?_ e))
    intro e1
    refine ihy _ _ _ fr h φ a w x1 hk.1 ?_ g s e1
    intro ex fr' h' φ' a' w' g' s' e2
    cases ex with
    | normal => exact wpL_wp (enter_sim hJ x2 g' s' (fun e3 => ihz _ _ _ fr' h' φ' a' w' x2 hk.2 hK g' s' e3) e2)
    | _ => exact hK _ _ _ _ _ _ g' s' e2
  | cond v y z ihy ihz =>
    intro p Q K fr h φ a w x hk hK g s e
    simp only [okCode, Bool.and_eq_true] at hk
    have x1 := x.down false
    have x2 := x.down true
    unfold hc at e
    obtain ⟨u, hu, e1⟩ := ev_sim s.f e
    obtain ⟨b, rfl, e2⟩ := cB_some e1
    rcases cond_some e2 with ⟨rfl, e3⟩ | ⟨rfl, e3⟩
    · exact wp_cond_true hu.toBool (wpL_wp (enter_sim hJ x1 g s (fun e4 => ihy _ _ _ fr h φ a w x1 hk.1 hK g s e4) e3))
    · exact wp_cond_false hu.toBool (wpL_wp (enter_sim hJ x2 g s (fun e4 => ihz _ _ _ fr h φ a w x2 hk.2 hK g s e4) e3))
  | block id y ih =>
    intro p Q K fr h φ a w x hk hK g s e
    have x1 := x.down false
    refine wp_block (wpL_wp (enter_sim hJ x1 g s (fun e4 => ih _ _ _ fr h φ a w x1 hk ?_ g s e4) e))
    intro ex fr' h' φ' a' w' g' s' e2
    cases ex with
    | exit i =>
      simp only [kBlk] at e2
      simp only [QStep, Exit.inBlock]
      by_cases q : i = id
      · subst q
        simp only [beq_self_eq_true] at e2
        rw [if_pos rfl]
        exact hK _ _ _ _ _ _ g' s' e2
      · have : (i == id) = false := by simpa using q
        rw [this] at e2
        rw [if_neg q]
        exact hK _ _ _ _ _ _ g' s' e2
    | _ => exact hK _ _ _ _ _ _ g' s' e2
  | loop y ih =>
    intro p Q K fr h φ a w x hk hK g s e
    have x1 := x.down false
    refine loop_step (wpL_wp (enter_sim hJ x1 g s (fun e4 => ih _ _ _ fr h φ a w x1 hk ?_ g s e4) e))
    intro ex fr' h' φ' a' w' g' s' e2
    cases ex with
    | normal =>
      simp only [kLoop] at e2
      split at e2
      · rename_i l hl
        exact jump_sim hJ hl x g' s' e2
      · cases e2
    | _ => exact hK _ _ _ _ _ _ g' s' e2
  | region id ops d =>
    intro p Q K fr h φ a w x hk hK g s e
    simp only [okCode, Bool.and_eq_true] at hk
    cases d
    · exact region_sim hE hk.1 s (fun φ' fr' h' a' w' g' s' e' => hK _ _ _ _ _ _ (g.trans g') s' e') e
    · exact drawn_sim hm hE hk.1 hk.2 s (fun φ' fr' h' a' w' g' s' e' => hK _ _ _ _ _ _ (g.trans g') s' e') e
  | exit id => intro p Q K fr h φ a w x hk hK g s e; exact wp_exit (hK _ _ _ _ _ _ g s e)
  | ret => intro p Q K fr h φ a w x hk hK g s e; exact wp_ret (hK _ _ _ _ _ _ g s e)
  | _ => intros; rename_i e; simp [hc] at e

theorem shift_bit (p i : Nat) : p >>> i = 2 * (p >>> (i + 1)) + (p.testBit i).toNat := by
  rw [Nat.shiftRight_succ, Nat.testBit_eq_decide_div_mod_eq, ← Nat.shiftRight_eq_div_pow]
  have := Nat.div_add_mod (p >>> i) 2
  rcases Nat.mod_two_eq_zero_or_one (p >>> i) with q | q <;> simp [q] <;> omega
theorem Qdown_skip : ∀ (i p : Nat) (Q : Exit → Act → World → Prop), Qdown P i p .skip Q = Q
  | 0, p, Q => rfl
  | i + 1, p, Q => by
    have : down (p.testBit i) .skip = .skip := by cases p.testBit i <;> rfl
    rw [Qdown, this]
    have h2 : QStep P (p.testBit i) .skip Q = Q := by cases p.testBit i <;> rfl
    rw [h2]; exact Qdown_skip i p Q
theorem kDown_ok (hm : P.follows .mixedOrders = true) (hE : EOk P w0 E) (hJ : JOk P w0 E N h0 φ0 r body Q0) : ∀ (i p : Nat) (c : Code) (Q : Exit → Act → World → Prop) (K : Kont), Ctx P body Q0 (p >>> i) c Q → okCode N c = true → KOk w0 N h0 φ0 r K Q →
    KOk w0 N h0 φ0 r (kDown E i p c K) (Qdown P i p c Q)
  | 0, p, c, Q, K, x, hk, hK => hK
  | i + 1, p, c, Q, K, x, hk, hK => by
    have xb := x.down (p.testBit i)
    rw [← shift_bit] at xb
    simp only [Qdown]
    cases c with
    | seq y z =>
      simp only [okCode, Bool.and_eq_true] at hk
      simp only [kDown]
      cases hb : p.testBit i
      · rw [hb] at xb
        refine kDown_ok hm hE hJ i p y _ _ xb hk.1 ?_
        intro ex fr' h' φ' a' w' g' s' e2
        cases ex with
        | normal => exact wpL_wp (enter_sim hJ (x.down true) g' s' (fun e3 => hc_sim hm hE hJ z _ _ _ fr' h' φ' a' w' (x.down true) hk.2 hK g' s' e3) e2)
        | _ => exact hK _ _ _ _ _ _ g' s' e2
      · rw [hb] at xb
        exact kDown_ok hm hE hJ i p z _ _ xb hk.2 hK
    | cond v y z =>
      simp only [okCode, Bool.and_eq_true] at hk
      simp only [kDown]
      cases hb : p.testBit i
      · rw [hb] at xb
        exact kDown_ok hm hE hJ i p y _ _ xb hk.1 hK
      · rw [hb] at xb
        exact kDown_ok hm hE hJ i p z _ _ xb hk.2 hK
    | block id y =>
      simp only [kDown]
      have hd : down (p.testBit i) (.block id y) = y := by cases p.testBit i <;> rfl
      rw [hd] at xb ⊢
      refine kDown_ok hm hE hJ i p y _ _ xb hk ?_
      intro ex fr' h' φ' a' w' g' s' e2
      have hq : QStep P (p.testBit i) (.block id y) Q = Exit.inBlock id Q := by cases p.testBit i <;> rfl
      rw [hq]
      cases ex with
      | exit j =>
        simp only [kBlk] at e2
        simp only [Exit.inBlock]
        by_cases q : j = id
        · subst q
          simp only [beq_self_eq_true] at e2
          rw [if_pos rfl]
          exact hK _ _ _ _ _ _ g' s' e2
        · have : (j == id) = false := by simpa using q
          rw [this] at e2
          rw [if_neg q]
          exact hK _ _ _ _ _ _ g' s' e2
      | _ => exact hK _ _ _ _ _ _ g' s' e2
    | loop y =>
      simp only [kDown]
      have hd : down (p.testBit i) (.loop y) = y := by cases p.testBit i <;> rfl
      rw [hd] at xb ⊢
      refine kDown_ok hm hE hJ i p y _ _ xb hk ?_
      intro ex fr' h' φ' a' w' g' s' e2
      have hq : QStep P (p.testBit i) (.loop y) Q = Exit.then (LoopGoes P y Q) Q := by cases p.testBit i <;> rfl
      rw [hq]
      cases ex with
      | normal =>
        simp only [kLoop] at e2
        split at e2
        · rename_i l hl
          exact jump_sim hJ hl x g' s' e2
        · cases e2
      | _ => exact hK _ _ _ _ _ _ g' s' e2
    | _ =>
      cases p.testBit i <;> simp only [kDown, down, Qdown_skip, QStep] <;> exact hK
end
end Ab
end Go.Proofs.YtaaacaejpchbpaaGreat
