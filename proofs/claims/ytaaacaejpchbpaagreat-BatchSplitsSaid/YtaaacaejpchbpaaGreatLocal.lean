/- A call that only reads what was there, and gives back plain data, may be run over a heap of its own: what was there stays as it was. No condition. -/
import Derived.Test.YtaaacaejpchbpaaGreatRun
set_option linter.unusedVariables false
set_option linter.unusedSimpArgs false
namespace Go.Proofs.YtaaacaejpchbpaaGreat
namespace Ab
open Go Go.RowKit

/-- Plain data: nothing that points. -/
def okB : Value → Bool
  | .agg a => a.toList.all okA
  | v => okA v
def flat : Value → Bool
  | .tuple a => a.toList.all okB
  | v => okB v
section
variable {φ ψ : Map}
theorem okA_eq {v v' : Value} (h : okA v = true) (r : VR φ v v') : v' = v := by
  cases r <;> simp [okA] at h <;> rfl
theorem okAs_eq : ∀ {l l' : List Value}, l.all okA = true → VRs φ l l' → l' = l
  | _, _, _, .nil => rfl
  | _, _, h, .cons a t => by
    simp only [List.all_cons, Bool.and_eq_true] at h
    rw [okA_eq h.1 a, okAs_eq h.2 t]
theorem okB_eq {v v' : Value} (h : okB v = true) (r : VR φ v v') : v' = v := by
  unfold okB at h
  split at h
  · rename_i a
    cases r with
    | agg r =>
      have := okAs_eq h r
      congr 1
      exact Array.ext' this
  · exact okA_eq h r
theorem okBs_eq : ∀ {l l' : List Value}, l.all okB = true → VRs φ l l' → l' = l
  | _, _, _, .nil => rfl
  | _, _, h, .cons a t => by
    simp only [List.all_cons, Bool.and_eq_true] at h
    rw [okB_eq h.1 a, okBs_eq h.2 t]
theorem okB_VR {v : Value} (h : okB v = true) : VR ψ v v := by
  unfold okB at h
  split at h
  · exact .agg (okL_VR ψ h)
  · exact okA_VR ψ h
theorem okBs_VR : ∀ {l : List Value}, l.all okB = true → VRs ψ l l
  | [], _ => .nil
  | v :: l, h => by
    simp only [List.all_cons, Bool.and_eq_true] at h
    exact .cons (okB_VR h.1) (okBs_VR h.2)
theorem flat_eq {v v' : Value} (h : flat v = true) (r : VR φ v v') : v' = v := by
  unfold flat at h
  split at h
  · rename_i a
    cases r with
    | tuple r =>
      have := okBs_eq h r
      congr 1
      exact Array.ext' this
  · exact okB_eq h r
theorem flat_VR {v : Value} (h : flat v = true) : VR ψ v v := by
  unfold flat at h
  split at h
  · exact .tuple (okBs_VR h)
  · exact okB_VR h
end

/-- All that is there, to be read only. -/
def frzO : HObj → HObj
  | .cells cs e _ => .cells cs e true
  | _ => .none
def Heap.frz (h : Heap) : Heap := ⟨h.size, fun i => frzO (h.get i)⟩
section
variable {P : Program} {w0 w : World} {φ : Map} {h : Heap} {B : Tab}
theorem Rel.frz (r : Rel w0 φ h w) : Rel w φ h.frz w := by
  refine ⟨fun i hi => ?_, Below.refl _ _, r.dom, fun i l hi => ?_, fun i j li lj hij hi hj hli hlj hb => ?_⟩
  · show frzO (h.get i) = .none
    rw [r.wf i hi]; rfl
  · obtain ⟨O, h1, h2⟩ := r.obj i l hi
    refine ⟨O, h1, ?_⟩
    show ObjRel w φ l (frzO (h.get i)) O
    cases hg : h.get i with
    | none => trivial
    | map es => trivial
    | cells cs e q =>
      rw [hg] at h2
      cases O <;> first | exact h2.elim | exact ⟨h2.1, h2.2.1, h2.2.2.1, fun q => by cases q⟩
  · have key : ∀ i, live (h.frz.get i) → ro (h.frz.get i) := by
      intro i hl
      show ro (frzO (h.get i))
      have hl' : live (frzO (h.get i)) := hl
      cases hg : h.get i with
      | none => rw [hg] at hl'; exact absurd rfl hl'
      | map es => rw [hg] at hl'; exact absurd rfl hl'
      | cells cs e q => exact ⟨cs, e, rfl⟩
    exact ⟨key i hli, key j hlj⟩

/-- The world may go on as long as what was there is as it was. -/
theorem Rel.later (r : Rel w0 φ h w) {w' : World} (b : Below w.heap.size w w') : Rel w0 φ h w' := by
  refine ⟨r.wf, r.below.trans (b.mono r.below.size), r.dom, fun i l hi => ?_, r.inj⟩
  obtain ⟨O, h1, h2⟩ := r.obj i l hi
  exact ⟨O, by rw [b.block _ (r.lt hi)]; exact h1, h2⟩

/-- The call's own heap is forgotten. -/
theorem met_local (hP : POk P B) {k f : Nat} {args : List Value} {args' : Array Value} {v : Value} {h' : Heap} (ha : VRs φ args args'.toList) (r : Rel w0 φ h w) (hv : flat v = true)
    (e : run B k f 1 args h.frz = some (v, h')) : Met P w0 φ h f args' w v h := by
  rcases (run_sim hP k).1 f args args' h.frz φ w v h' ha r.frz e with ⟨h1, h2⟩ | ⟨v', w', φ', h1, h2, h3, h4⟩
  · left
    refine ⟨h1, h2.mono ?_⟩
    rintro e' w' ⟨v', φ', rfl, g, h3, h4⟩
    exact ⟨v', φ, rfl, .same, by rw [flat_eq hv h3]; exact flat_VR hv, r.later h4.below⟩
  · right
    exact ⟨v', w', φ, h1, .same, by rw [flat_eq hv h3]; exact flat_VR hv, r.later h4.below⟩

/-- .. of plain arguments: over no heap at all. -/
def nil0 : Heap := ⟨0, fun _ => .none⟩
theorem nil_rel (w : World) : Rel w (fun _ => none) nil0 w := ⟨fun _ _ => rfl, Below.refl _ _, by simp, by simp, by simp⟩
theorem met_plain (hP : POk P B) {k f : Nat} {args : List Value} {args' : Array Value} {v : Value} {h' : Heap} (hf : args.all okB = true) (ha : VRs φ args args'.toList) (r : Rel w0 φ h w) (hv : flat v = true)
    (e : run B k f 1 args nil0 = some (v, h')) : Met P w0 φ h f args' w v h := by
  have ha' : VRs (fun _ => none) args args'.toList := by rw [okBs_eq hf ha]; exact okBs_VR hf
  rcases (run_sim hP k).1 f args args' nil0 (fun _ => none) w v h' ha' (nil_rel w) e with ⟨h1, h2⟩ | ⟨v', w', φ', h1, h2, h3, h4⟩
  · left
    refine ⟨h1, h2.mono ?_⟩
    rintro e' w' ⟨v', φ', rfl, g, h3, h4⟩
    exact ⟨v', φ, rfl, .same, by rw [flat_eq hv h3]; exact flat_VR hv, r.later h4.below⟩
  · right
    exact ⟨v', w', φ, h1, .same, by rw [flat_eq hv h3]; exact flat_VR hv, r.later h4.below⟩
end
end Ab
end Go.Proofs.YtaaacaejpchbpaaGreat
