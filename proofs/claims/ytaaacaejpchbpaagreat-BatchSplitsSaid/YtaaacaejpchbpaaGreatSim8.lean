/- Regions in the text's order, and code. No condition. -/
import Derived.Test.YtaaacaejpchbpaaGreatSim7
set_option linter.unusedVariables false
set_option linter.unusedSimpArgs false
namespace Go.Proofs.YtaaacaejpchbpaaGreat
namespace Ab
open Go Go.RowKit
section
variable {P : Program} {E : Env} {w0 w : World} {φ : Map} {h : Heap} {fr : Fr} {a : Act} {Q : Exit → Act → World → Prop} {ρ : Type} {r : ρ}

/-- What the hypotheses of a walk say of the program. -/
structure EOk (P : Program) (w0 : World) (E : Env) : Prop where
  t : TOk P E.T
  q : QOk P E.Q
  m : MOk P E.M
  s : SOk P w0 E.S

/-- The state at a point. -/
structure At (w0 : World) (N : Nat) (φ : Map) (fr : Fr) (h : Heap) (a : Act) (w : World) : Prop where
  f : FrRel φ fr a.tmps
  n : N ≤ a.tmps.size
  d : a.defers = []
  r : Rel w0 φ h w

theorem put_size (a : Act) (d : Option Tmp) (v : Value) : (a.put d v).tmps.size = a.tmps.size := by
  cases d <;> simp [Act.put]
theorem put_defers (a : Act) (d : Option Tmp) (v : Value) : (a.put d v).defers = a.defers := by
  cases d <;> simp [Act.put]
theorem FrRel.put {φ : Map} {fr : Fr} {a : Act} {d : Option Nat} {v v' : Value} (hf : FrRel φ fr a.tmps) (hv : VR φ v v') (hd : ∀ x, d = some x → x < a.tmps.size) :
    FrRel φ (fr.put d v) (a.put d v').tmps := by
  cases d with
  | none => exact hf
  | some d =>
    intro s u hs
    simp only [Fr.put, Fr.set] at hs
    split at hs
    · rename_i q; subst q; cases hs
      exact ⟨v', by simp [Act.put, hd s rfl], hv⟩
    · rename_i q
      obtain ⟨u', h1, h2⟩ := hf s u hs
      refine ⟨u', ?_, h2⟩
      simp only [Act.put]
      rw [Array.getElem?_setIfInBounds_ne (fun e => q e.symm)]
      exact h1
theorem FrRel.set_same {φ : Map} {fr : Fr} {t : Array Value} {g : Nat} {b : Bool} (hf : FrRel φ fr t) (hg : fr g = some (.bool b)) : FrRel φ (fr.set g (.bool b)) t := by
  intro s u hs
  simp only [Fr.set] at hs
  split at hs
  · rename_i q; subst q; cases hs; exact hf _ _ hg
  · exact hf s u hs
theorem At.put {N : Nat} {φ φ' : Map} {fr : Fr} {h h' : Heap} {a : Act} {w w' : World} {d : Option Nat} {v v' : Value} (s : At w0 N φ fr h a w) (e : Ext φ φ') (hv : VR φ' v v') (hd : ∀ x, d = some x → x < N) (hr : Rel w0 φ' h' w') :
    At w0 N φ' (fr.put d v) h' (a.put d v') w' :=
  ⟨(s.f.mono e).put hv (fun x q => Nat.lt_of_lt_of_le (hd x q) s.n), by rw [put_size]; exact s.n, by rw [put_defers]; exact s.d, hr⟩

/-- What a guard finds. -/
theorem guard_bool {ops : Array Oper} {o : Oper} {j g : Nat} {want b : Bool} (hg : o.guard = some (j, want)) (hj : (ops.toList[j]?).bind (·.dst) = some g) (hf : FrRel φ fr a.tmps) (hb : fr g = some (.bool b)) :
    Region.wanted o (yielded ops a.tmps) = (b == want) := by
  obtain ⟨v', h1, h2⟩ := hf g _ hb
  rw [h2.toBool] at h1
  have hj' : (ops[j]?).bind (·.dst) = some g := by simpa using hj
  simp [Region.wanted, hg, yielded, hj', h1]
theorem guard_tuple {ops : Array Oper} {o : Oper} {j g : Nat} {want : Bool} {c : Array Value} (hg : o.guard = some (j, want)) (hj : (ops.toList[j]?).bind (·.dst) = some g) (hf : FrRel φ fr a.tmps) (hb : fr g = some (.tuple c)) :
    Region.wanted o (yielded ops a.tmps) = false := by
  obtain ⟨v', h1, h2⟩ := hf g _ hb
  obtain ⟨c', rfl, _⟩ := h2.toTuple
  have hj' : (ops[j]?).bind (·.dst) = some g := by simpa using hj
  simp [Region.wanted, hg, yielded, hj', h1]

theorem hops_sim (hE : EOk P w0 E) {N : Nat} {ops : Array Oper} (hN : ∀ o ∈ ops.toList, ∀ d, o.dst = some d → d < N) {K : Fr → Heap → Option ρ} :
    ∀ (os : List Oper) (i : Nat) (φ : Map) (fr : Fr) (h : Heap) (a : Act) (w : World), ops.toList.drop i = os → At w0 N φ fr h a w →
    (∀ φ' fr' h' a' w', Grow h h' φ φ' → At w0 N φ' fr' h' a' w' → K fr' h' = some r → Q .normal a' w') →
    hops E ops.toList os fr h K = some r → wpOps P ops Q (List.range' i os.length) a w
  | [], i, φ, fr, h, a, w, hd, s, hK, e => by
    exact hK φ fr h a w .same s e
  | o :: os, i, φ, fr, h, a, w, hd, s, hK, e => by
    have hi : ops[i]? = some o := by
      have := congrArg (fun l : List Oper => l[0]?) hd
      simpa [List.getElem?_drop] using this
    have hmem : o ∈ ops.toList := by
      have : ops.toList[i]? = some o := by simpa using hi
      exact List.mem_of_getElem? this
    have hd' : ops.toList.drop (i + 1) = os := by
      rw [← List.drop_drop, hd]; rfl
    have done : ∀ (fr1 : Fr), FrRel φ fr1 a.tmps → Region.wanted o (yielded ops a.tmps) = true → (hop E o fr1 h fun v h => hops E ops.toList os (fr1.put o.dst v) h K) = some r → wpOps P ops Q (List.range' i (o :: os).length) a w := by
      intro fr1 hf1 hw e1
      simp only [List.length_cons, List.range'_succ, wpOps, hi, hw, if_true]
      refine .inl (hop_sim (r := r) (w0 := w0) hE.t hE.q hE.m hE.s hf1 s.r ?_ e1)
      intro φ' v v' h' w' he hv hr hk
      exact hops_sim hE hN os (i + 1) φ' _ h' _ w' hd' (At.put ⟨hf1, s.n, s.d, s.r⟩ he.ext hv (hN o hmem) hr) (fun φ2 fr2 h2 a2 w2 he2 => hK φ2 fr2 h2 a2 w2 (he.trans he2)) hk
    have skip : ∀ (fr1 : Fr), FrRel φ fr1 a.tmps → Region.wanted o (yielded ops a.tmps) = false → hops E ops.toList os (fr1.skip o.dst) h K = some r → wpOps P ops Q (List.range' i (o :: os).length) a w := by
      intro fr1 hf1 hw e1
      simp only [List.length_cons, List.range'_succ, wpOps, hi, hw, Bool.false_eq_true, if_false]
      exact hops_sim hE hN os (i + 1) φ _ h _ w hd' (At.put ⟨hf1, s.n, s.d, s.r⟩ (Ext.refl _) (VR.undef φ) (hN o hmem) s.r) hK e1
    unfold hops at e
    split at e
    · rename_i hg
      exact done fr s.f (by simp [Region.wanted, hg]) e
    · rename_i j want hg
      split at e
      · cases e
      · rename_i g hj
        split at e
        · rename_i b hb
          have hw := guard_bool (a := a) hg hj s.f hb
          rcases cond_some e with ⟨rfl, e1⟩ | ⟨rfl, e1⟩
          · cases want
            · exact skip _ (s.f.set_same hb) (by rw [hw]; rfl) e1
            · exact done _ (s.f.set_same hb) (by rw [hw]; rfl) e1
          · cases want
            · exact done _ (s.f.set_same hb) (by rw [hw]; rfl) e1
            · exact skip _ (s.f.set_same hb) (by rw [hw]; rfl) e1
        · rename_i c hb
          exact skip _ s.f (guard_tuple hg hj s.f hb) e
        · cases e
end
end Ab
end Go.Proofs.YtaaacaejpchbpaaGreat
