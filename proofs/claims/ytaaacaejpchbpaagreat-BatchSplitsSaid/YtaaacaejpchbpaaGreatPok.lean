/- The table against the program. No condition. -/
import Derived.Test.YtaaacaejpchbpaaGreatTok
import Derived.Test.YtaaacaejpchbpaaGreatPrim
set_option linter.unusedVariables false
namespace Go.Proofs.YtaaacaejpchbpaaGreat
namespace Ab
open Go
def fB (f : Nat) (fn : Option Func) : Bool := match fn with | some fn => (match fn.body with | some c => okCode fn.ntmps c && !(fn.name == "runtime.NumGoroutine") | none => true) | none => true
theorem fBs : (List.range 361).all (fun f => fB f (tyF f)) = true := by kernel_rfl
theorem funs : ((List.range 361).map fun f => match tyF f with | some fn => some fn | none => Tryz.prog.funcs[f]?) = (List.range 361).map (fun f => Tryz.prog.funcs[f]?) := by kernel_rfl
theorem tyF_lt {f : Nat} {fn : Func} (h : tyF f = some fn) : f < 361 := by
  rcases Nat.lt_or_ge f 361 with q | q
  · exact q
  · exfalso
    unfold tyF at h
    have : Nat.blt f 361 = false := by
      cases q2 : Nat.blt f 361 with
      | false => rfl
      | true => exact absurd (Nat.le_of_ble_eq_true q2) (by omega)
    rw [this] at h
    cases h
theorem f_ok (f : Nat) (fn : Func) (c : Code) (h : tyF f = some fn) (hb : fn.body = some c) : Tryz.prog.funcs[f]? = some fn ∧ fn.name ≠ "runtime.NumGoroutine" ∧ okCode fn.ntmps c = true := by
  have hlt := tyF_lt h
  have h1 := List.all_eq_true.1 fBs f (by simpa using hlt)
  simp only [fB, h, hb, Bool.and_eq_true, Bool.not_eq_true', beq_eq_false_iff_ne] at h1
  have h2 := congrArg (fun l : List (Option Func) => l[f]?) funs
  simp [List.getElem?_range hlt, h] at h2
  exact ⟨h2.symm, h1.2, h1.1⟩
theorem a1s : (List.range 361).all (fun f => match tyA f 1 with | some _ => false | none => true) = true := by kernel_rfl
theorem a1_ok (f : Nat) : tyA f 1 = none := by
  rcases Nat.lt_or_ge f 361 with q | q
  · have h1 := List.all_eq_true.1 a1s f (by simpa using q)
    split at h1
    · cases h1
    · assumption
  · unfold tyA
    have : Nat.blt f 361 = false := by
      cases q2 : Nat.blt f 361 with
      | false => rfl
      | true => exact absurd (Nat.le_of_ble_eq_true q2) (by omega)
    rw [this]; rfl
theorem mBs : mtab.all (fun x => mB Tryz.prog x.1 x.2.1 x.2.2.1 x.2.2.2) = true := by kernel_rfl
theorem mfind_mem {t : Nat} {m : String} {r : Nat × Option Nat} : ∀ {l : List (Nat × String × Nat × Option Nat)}, mfind t m l = some r → (t, m, r) ∈ l
  | [], h => by cases h
  | (t', m', r') :: l, h => by
    unfold mfind at h
    cases hb : Nat.beq t t' with
    | false => rw [hb] at h; exact List.mem_cons_of_mem _ (mfind_mem h)
    | true =>
      rw [hb] at h
      have ht : t = t' := Nat.eq_of_beq_eq_true hb
      simp only [cond_true] at h
      split at h
      · rename_i hm
        have hm' : m = m' := of_decide_eq_true hm
        cases h
        rw [ht, hm']
        exact List.mem_cons_self
      · exact List.mem_cons_of_mem _ (mfind_mem h)
theorem depth_pos : ∃ n, Tryz.prog.types.size + Made.depth = n + 1 := Nat.exists_eq_succ_of_ne_zero (Nat.ne_of_gt (Nat.add_pos_right _ (by decide)))
theorem mok : MOk Tryz.prog tyM := by
  obtain ⟨n, hn⟩ := depth_pos
  refine ⟨fun t m f h v w => ?_, fun t m f e h a v w hl => ?_⟩
  · have h1 := List.all_eq_true.1 mBs _ (mfind_mem h)
    rw [hn]
    exact mB_plain h1 n v w
  · have h1 := List.all_eq_true.1 mBs _ (mfind_mem h)
    rw [hn]
    exact mB_via h1 n a v w hl
theorem qok : QOk Tryz.prog tyQ := by
  intro t ht
  cases ht

/-- What stands for a function meets the machine's call of it. -/
def PrimOk (pr : Prims) : Prop := ∀ f g, pr f = some g → ∀ (w0 : World) (args : List Value) (args' : Array Value) (h : Heap) (φ : Map) (w : World) (v : Value) (h' : Heap), VRs φ args args'.toList → Rel w0 φ h w → g args h = some (v, h') → Met Tryz.prog w0 φ h f args' w v h'
theorem pok {pr : Prims} (hp : PrimOk pr) : POk Tryz.prog (BT pr) :=
  ⟨tok, qok, mok, mixed0, a1_ok, fun f fn c h hb => f_ok f fn c h hb, fun f g hg w0 args args' h φ w v h' ha hr e => hp f g hg w0 args args' h φ w v h' ha hr e⟩
/-- One more. -/
def ext (pr : Prims) (n : Nat) (g : List Value → Heap → Out) : Prims := fun f => cond (Nat.beq f n) (some g) (pr f)
theorem ext_ok {pr : Prims} (hp : PrimOk pr) {n : Nat} {g : List Value → Heap → Out}
    (hg : ∀ (w0 : World) (args : List Value) (args' : Array Value) (h : Heap) (φ : Map) (w : World) (v : Value) (h' : Heap), VRs φ args args'.toList → Rel w0 φ h w → g args h = some (v, h') → Met Tryz.prog w0 φ h n args' w v h') : PrimOk (ext pr n g) := by
  intro f g' hf w0 args args' h φ w v h' ha hr e
  unfold ext at hf
  cases hb : Nat.beq f n with
  | true =>
    rw [hb] at hf
    cases hf
    rw [Nat.eq_of_beq_eq_true hb]
    exact hg w0 args args' h φ w v h' ha hr e
  | false =>
    rw [hb] at hf
    exact hp f g' hf w0 args args' h φ w v h' ha hr e
def pr0 : Prims := ext (ext (ext (fun _ => none) 162 pCopyCheck) 116 pString) 114 pGrow
theorem pr0_ok : PrimOk pr0 :=
  ext_ok (ext_ok (ext_ok (fun f g h => by cases h) fun w0 args args' h φ w v h' ha hr e => met_copyCheck args args' v h' ha hr e) fun w0 args args' h φ w v h' ha hr e => met_String args args' v h' ha hr e)
    fun w0 args args' h φ w v h' ha hr e => met_Grow args args' v h' ha hr e
end Ab
end Go.Proofs.YtaaacaejpchbpaaGreat
