/- Awake: what the law does first of all, reckoned by the kernel. No condition. -/
import Derived.Test.YtaaacaejpchbpaaGreatChain
import Derived.Test.YtaaacaejpchbpaaGreatLocal
import Derived.Test.YtaaacaejpchbpaaGreatPok
import Derived.Test.YtaaacaejpchbpaaGreatRepeat
set_option linter.unusedVariables false
set_option maxRecDepth 100000
namespace Go.Proofs.YtaaacaejpchbpaaGreat
namespace Ab
open Go

/-- What a run over one table gives may stand for the function. -/
theorem ext_run {pr : Prims} (hp : PrimOk pr) {n : Nat} {g : List Value → Heap → Out} (hg : ∀ args h v h', g args h = some (v, h') → ∃ k, run (BT pr) k n 1 args h = some (v, h')) : PrimOk (ext pr n g) :=
  ext_ok hp fun w0 args args' h φ w v h' ha hr e => by
    obtain ⟨k, e1⟩ := hg args h v h' e
    exact (run_sim (pok hp) k).1 n args args' h φ w v h' ha hr e1
/-- .. of plain data: what was there stays as it was. -/
theorem ext_plain {pr : Prims} (hp : PrimOk pr) {n : Nat} {g : List Value → Heap → Out} (hg : ∀ args h v h', g args h = some (v, h') → h' = h ∧ args.all okB = true ∧ flat v = true ∧ ∃ k h2, run (BT pr) k n 1 args nil0 = some (v, h2)) : PrimOk (ext pr n g) :=
  ext_ok hp fun w0 args args' h φ w v h' ha hr e => by
    obtain ⟨rfl, h1, h2, k, h3, h4⟩ := hg args h v h' e
    exact met_plain (pok hp) h1 ha hr h2 h4
/-- .. that reads what was there. -/
theorem ext_local {pr : Prims} (hp : PrimOk pr) {n : Nat} {g : List Value → Heap → Out} (hg : ∀ args h v h', g args h = some (v, h') → h' = h ∧ flat v = true ∧ ∃ k h2, run (BT pr) k n 1 args h.frz = some (v, h2)) : PrimOk (ext pr n g) :=
  ext_ok hp fun w0 args args' h φ w v h' ha hr e => by
    obtain ⟨rfl, h2, k, h3, h4⟩ := hg args h v h' e
    exact met_local (pok hp) ha hr h2 h4
/-- One row of a function's graph. -/
def row1 (args : List Value) (v : Value) (xs : List Value) (h : Heap) : Out := match fsameL args xs with | true => some (v, h) | false => none
theorem ext_row1 {pr : Prims} (hp : PrimOk pr) {n : Nat} (k : Nat) (args : List Value) (v : Value) (ha : args.all okB = true) (hv : flat v = true) (e : gives (run (BT pr) k n 1 args nil0) v = true) : PrimOk (ext pr n (row1 args v)) :=
  ext_plain hp fun xs h u h' hu => by
    unfold row1 at hu
    split at hu
    · rename_i hs
      rw [← fsameL_eq hs]
      cases hu
      obtain ⟨h2, e2⟩ := gives_ok e
      exact ⟨rfl, ha, hv, k, h2, e2⟩
    · cases hu

def pNew (args : List Value) (h : Heap) : Out := match args with | [.string s] => some (.pointer (some ⟨h.size, 0, none⟩), newFinder h (s.extract 0 (min s.size 2000))) | _ => none
def pRepeat (args : List Value) (h : Heap) : Out := match args with | [.string s, .int .i64 c] => if 0 ≤ c ∧ s.size * c.toNat ≤ 1099511627776 ∧ c ≤ 1099511627776 then some (.string ⟨(Lib.repeatL s.data.toList c.toNat).toArray⟩, h) else none | _ => none
theorem enter125 (args : Array Value) (w : World) : (callFunc 125 args).run Tryz.prog w = .ok (.enter 125 args) w := by
  simp [callFunc, Tryz.func125, Tryz.f125]
theorem met_Repeat {w0 : World} {φ : Map} {h : Heap} {w : World} (args : List Value) (args' : Array Value) (v : Value) (h' : Heap) (ha : VRs φ args args'.toList) (r : Rel w0 φ h w) (e : pRepeat args h = some (v, h')) : Met Tryz.prog w0 φ h 125 args' w v h' := by
  unfold pRepeat at e
  split at e
  · rename_i s c
    obtain ⟨x', y', rfl, hx, hy⟩ := ha.two
    obtain ⟨⟨h0, h1, h2⟩, e1⟩ := ite_some e
    cases e1
    rw [hx.toStr, hy.toInt]
    left
    refine ⟨enter125 _ _, ?_⟩
    have C := Tryz.strings_Repeat s c.toNat w (by omega) (by omega)
    rw [show ((c.toNat : Nat) : Int) = c by omega] at C
    refine C.mono ?_
    rintro e' w' ⟨rfl, hb⟩
    exact ⟨_, φ, rfl, .same, .str _, r.later hb⟩
  · cases e
def pr1 : Prims := ext (ext pr0 125 pRepeat) 167 pNew
theorem pr1_ok : PrimOk pr1 := ext_run (ext_ok pr0_ok fun w0 args args' h φ w v h' ha hr e => met_Repeat args args' v h' ha hr e) fun args h v h' e => by
  unfold pNew at e
  split at e
  · cases e
    exact ⟨1026, chain_New_ok (by rfl) _ _ _ rfl 1026 (Nat.le_refl _)⟩
  · cases e

def abc : ByteArray := ⟨#[97, 98, 99]⟩
end Ab
end Go.Proofs.YtaaacaejpchbpaaGreat
