/- The methods of strings.Builder that the abstract interpreter does not run: what each does to a builder of the call's own. No condition. -/
import Derived.Test.YtaaacaejpchbpaaGreatProg
import Derived.Shelf.RegionOpenPlain
import Derived.Lib.Strings
import Derived.Lib.Slices
import Derived.Lib.Walk
import Derived.Lib.Builder
import Derived.Lib.AppendStr
import Derived.Lib.UnsafeStr
import Derived.Lib.MakeNoZero
import Derived.WalkKit
import Derived.Lib.Hide
import Derived.Laws.Externs
import Derived.Laws.IdiomCopy
set_option linter.unusedVariables false
set_option maxRecDepth 100000
namespace Go.Proofs.YtaaacaejpchbpaaGreat
namespace Ab
open Go Go.RowKit

theorem mixed0 : Tryz.prog.follows .mixedOrders = true := by kernel_rfl
theorem bld_size : (Tryz.prog.info? 168).map (·.size) = some 2 := by kernel_rfl
theorem bld_lies : liesAt Tryz.prog Tryz.prog.depth 168 (2 / Tryz.prog.cellsOf 168) 0 168 1 = true := by kernel_rfl
theorem byte_cells : Tryz.prog.cellsOf 5 = 1 := by kernel_rfl

set_option maxHeartbeats 1000000 in
theorem copyCheck_used (b : Nat) (w : World) (h0 : w.cell? ⟨b, 0, none⟩ = some (.pointer (some ⟨b, 0, none⟩))) :
    Calls Tryz.prog 162 #[.pointer (some ⟨b, 0, none⟩)] w fun e w' => e = .returned (.tuple #[]) ∧ w' = w := by
  obtain ⟨j, hj, _⟩ := Option.map_eq_some_iff.1 bld_size
  go_enter Tryz.func162, Tryz.ntmps162
  go_wp2
  rw [Lib.run_neq_ptr_same w _ Tryz.underlying166 hj]
  go_wp2
  go_end0
  exact ⟨rfl, rfl⟩

set_option maxHeartbeats 1000000 in
theorem copyCheck_fresh (b : Nat) (w : World) (h0 : w.cell? ⟨b, 0, none⟩ = some (.pointer none)) (hsh : w.shape? b = some (168, 2)) (hfz : w.frozen? ⟨b, 0, none⟩ = false) :
    Calls Tryz.prog 162 #[.pointer (some ⟨b, 0, none⟩)] w fun e w' => e = .returned (.tuple #[]) ∧ w' = w.setCell ⟨b, 0, none⟩ (.pointer (some ⟨b, 0, none⟩)) := by
  obtain ⟨j, hj, hjs⟩ := Option.map_eq_some_iff.1 bld_size
  go_enter Tryz.func162, Tryz.ntmps162
  go_wp2
  rw [Lib.run_to_unsafe w ⟨b, 0, none⟩ Tryz.underlying166 Tryz.underlying251 hj (by rw [hjs]; decide) hsh (Nat.zero_lt_succ 1)]
  simp only [Result.andThen]
  rw [Oper.upon_value]
  go_wp2
  rw [run_callFunc_extern Tryz.func210 (by kernel_rfl) (by kernel_rfl) (by kernel_rfl) (e := Extern.AbiNoEscape.same) (by kernel_rfl)]
  rw [Lib.run_noEscape]
  simp only [Result.andThen]
  rw [Oper.upon_value]
  go_wp2
  rw [Lib.run_from_unsafe w ⟨b, 0, none⟩ Tryz.underlying251 Tryz.underlying166 hj hsh bld_lies]
  simp only [Result.andThen]
  rw [Oper.upon_value]
  go_wp2
  go_end0
  exact ⟨rfl, rfl⟩

set_option maxHeartbeats 1000000 in
theorem bString_row (b : Nat) (g go n cap : Nat) (w : World) (s : ByteArray) (c1 : w.cell? ⟨b, 1, none⟩ = some (.slice (some ⟨g, go, none⟩) n cap)) (hc : cap ≠ 0)
    (hUS : (Builtin.unsafeString_ #[200, 3] 9 #[.pointer (some ⟨g, go, none⟩), .int .i64 n]).run Tryz.prog w.drew = .ok (.string s) (w.drew.freeze ⟨g, go, none⟩ n)) :
    Calls Tryz.prog 116 #[.pointer (some ⟨b, 0, none⟩)] w fun e w' => e = .returned (.string s) ∧ w' = w.drew.freeze ⟨g, go, none⟩ n := by
  have hSD : (Builtin.unsafeSliceData_ #[85] 200 #[.slice (some ⟨g, go, none⟩) n cap]).run Tryz.prog w.drew = .ok (.pointer (some ⟨g, go, none⟩)) w.drew :=
    Lib.run_unsafeSliceData_row _ _ _ _ _ _ hc
  have c1' : w.drew.cell? ⟨b, 1, none⟩ = some (.slice (some ⟨g, go, none⟩) n cap) := c1
  clear hc
  have mixed := mixed0
  go_enter Tryz.func116, Tryz.ntmps116
  go_wp2
  go_region_o
  all_goals (go_wp2; go_ret; exact ⟨rfl, rfl⟩)
set_option maxHeartbeats 2000000 in
theorem bString_nil (b : Nat) (w : World) (c1 : w.cell? ⟨b, 1, none⟩ = some (.slice none 0 0)) :
    Calls Tryz.prog 116 #[.pointer (some ⟨b, 0, none⟩)] w fun e w' => e = .returned (.string ⟨#[]⟩) ∧ w' = w.drew := by
  have hUS : ∀ W : World, (Builtin.unsafeString_ #[200, 3] 9 #[.pointer none, .int .i64 0]).run Tryz.prog W = .ok (.string .empty) W := fun W => Lib.run_unsafeString_none W _ _ _ _
  have c1' : w.drew.cell? ⟨b, 1, none⟩ = some (.slice none 0 0) := c1
  have hSD : (Builtin.unsafeSliceData_ #[85] 200 #[.slice none 0 0]).run Tryz.prog w.drew = .ok (.pointer none) w.drew := rfl
  have mixed := mixed0
  go_enter Tryz.func116, Tryz.ntmps116
  go_wp2
  go_region_o
  all_goals (go_wp2; go_ret; exact ⟨rfl, rfl⟩)

set_option maxHeartbeats 2000000 in
theorem grow_fresh (b n : Nat) (w : World) (hlt : b < w.heap.size) (hc1 : w.cell? ⟨b, 1, none⟩ = some (.slice none 0 0)) (hf1 : w.frozen? ⟨b, 1, none⟩ = false) (hn : n ≤ 281474976710656) :
    Calls Tryz.prog 163 #[.pointer (some ⟨b, 0, none⟩), .int .i64 n] w fun e w' => e = .returned (.tuple #[]) ∧ ∃ cs : Array Value, n ≤ cs.size ∧ w' = ((w.setCell ⟨b, 1, none⟩ (.slice (some ⟨w.heap.size, 0, none⟩) 0 cs.size)).alloc (.cells cs 5)).drew.drew.drew := by
  obtain ⟨cs, hrun, hle, hmax⟩ := Lib.run_makeNoZero (P := Tryz.prog) w.drew #[3] 85 5 Tryz.underlying85 n hn
  have hw : IntKind.i64.wrap (IntKind.i64.wrap 0 + (n : Int)) = n := by
    rw [IntKind.wrap_i64, IntKind.wrap_i64]
    omega
  have hcall : (callFunc 211 #[.int .i64 (IntKind.i64.wrap (IntKind.i64.wrap 0 + (n : Int)))]).run Tryz.prog w.drew = .ok (.value (.slice (some ⟨w.drew.heap.size, 0, none⟩) n cs.size)) (w.drew.drew.drew.alloc (.cells cs 5)) := by
    rw [hw, run_callFunc_extern Tryz.func211 (by kernel_rfl) (by kernel_rfl) (by kernel_rfl) (e := Extern.BytealgMakeNoZero.makeNoZero #[3] #[85]) (by kernel_rfl), hrun]
    rfl
  have c1 : w.drew.cell? ⟨b, 1, none⟩ = some (.slice none 0 0) := hc1
  have c2 : (w.alloc (.cells cs 5)).cell? ⟨b, 1, none⟩ = some (.slice none 0 0) := by
    have : (w.alloc (.cells cs 5)).heap[b]? = w.heap[b]? := Lib.alloc_old w _ b hlt
    rw [World.cell?_of_block (w := w) this]; exact hc1
  have f2 : (w.alloc (.cells cs 5)).frozen? ⟨b, 1, none⟩ = false := by
    have : (w.alloc (.cells cs 5)).heap[b]? = w.heap[b]? := Lib.alloc_old w _ b hlt
    rw [World.frozen?_of_block (w := w) this]; exact hf1
  have hcopy : ∀ W : World, (Builtin.copy_ #[85, 85] 3 #[.slice (some ⟨w.heap.size, 0, none⟩) 0 cs.size, .slice none 0 0]).run Tryz.prog W = .ok (goInt 0) W :=
    fun W => run_copy_none W 85 85 3 5 _ _ 0 cs.size 0 0 Tryz.underlying85 (by kernel_rfl) rfl
  have hle' := Lib.hid hle
  clear hw hle
  have mixed := mixed0
  go_enter Tryz.func163, Tryz.ntmps163
  go_wp2
  go_region_o
  all_goals (go_wp2; go_end0; exact ⟨rfl, cs, hle'.out, rfl⟩)
end Ab
end Go.Proofs.YtaaacaejpchbpaaGreat
