/- strings.Builder: Grow of a builder that was never written. No condition. -/
import Derived.Test.YtaaacaejpchbpaaGreatBld
set_option linter.unusedVariables false
set_option maxRecDepth 100000
namespace Go.Proofs.YtaaacaejpchbpaaGreat
namespace Ab
open Go Go.RowKit

set_option maxHeartbeats 2000000 in
theorem bGrow_fresh (b n : Nat) (w : World) (hlt : b < w.heap.size) (h0 : w.cell? ⟨b, 0, none⟩ = some (.pointer none)) (hc1 : w.cell? ⟨b, 1, none⟩ = some (.slice none 0 0)) (hsh : w.shape? b = some (168, 2)) (hf0 : w.frozen? ⟨b, 0, none⟩ = false) (hf1 : w.frozen? ⟨b, 1, none⟩ = false) (hn : n ≤ 281474976710656) (hn0 : 0 < n) :
    Calls Tryz.prog 114 #[.pointer (some ⟨b, 0, none⟩), .int .i64 n] w fun e w' => e = .returned (.tuple #[]) ∧ ∃ cs : Array Value, n ≤ cs.size ∧
      w' = ((((w.setCell ⟨b, 0, none⟩ (.pointer (some ⟨b, 0, none⟩))).drew).setCell ⟨b, 1, none⟩ (.slice (some ⟨w.heap.size, 0, none⟩) 0 cs.size)).alloc (.cells cs 5)).drew.drew.drew := by
  have hs : (w.setCell ⟨b, 0, none⟩ (.pointer (some ⟨b, 0, none⟩))).drew.heap.size = w.heap.size := by simp [World.setCell, World.drew]
  have c1 : (w.setCell ⟨b, 0, none⟩ (.pointer (some ⟨b, 0, none⟩))).cell? ⟨b, 1, none⟩ = some (.slice none 0 0) := by
    have := World.cell?_setCells_out b [.pointer (some ⟨b, 0, none⟩)] 0 w ⟨b, 1, none⟩ (fun _ _ => .inr (by simp))
    simp only [World.setCells] at this
    rw [this]
    exact hc1
  have c1' : (w.setCell ⟨b, 0, none⟩ (.pointer (some ⟨b, 0, none⟩))).drew.cell? ⟨b, 1, none⟩ = some (.slice none 0 0) := c1
  have f1 : (w.setCell ⟨b, 0, none⟩ (.pointer (some ⟨b, 0, none⟩))).drew.frozen? ⟨b, 1, none⟩ = false := by
    have : (w.setCell ⟨b, 0, none⟩ (.pointer (some ⟨b, 0, none⟩))).drew.frozen? ⟨b, 1, none⟩ = w.frozen? ⟨b, 1, none⟩ := by
      show (w.setCell ⟨b, 0, none⟩ (.pointer (some ⟨b, 0, none⟩))).frozen? ⟨b, 1, none⟩ = _
      simp
    rw [this]; exact hf1
  have G := grow_fresh b n ((w.setCell ⟨b, 0, none⟩ (.pointer (some ⟨b, 0, none⟩))).drew) (by rw [hs]; exact hlt) c1' f1 hn
  rw [hs] at G
  have G' := Lib.hid G
  have C := Lib.hid (copyCheck_fresh b w h0 hsh hf0)
  clear G hs f1 hf1 hf0 hsh h0 hc1
  have mixed := mixed0
  go_enter Tryz.func114, Tryz.ntmps114
  go_wp2_with (go_at_call 162; refine C.out.mono ?_; rintro e w' ⟨rfl, rfl⟩)
  go_region_o
  all_goals go_wp2_with (go_at_call 163; refine G'.out.mono ?_; rintro e w' ⟨rfl, cs, h1, rfl⟩)
  all_goals (go_end0; exact ⟨rfl, cs, h1, rfl⟩)
end Ab
end Go.Proofs.YtaaacaejpchbpaaGreat
