/- Rows that grow by one element of one cell. No condition. -/
import Derived.Test.YtaaacaejpchbpaaGreatHp
set_option linter.unusedVariables false
namespace Go.Proofs.YtaaacaejpchbpaaGreat
namespace Ab
open Go
/-- A row of the call's own, full: nil, or an object of its own. -/
def RowR (h : Heap) (p : Option Addr) (n c : Nat) (V : List Value) (rc : Nat) : Prop :=
  n = V.length ∧ c = n ∧ ((V = [] ∧ p = none) ∨ ∃ j, p = some ⟨j, 0, none⟩ ∧ V ≠ [] ∧ j < h.size ∧ h.get j = .cells V rc false)
/-- The heap behind `append(row, v)`. -/
def grown (h : Heap) (p : Option Addr) (t rc : Nat) (V : List Value) (v : Value) : Heap :=
  match p with
  | none => (h.push (.cells [v] t false)).push (.cells (V ++ [v]) rc false)
  | some a => ((h.push (.cells [v] t false)).put a.block .none).push (.cells (V ++ [v]) rc false)
section
variable {h : Heap} {p : Option Addr} {n c rc t : Nat} {V : List Value} {v : Value}
theorem RowR.empty (h : Heap) (rc : Nat) : RowR h none 0 0 [] rc := ⟨rfl, rfl, .inl ⟨rfl, rfl⟩⟩
theorem grown_size : (grown h p t rc V v).size = h.size + 2 := by unfold grown; split <;> rfl
theorem grown_new : (grown h p t rc V v).get (h.size + 1) = .cells (V ++ [v]) rc false := by
  unfold grown; split
  · exact gp_self (h := h.push _)
  · exact gp_self (h := (h.push _).put _ _)
theorem grown_old {i : Nat} (hi : i < h.size) (hp : ∀ a, p = some a → i ≠ a.block) : (grown h p t rc V v).get i = h.get i := by
  unfold grown
  split
  · rw [gp_ne (by rw [sz_push]; omega), gp_ne (by omega)]
  · rename_i a
    rw [gp_ne (by rw [sz_put, sz_push]; omega), gu_ne (hp a rfl), gp_ne (by omega)]
theorem RowR.grow (x : RowR h p n c V rc) : RowR (grown h p t rc V v) (some ⟨h.size + 1, 0, none⟩) (n + 1) (n + 1) (V ++ [v]) rc :=
  ⟨by simp [x.1], rfl, .inr ⟨_, rfl, by simp, by rw [grown_size]; omega, grown_new⟩⟩
theorem RowR.app (x : RowR h p n c V rc) {bts : Nat} (hv : one v = true) (hs : small (n + 1) bts = true) {ρ : Type} {K : Option Addr → Nat → Nat → Heap → Option ρ} :
    (src (h.push (.cells [v] t false)) 1 (.slice (some ⟨h.size, 0, none⟩) 1 1) fun l => app (h.push (.cells [v] t false)) 1 rc bts p n c 1 l K) = K (some ⟨h.size + 1, 0, none⟩) (n + 1) (n + 1) (grown h p t rc V v) := by
  rw [src_of (a := ⟨h.size, 0, none⟩) gp_self (by simp)]
  have hl : (([v] : List Value).drop 0).take (1 * 1) = [v] := rfl
  simp only [hl]
  obtain ⟨rfl, rfl, ⟨rfl, rfl⟩ | ⟨j, rfl, hne, hj, hg⟩⟩ := x
  · rw [show ([] : List Value).length = 0 from rfl, app_nil (by rfl) (by simp [hv]) (by omega) hs]
    simp only [Nat.zero_add, sz_push]
    rfl
  · rw [app_out (a := ⟨j, 0, none⟩) (cs := V) (by rfl) (by simp [hv]) (by omega) hs (by rw [gp_ne (by simp only; omega)]; exact hg) (by simp)]
    simp only [Nat.mul_one, List.drop_zero, List.take_length, sz_push]
    rfl
/-- The heap behind `append(row, others...)`. -/
def grownL (h : Heap) (p : Option Addr) (rc : Nat) (V W : List Value) : Heap :=
  match p with
  | none => h.push (.cells (V ++ W) rc false)
  | some a => (h.put a.block .none).push (.cells (V ++ W) rc false)
variable {W : List Value}
theorem grownL_size : (grownL h p rc V W).size = h.size + 1 := by unfold grownL; split <;> rfl
theorem grownL_new : (grownL h p rc V W).get h.size = .cells (V ++ W) rc false := by
  unfold grownL; split
  · exact gp_self
  · exact gp_self (h := h.put _ _)
theorem grownL_old {i : Nat} (hi : i < h.size) (hp : ∀ a, p = some a → i ≠ a.block) : (grownL h p rc V W).get i = h.get i := by
  unfold grownL
  split
  · rw [gp_ne (by omega)]
  · rename_i a
    rw [gp_ne (by rw [sz_put]; omega), gu_ne (hp a rfl)]
theorem RowR.growL (x : RowR h p n c V rc) (hW : W ≠ []) : RowR (grownL h p rc V W) (some ⟨h.size, 0, none⟩) (n + W.length) (n + W.length) (V ++ W) rc :=
  ⟨by simp [x.1], rfl, .inr ⟨_, rfl, by simp [hW], by rw [grownL_size]; omega, grownL_new⟩⟩
theorem RowR.appL (x : RowR h p n c V rc) {bts : Nat} (hW : W ≠ []) (hv : W.all one = true) (hs : small (n + W.length) bts = true) {ρ : Type} {K : Option Addr → Nat → Nat → Heap → Option ρ} :
    Ab.app h 1 rc bts p n c W.length W K = K (some ⟨h.size, 0, none⟩) (n + W.length) (n + W.length) (grownL h p rc V W) := by
  have hpos := List.length_pos_iff.2 hW
  obtain ⟨rfl, rfl, ⟨rfl, rfl⟩ | ⟨j, rfl, hne, hj, hg⟩⟩ := x
  · rw [show ([] : List Value).length = 0 from rfl, app_nil (by omega) hv (by omega) hs]
    simp only [Nat.zero_add]
    rfl
  · rw [app_out (a := ⟨j, 0, none⟩) (cs := V) (by omega) hv (by omega) hs hg (by simp)]
    simp only [Nat.mul_one, List.drop_zero, List.take_length]
    rfl
theorem small_of {n b : Nat} (hn : n ≤ 1000000) (hb : b ≤ 1000) : small n b = true := by
  have : n * (b + 1) ≤ 1000000 * 1001 := Nat.mul_le_mul hn (by omega)
  simp [small]; omega
end
end Ab
end Go.Proofs.YtaaacaejpchbpaaGreat
