/- chain.New: a new finder. No condition. -/
import Derived.Test.YtaaacaejpchbpaaGreatHp
import Derived.Test.YtaaacaejpchbpaaGreatEqs
set_option linter.unusedVariables false
namespace Go.Proofs.YtaaacaejpchbpaaGreat
namespace Ab
open Go
variable {pr : Prims}
theorem wrap_small {n : Int} (h0 : -9223372036854775808 ≤ n) (h1 : n ≤ 9223372036854775807) : IntKind.wrap .i64 n = n := by
  rw [IntKind.wrap_i64]; omega
theorem chain_loop (hp : pr 167 = none) (b0 b1 : Nat) (hb : b0 ≠ b1) (x y z : Value) (e : Nat) (q : Bool) : ∀ (n k i : Nat) (h : Heap) (cs : List Value), i + n = 1024 → h.get b0 = .cells [x, .slice (some ⟨b1, 0, none⟩) 1024 1024, y, z] e q → h.get b1 = .cells cs 1 false → cs.length = 1024 →
    cs.take i = List.replicate i (.int .i64 (-1)) →
    chain_New_122 pr (k + n) (some ⟨b0, 0, none⟩) 1024 i h = chain_New_122 pr k (some ⟨b0, 0, none⟩) 1024 1024 (h.put b1 (.cells (List.replicate 1024 (.int .i64 (-1))) 1 false))
  | 0, k, i, h, cs, hi, h0, h1, hl, ht => by
    obtain rfl : i = 1024 := by omega
    rw [List.take_of_length_le (by omega)] at ht
    rw [← ht, put_same h1]; rfl
  | n + 1, k, i, h, cs, hi, h0, h1, hl, ht => by
    rw [show k + (n + 1) = (k + n) + 1 from rfl, chain_New_122_eq hp]
    have hlt : decide ((i : Int) < 1024) = true := by simp; omega
    rw [hlt]
    simp only [cond_true, nns, adr]
    rw [ldD_of (a := ⟨b0, 0 + 1, none⟩) h0 (by rfl)]
    rw [inb_of (by omega) (by omega), nns, adr]
    rw [st_of (a := ⟨b1, _, none⟩) h1 (by simp; omega) (by simp [one])]
    rw [wrap_small (by omega) (by omega)]
    have hset : setL cs (0 + (i : Int).toNat * 1) [.int .i64 (-1)] = cs.set i (.int .i64 (-1)) := by simp [setL]
    rw [hset]
    have := chain_loop hp b0 b1 hb x y z e q n k (i + 1) (h.put b1 (.cells (cs.set i (.int .i64 (-1))) 1 false)) (cs.set i (.int .i64 (-1))) (by omega) (by rw [gu_ne hb]; exact h0) gu_self (by simpa using hl)
      (by rw [List.take_add_one, List.take_set_of_le (Nat.le_refl _), ht, List.getElem?_set_self (by omega), List.replicate_succ']; rfl)
    rw [put_put] at this
    exact this

theorem replL (n : Nat) (v : Value) : repL n [v] = List.replicate n v := by
  induction n with
  | zero => rfl
  | succ n ih => rw [repL, ih, List.replicate_succ]; rfl
def newFinder (h : Heap) (t : ByteArray) : Heap :=
  (((h.push (.cells [.string t, .slice (some ⟨h.size + 1, 0, none⟩) 1024 1024, .slice (some ⟨h.size + 2, 0, none⟩) t.size t.size, .slice (some ⟨h.size + 3, 0, none⟩) t.size t.size] 0 false)).push (.cells (List.replicate 1024 (.int .i64 (-1))) 1 false)).push
    (.cells (List.replicate t.size (.int .i64 0)) 1 false)).push (.cells (List.replicate t.size (.bool false)) 1 false)
theorem chain_New_ok (hp : pr 167 = none) (s t : ByteArray) (h : Heap) (ht : t = s.extract 0 (min s.size 2000)) : ∀ k, 1026 ≤ k → chain_New pr k s h = some (.pointer (some ⟨h.size, 0, none⟩), newFinder h t) := by
  intro k hk
  obtain ⟨k, rfl⟩ : ∃ j, k = ((j + 1) + 1024) + 1 := ⟨k - 1026, by omega⟩
  have hts : t.size ≤ 2000 := by rw [ht]; simp; omega
  rw [chain_New_eq hp]
  have hm : mnV (s.size : Int) 2000 = (min s.size 2000 : Nat) := by unfold mnV; split <;> omega
  rw [hm, bnd_of (by omega) (by omega)]
  simp only [Int.toNat_natCast]
  rw [← ht]
  simp only [mkS]
  rw [if_pos (by decide)]
  have e1 : (1024 : Int).toNat = 1024 := rfl
  simp only [e1, replL, adr]
  rw [st_of (a := ⟨h.size, 0 + 1, none⟩) (cs := [.string t, .slice none 0 0, .slice none 0 0, .slice none 0 0]) (e := 0) (by rw [gp_ne (by simp [sz_push]), gp_self]) (by simp) (by simp [one])]
  rw [ldD_of (a := ⟨h.size, 0 + 1, none⟩) (p := some ⟨h.size + 1, 0, none⟩) (n := 1024) (c := 1024) gu_self (by simp [setL, sz_push])]
  have h0 : ((((h.push (.cells [.string t, .slice none 0 0, .slice none 0 0, .slice none 0 0] 0 false)).push (.cells (List.replicate 1024 (.int .i64 0)) 1 false)).put h.size (.cells (setL [.string t, .slice none 0 0, .slice none 0 0, .slice none 0 0] (0 + 1) [.slice (some ⟨(h.push (.cells [.string t, .slice none 0 0, .slice none 0 0, .slice none 0 0] 0 false)).size, 0, none⟩) 1024 1024]) 0 false))).get h.size = .cells [.string t, .slice (some ⟨h.size + 1, 0, none⟩) 1024 1024, .slice none 0 0, .slice none 0 0] 0 false := by
    rw [gu_self]; rfl
  have := chain_loop hp h.size (h.size + 1) (by omega) (.string t) (.slice none 0 0) (.slice none 0 0) 0 false 1024 (k + 1) 0 _ (List.replicate 1024 (.int .i64 0)) (by rfl) h0 (by rw [gu_ne (by omega)]; exact gp_self) (by rw [List.length_replicate]) rfl
  rw [show ((1024 : Nat) : Int) = 1024 from rfl]
  rw [show ((0 : Nat) : Int) = 0 from rfl] at this
  rw [this, chain_New_122_eq hp]
  simp only [show decide ((1024 : Int) < 1024) = false from rfl, cond_false, nns]
  have hH : (((((h.push (.cells [.string t, .slice none 0 0, .slice none 0 0, .slice none 0 0] 0 false)).push (.cells (List.replicate 1024 (.int .i64 0)) 1 false)).put h.size (.cells (setL [.string t, .slice none 0 0, .slice none 0 0, .slice none 0 0] (0 + 1) [.slice (some ⟨(h.push (.cells [.string t, .slice none 0 0, .slice none 0 0, .slice none 0 0] 0 false)).size, 0, none⟩) 1024 1024]) 0 false))).put (h.size + 1) (.cells (List.replicate 1024 (.int .i64 (-1))) 1 false)) =
      (h.push (.cells [.string t, .slice (some ⟨h.size + 1, 0, none⟩) 1024 1024, .slice none 0 0, .slice none 0 0] 0 false)).push (.cells (List.replicate 1024 (.int .i64 (-1))) 1 false) := by
    rw [push_put_lt (by rw [sz_push]; omega), push_put]
    exact push_put (h := h.push _)
  rw [hH]
  clear hH this h0
  generalize hF : HObj.cells (List.replicate 1024 (.int .i64 (-1))) 1 false = F
  have hz : ((h.push (.cells [.string t, .slice (some ⟨h.size + 1, 0, none⟩) 1024 1024, .slice none 0 0, .slice none 0 0] 0 false)).push F).size = h.size + 2 := rfl
  have g0 : ((h.push (.cells [.string t, .slice (some ⟨h.size + 1, 0, none⟩) 1024 1024, .slice none 0 0, .slice none 0 0] 0 false)).push F).get h.size = .cells [.string t, .slice (some ⟨h.size + 1, 0, none⟩) 1024 1024, .slice none 0 0, .slice none 0 0] 0 false := by
    rw [gp_ne (by rw [sz_push]; omega), gp_self]
  generalize hG : (h.push (.cells [.string t, .slice (some ⟨h.size + 1, 0, none⟩) 1024 1024, .slice none 0 0, .slice none 0 0] 0 false)).push F = G at hz g0
  have hsm : ∀ b, b ≤ 8 → 0 ≤ (t.size : Int) ∧ (t.size : Int) ≤ t.size ∧ small (t.size : Int).toNat b = true := by
    intro b hb
    refine ⟨by omega, by omega, ?_⟩
    have : t.size * (b + 1) ≤ 2000 * 9 := Nat.mul_le_mul hts (by omega)
    simp [small]; omega
  rw [ldS_of (a := ⟨h.size, 0, none⟩) g0 (by rfl)]
  simp only [mkS]
  rw [if_pos (hsm 8 (by omega))]
  rw [ldS_of (a := ⟨h.size, 0, none⟩) (by rw [gp_ne (by rw [hz]; simp)]; exact g0) (by rfl)]
  rw [if_pos (hsm 1 (by omega))]
  simp only [adr, replL, Int.toNat_natCast]
  rw [st_of (a := ⟨h.size, 0 + 2, none⟩) (cs := [.string t, .slice (some ⟨h.size + 1, 0, none⟩) 1024 1024, .slice none 0 0, .slice none 0 0]) (e := 0) (by rw [gp_ne (by rw [sz_push, hz]; simp; omega), gp_ne (by rw [hz]; simp)]; exact g0) (by simp) (by simp [one])]
  rw [gp_self, chk_obj (by rw [gu_ne (by rw [sz_push, hz]; simp; omega), gp_self]) (by simp [vsimple])]
  rw [st_of (a := ⟨h.size, 0 + 3, none⟩) (cs := [.string t, .slice (some ⟨h.size + 1, 0, none⟩) 1024 1024, .slice (some ⟨h.size + 2, 0, none⟩) t.size t.size, .slice none 0 0]) (e := 0) (by rw [gu_self, hz]; rfl) (by simp) (by simp [one])]
  congr 2
  simp only [put_put]
  rw [push_put_lt (by rw [sz_push, hz]; simp; omega), push_put_lt (by rw [hz]; simp)]
  unfold newFinder
  congr 1
  congr 1
  rw [← hG, push_put_lt (by rw [sz_push]; simp), push_put, ← hF]
  rfl
end Ab
end Go.Proofs.YtaaacaejpchbpaaGreat
