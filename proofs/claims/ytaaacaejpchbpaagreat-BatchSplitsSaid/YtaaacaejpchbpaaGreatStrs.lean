/- Rows of texts on the abstract heap; their sizes, and whether two are the same. No condition. -/
import Derived.Test.YtaaacaejpchbpaaGreatChain
import Derived.Test.YtaaacaejpchbpaaGreatEqs
set_option linter.unusedVariables false
namespace Go.Proofs.YtaaacaejpchbpaaGreat
namespace Ab
open Go
variable {pr : Prims}

/-- A row of texts, to be read. -/
def Strs (h : Heap) (p : Option Addr) (n : Nat) (L : List ByteArray) : Prop :=
  n = L.length ∧ (L = [] ∨ ∃ j e q cs, p = some ⟨j, 0, none⟩ ∧ h.get j = .cells cs e q ∧ ∀ (i : Nat) s, L[i]? = some s → cs[i]? = some (.string s))
theorem Strs.read {h : Heap} {p : Option Addr} {n : Nat} {L : List ByteArray} (x : Strs h p n L) {i : Nat} {s : ByteArray} (hs : L[i]? = some s) {ρ : Type} {K : ByteArray → Option ρ} :
    (nn p fun a => ldS h (some (Addr.add a (Int.toNat (i : Int) * 1))) 0 K) = K s := by
  rcases x.2 with rfl | ⟨j, e, q, cs, rfl, hg, hc⟩
  · simp at hs
  · rw [nns, adr]
    exact ldS_of (a := ⟨j, _, none⟩) hg (by simpa using hc i s hs)
def sz (L : List ByteArray) : Nat := (L.map ByteArray.size).sum
theorem sz_snoc (L : List ByteArray) (s : ByteArray) : sz (L ++ [s]) = sz L + s.size := by simp [sz]
theorem sz_take (L : List ByteArray) {i : Nat} {s : ByteArray} (h : L[i]? = some s) : sz (L.take (i + 1)) = sz (L.take i) + s.size := by
  rw [List.take_add_one, h]; exact sz_snoc _ _
theorem sz_take_le (L : List ByteArray) (i : Nat) : sz (L.take i) ≤ sz L := by
  have : sz L = sz (L.take i) + sz (L.drop i) := by
    conv => lhs; rw [← List.take_append_drop i L]
    simp only [sz, List.map_append, List.sum_append]
  omega
theorem get_lt {α : Type} {L : List α} {i : Nat} (h : i < L.length) : ∃ s, L[i]? = some s := ⟨_, List.getElem?_eq_getElem h⟩

theorem bsize_loop (hp : pr 79 = none) {h : Heap} {p : Option Addr} {n c : Nat} {L : List ByteArray} (x : Strs h p n L) (hb : sz L ≤ 4611686018427387904) (hn : n ≤ 4611686018427387904) : ∀ (m i k : Nat), i + m = n → m + 1 ≤ k →
    batch_size_58 pr k (sz (L.take i) : Nat) p n c (n : Nat) (i : Nat) h = some (.int .i64 (sz L : Nat), h)
  | 0, i, k, hi, hk => by
    obtain ⟨k, rfl⟩ : ∃ j, k = j + 1 := ⟨k - 1, by omega⟩
    rw [batch_size_58_eq hp]
    have : decide ((i : Int) < (n : Int)) = false := by simp; omega
    rw [this, cond_false]
    have hl := x.1
    rw [List.take_of_length_le (by omega)]
  | m + 1, i, k, hi, hk => by
    obtain ⟨k, rfl⟩ : ∃ j, k = j + 1 := ⟨k - 1, by omega⟩
    rw [batch_size_58_eq hp]
    have : decide ((i : Int) < (n : Int)) = true := by simp; omega
    rw [this, cond_true, inb_of (by omega) (by omega)]
    have hl := x.1
    obtain ⟨s, hs⟩ := get_lt (L := L) (i := i) (by omega)
    rw [x.read hs]
    have h1 := sz_take L hs
    have h2 := sz_take_le L (i + 1)
    rw [wrap_small (by omega) (by omega), wrap_small (by omega) (by omega)]
    have := bsize_loop hp (c := c) x hb hn m (i + 1) k (by omega) (by omega)
    rw [h1] at this
    exact this
theorem bsize_ok (hp : pr 79 = none) {h : Heap} {p : Option Addr} {n c : Nat} {L : List ByteArray} (x : Strs h p n L) (hb : sz L ≤ 4611686018427387904) (hn : n ≤ 4611686018427387904) (k : Nat) (hk : n + 2 ≤ k) :
    batch_size pr k p n c h = some (.int .i64 (sz L : Nat), h) := by
  obtain ⟨k, rfl⟩ : ∃ j, k = j + 1 := ⟨k - 1, by omega⟩
  rw [batch_size_eq hp]
  exact bsize_loop hp x hb hn n 0 k (by omega) (by omega)

theorem rbytes_loop (hp : pr 28 = none) {h : Heap} {p : Option Addr} {n c : Nat} {L : List ByteArray} (x : Strs h p n L) (hb : sz L ≤ 4611686018427387904) (hn : n ≤ 4611686018427387904) : ∀ (m i k : Nat), i + m = n → m + 1 ≤ k →
    pemmicanref18_Bytes_58 pr k p n c (sz (L.take i) : Nat) (i : Nat) h = some (.int .i64 (sz L : Nat), h)
  | 0, i, k, hi, hk => by
    obtain ⟨k, rfl⟩ : ∃ j, k = j + 1 := ⟨k - 1, by omega⟩
    rw [pemmicanref18_Bytes_58_eq hp]
    have : decide ((i : Int) < (n : Int)) = false := by simp; omega
    rw [this, cond_false]
    have hl := x.1
    rw [List.take_of_length_le (by omega)]
  | m + 1, i, k, hi, hk => by
    obtain ⟨k, rfl⟩ : ∃ j, k = j + 1 := ⟨k - 1, by omega⟩
    rw [pemmicanref18_Bytes_58_eq hp]
    have : decide ((i : Int) < (n : Int)) = true := by simp; omega
    rw [this, cond_true, inb_of (by omega) (by omega)]
    have hl := x.1
    obtain ⟨s, hs⟩ := get_lt (L := L) (i := i) (by omega)
    rw [x.read hs]
    have h1 := sz_take L hs
    have h2 := sz_take_le L (i + 1)
    rw [wrap_small (by omega) (by omega), wrap_small (by omega) (by omega)]
    have := rbytes_loop hp (c := c) x hb hn m (i + 1) k (by omega) (by omega)
    rw [h1] at this
    exact this
theorem rbytes_ok (hp : pr 28 = none) {h : Heap} {p : Option Addr} {n c : Nat} {L : List ByteArray} (x : Strs h p n L) (hb : sz L ≤ 4611686018427387904) (hn : n ≤ 4611686018427387904) (k : Nat) (hk : n + 2 ≤ k) :
    pemmicanref18_Bytes pr k p n c h = some (.int .i64 (sz L : Nat), h) := by
  obtain ⟨k, rfl⟩ : ∃ j, k = j + 1 := ⟨k - 1, by omega⟩
  rw [pemmicanref18_Bytes_eq hp]
  exact rbytes_loop hp x hb hn n 0 k (by omega) (by omega)

theorem same40_loop (hp : pr 33 = none) {h : Heap} {p q : Option Addr} {n c m' d : Nat} {L M : List ByteArray} (x : Strs h p n L) (y : Strs h q m' L) (hn : n ≤ 4611686018427387904) : ∀ (m i k : Nat), i + m = n → m + 1 ≤ k →
    pemmicanlaw40_same_58 pr k p n c q m' d (n : Nat) (i : Nat) h = some (.bool true, h)
  | 0, i, k, hi, hk => by
    obtain ⟨k, rfl⟩ : ∃ j, k = j + 1 := ⟨k - 1, by omega⟩
    rw [pemmicanlaw40_same_58_eq hp]
    have : decide ((i : Int) < (n : Int)) = false := by simp; omega
    rw [this, cond_false]
  | m + 1, i, k, hi, hk => by
    obtain ⟨k, rfl⟩ : ∃ j, k = j + 1 := ⟨k - 1, by omega⟩
    rw [pemmicanlaw40_same_58_eq hp]
    have : decide ((i : Int) < (n : Int)) = true := by simp; omega
    have h1 := x.1
    have h2 := y.1
    rw [this, cond_true, inb_of (by omega) (by omega)]
    obtain ⟨s, hs⟩ := get_lt (L := L) (i := i) (by omega)
    rw [x.read hs, inb_of (by omega) (by omega), y.read hs]
    simp only [beq_self_eq_true, Bool.not_true, cond_false]
    rw [wrap_small (by omega) (by omega)]
    exact same40_loop hp (c := c) (d := d) (M := M) x y hn m (i + 1) k (by omega) (by omega)
theorem same40_ok (hp : pr 33 = none) {h : Heap} {p q : Option Addr} {n c m' d : Nat} {L : List ByteArray} (x : Strs h p n L) (y : Strs h q m' L) (hn : n ≤ 4611686018427387904) (k : Nat) (hk : n + 2 ≤ k) :
    pemmicanlaw40_same pr k p n c q m' d h = some (.bool true, h) := by
  obtain ⟨k, rfl⟩ : ∃ j, k = j + 1 := ⟨k - 1, by omega⟩
  rw [pemmicanlaw40_same_eq hp]
  have h1 := x.1
  have h2 := y.1
  have : ((n : Int) != (m' : Int)) = false := by simp; omega
  rw [this, cond_false]
  exact same40_loop hp (M := L) x y hn n 0 k (by omega) (by omega)
end Ab
end Go.Proofs.YtaaacaejpchbpaaGreat
