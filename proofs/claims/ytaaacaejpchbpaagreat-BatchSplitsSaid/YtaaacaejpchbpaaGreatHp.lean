/- Steps on the abstract heap as rules; runs that the kernel reckons. No condition. -/
import Derived.Test.YtaaacaejpchbpaaGreatLight
set_option linter.unusedVariables false
namespace Go.Proofs.YtaaacaejpchbpaaGreat
namespace Ab
open Go
section
variable {h : Heap} {o o' : HObj} {i j : Nat} {ρ : Type} {r : ρ}
theorem adr (b o n : Nat) : (⟨b, o, none⟩ : Addr).add n = ⟨b, o + n, none⟩ := by unfold Addr.add; split <;> simp_all
theorem gp_self : (h.push o).get h.size = o := by simp [Heap.push]
theorem gp_ne (hj : j ≠ h.size) : (h.push o).get j = h.get j := by simp [Heap.push, hj]
theorem sz_push : (h.push o).size = h.size + 1 := rfl
theorem sz_put : (h.put j o).size = h.size := rfl
theorem gu_self : (h.put j o).get j = o := by simp [Heap.put]
theorem gu_ne (hj : i ≠ j) : (h.put j o).get i = h.get i := by simp [Heap.put, hj]
theorem put_put : (h.put j o).put j o' = h.put j o' := by
  simp only [Heap.put, Heap.mk.injEq, true_and]; funext k; split <;> rfl
theorem push_put : (h.push o).put h.size o' = h.push o' := by
  simp only [Heap.put, Heap.push, Heap.mk.injEq, true_and]; funext k; split <;> rfl
theorem push_put_lt (hj : j ≠ h.size) : (h.push o).put j o' = (h.put j o').push o := by
  simp only [Heap.put, Heap.push, Heap.mk.injEq, true_and]; funext k
  by_cases q : k = j
  · subst q; simp [hj]
  · simp [q]
theorem put_same (hg : h.get j = o) : h.put j o = h := by
  cases h with
  | mk s g =>
    simp only [Heap.put, Heap.mk.injEq, true_and]
    funext k
    split
    · rename_i q; subst q; exact hg.symm
    · rfl

variable {a : Addr} {cs : List Value} {e : Nat} {q : Bool}
theorem cls {v : Value} {K : Value → Heap → Option (Value × Heap)} : cl (some (v, h)) K = K v h := rfl
theorem cls' {v : Value} {K : Value → Heap → Option ρ} : cl (some (v, h)) K = K v h := rfl
theorem cIs {k : IntKind} {n : Int} {K : Int → Option ρ} : cI k (.int k n) K = K n := by simp [cI]
theorem cBs {b : Bool} {K : Bool → Option ρ} : cB (.bool b) K = K b := rfl
theorem cSs {b : ByteArray} {K : ByteArray → Option ρ} : cS (.string b) K = K b := rfl
theorem cPs {b : Option Addr} {K : Option Addr → Option ρ} : cP (.pointer b) K = K b := rfl
theorem cLs {b : Option Addr} {n c : Nat} {K : Option Addr → Nat → Nat → Option ρ} : cL (.slice b n c) K = K b n c := rfl
theorem cTs {l : List Value} {K : List Value → Option ρ} : cT (.tuple ⟨l⟩) K = K l := rfl
theorem cAs {l : List Value} {K : List Value → Option ρ} : cA (.agg ⟨l⟩) K = K l := rfl
theorem ucs {v : Value} {l : List Value} {K : Value → List Value → Option ρ} : uc (v :: l) K = K v l := rfl
theorem ues {K : Option ρ} : ue [] K = K := rfl
theorem ld_of (hg : h.get a.block = .cells cs e q) {v : Value} (hv : cs[a.off + i]? = some v) {K : Value → Option ρ} : ld h (some a) i K = K v := by
  simp [ld, cellAt, hg, hv]
theorem ldI_of (hg : h.get a.block = .cells cs e q) {k : IntKind} {n : Int} (hv : cs[a.off + i]? = some (.int k n)) {K : Int → Option ρ} : ldI k h (some a) i K = K n := by
  simp [ldI, ld, cellAt, hg, hv, cI]
theorem ldB_of (hg : h.get a.block = .cells cs e q) {b : Bool} (hv : cs[a.off + i]? = some (.bool b)) {K : Bool → Option ρ} : ldB h (some a) i K = K b := by
  simp [ldB, ld, cellAt, hg, hv, cB]
theorem ldS_of (hg : h.get a.block = .cells cs e q) {s : ByteArray} (hv : cs[a.off + i]? = some (.string s)) {K : ByteArray → Option ρ} : ldS h (some a) i K = K s := by
  simp [ldS, ld, cellAt, hg, hv, cS]
theorem ldP_of (hg : h.get a.block = .cells cs e q) {p : Option Addr} (hv : cs[a.off + i]? = some (.pointer p)) {K : Option Addr → Option ρ} : ldP h (some a) i K = K p := by
  simp [ldP, ld, cellAt, hg, hv, cP]
theorem ldD_of (hg : h.get a.block = .cells cs e q) {p : Option Addr} {n c : Nat} (hv : cs[a.off + i]? = some (.slice p n c)) {K : Option Addr → Nat → Nat → Option ρ} : ldD h (some a) i K = K p n c := by
  simp [ldD, ld, cellAt, hg, hv, cL]
theorem st_of (hg : h.get a.block = .cells cs e false) {vs : List Value} (hl : a.off + vs.length ≤ cs.length) (ho : vs.all one = true) {K : Heap → Option ρ} : st h (some a) vs K = K (h.put a.block (.cells (setL cs a.off vs) e false)) := by
  simp only [st, hg]
  rw [if_pos ⟨hl, ho⟩]
theorem nns {K : Addr → Option ρ} : nn (some a) K = K a := rfl
theorem inb_of {i : Int} {n : Nat} (h0 : 0 ≤ i) (h1 : i < n) {K : Option ρ} : inb i n K = K := by simp [inb, h0, h1]
theorem bnd_of {i : Int} {n : Nat} (h0 : 0 ≤ i) (h1 : i ≤ n) {K : Nat → Option ρ} : bnd i n K = K i.toNat := by simp [bnd, h0, h1]
theorem src_of {esz n c : Nat} (hg : h.get a.block = .cells cs e q) (hl : a.off + n * esz ≤ cs.length) {K : List Value → Option ρ} : src h esz (.slice (some a) n c) K = K ((cs.drop a.off).take (n * esz)) := by
  simp [src, hg, hl]
theorem src_nil {esz c : Nat} {K : List Value → Option ρ} : src h esz (.slice none 0 c) K = K [] := by simp [src]
/-- An append in room. -/
theorem app_in {esz rc bts n c m : Nat} {new : List Value} (hn : new.length = m * esz) (ho : new.all one = true) (hr : n + m ≤ c) (hg : h.get a.block = .cells cs e false) (hl : a.off + n * esz + new.length ≤ cs.length) {K : Option Addr → Nat → Nat → Heap → Option ρ} :
    app h esz rc bts (some a) n c m new K = K (some a) (n + m) c (h.put a.block (.cells (setL cs (a.off + n * esz) new) e false)) := by
  simp only [app, hg]
  rw [if_pos ⟨hn, ho⟩, if_pos hr, if_pos hl]
/-- An append to nothing. -/
theorem app_nil {esz rc bts c m : Nat} {new : List Value} (hn : new.length = m * esz) (ho : new.all one = true) (hr : ¬ 0 + m ≤ c) (hs : small (0 + m) bts = true) {K : Option Addr → Nat → Nat → Heap → Option ρ} :
    app h esz rc bts none 0 c m new K = K (some ⟨h.size, 0, none⟩) (0 + m) (0 + m) (h.push (.cells new rc false)) := by
  simp only [app]
  rw [if_pos ⟨hn, ho⟩, if_neg hr, if_pos hs]
  rfl
/-- An append that needs a new row. -/
theorem app_out {esz rc bts n c m : Nat} {new : List Value} (hn : new.length = m * esz) (ho : new.all one = true) (hr : ¬ n + m ≤ c) (hs : small (n + m) bts = true) (hg : h.get a.block = .cells cs rc false) (hl : a.off + n * esz ≤ cs.length) {K : Option Addr → Nat → Nat → Heap → Option ρ} :
    app h esz rc bts (some a) n c m new K = K (some ⟨h.size, 0, none⟩) (n + m) (n + m) ((h.put a.block .none).push (.cells ((cs.drop a.off).take (n * esz) ++ new) rc false)) := by
  simp only [app, hg]
  rw [if_pos ⟨hn, ho⟩, if_neg hr, if_pos hs, if_pos ⟨trivial, hl⟩]
end

def vsimple : Value → Bool
  | .bool _ | .int _ _ | .string _ | .pointer _ | .slice _ _ _ | .map _ | .nilFunc | .nilIface => true
  | _ => false
theorem bytes_beq_self (b : ByteArray) : (b == b) = true := by
  obtain ⟨x⟩ := b
  have : (x == x) = true := by simp
  exact this
theorem vsame_self {v : Value} (h : vsimple v = true) : vsame v v = true := by
  unfold vsimple at h
  split at h <;> first | (cases h; done) | (simp [vsame]; done) | exact bytes_beq_self _
theorem vsameL_self : ∀ {l : List Value}, l.all vsimple = true → vsameL l l = true
  | [], _ => rfl
  | v :: l, h => by
    simp only [List.all_cons, Bool.and_eq_true] at h
    simp only [vsameL, vsame_self h.1, vsameL_self h.2, Bool.and_self]
theorem chk_obj {h : Heap} {i : Nat} {cs : List Value} {e : Nat} {q : Bool} {ρ : Type} {K : Option ρ} (hg : h.get i = .cells cs e q) (hs : cs.all vsimple = true) : chk (.obj i (.cells cs e q)) h K = K := by
  simp [chk, Lg.ok, hg, osame, vsameL_self hs]
theorem chk_cells {h : Heap} {a : Addr} {l : List Value} {ρ : Type} {K : Option ρ} (hc : cellsSame h (some a) l 0 = true) : chk (.cells (some a) l) h K = K := by
  simp [chk, Lg.ok, hc]
theorem cellsSame_of {h : Heap} {a : Addr} {cs : List Value} {e : Nat} {q : Bool} (hg : h.get a.block = .cells cs e q) : ∀ {l : List Value} {i : Nat}, l.all vsimple = true → (∀ j v, l[j]? = some v → cs[a.off + (i + j)]? = some v) → cellsSame h (some a) l i = true
  | [], _, _, _ => rfl
  | v :: l, i, hs, hv => by
    simp only [List.all_cons, Bool.and_eq_true] at hs
    have h0 := hv 0 v rfl
    have ih := cellsSame_of hg (l := l) (i := i + 1) hs.2 (fun j u hj => by
      have := hv (j + 1) u (by simpa using hj)
      rwa [show i + 1 + j = i + (j + 1) by omega])
    simp only [cellsSame, cellAt, hg]
    rw [Nat.add_zero] at h0
    simp [h0, vsame_self hs.1, ih]

/- what the kernel reckons -/
def fsame1 : Value → Value → Bool
  | .agg x, .agg y => vsameL x.toList y.toList
  | a, b => vsame a b
def fsameL : List Value → List Value → Bool
  | [], [] => true
  | a :: l, b :: m => fsame1 a b && fsameL l m
  | _, _ => false
def fsame : Value → Value → Bool
  | .tuple x, .tuple y => fsameL x.toList y.toList
  | a, b => fsame1 a b
theorem fsame1_eq {a b : Value} (h : fsame1 a b = true) : a = b := by
  unfold fsame1 at h
  split at h
  · congr 1; exact Array.ext' (vsameL_eq h)
  · exact vsame_eq h
theorem fsameL_eq : ∀ {l m : List Value}, fsameL l m = true → l = m
  | [], [], _ => rfl
  | [], _ :: _, h => by cases h
  | _ :: _, [], h => by cases h
  | a :: l, b :: m, h => by
    simp only [fsameL, Bool.and_eq_true] at h
    rw [fsame1_eq h.1, fsameL_eq h.2]
theorem fsame_eq {a b : Value} (h : fsame a b = true) : a = b := by
  unfold fsame at h
  split at h
  · congr 1; exact Array.ext' (fsameL_eq h)
  · exact fsame1_eq h
def gives (o : Out) (v : Value) : Bool := match o with | some (u, _) => fsame u v | none => false
theorem gives_ok {o : Out} {v : Value} (h : gives o v = true) : ∃ h', o = some (v, h') := by
  unfold gives at h
  split at h
  · rename_i u h'
    exact ⟨h', by rw [fsame_eq h]⟩
  · cases h
end Ab
end Go.Proofs.YtaaacaejpchbpaaGreat
