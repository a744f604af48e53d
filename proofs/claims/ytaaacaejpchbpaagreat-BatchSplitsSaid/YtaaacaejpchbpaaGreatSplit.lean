/- batch.Split walked. No condition. -/
import Derived.Test.YtaaacaejpchbpaaGreatStrs
import Derived.Test.YtaaacaejpchbpaaGreatRows1
import Derived.Test.YtaaacaejpchbpaaGreatSplits
set_option linter.unusedVariables false
namespace Go.Proofs.YtaaacaejpchbpaaGreat
namespace Ab
open Go
variable {pr : Prims}
def bv (x : Nat × List ByteArray) : Value := .slice (some ⟨x.1, 0, none⟩) x.2.length x.2.length
/-- Texts that came in. -/
def ArgR (h : Heap) (q : Option Addr) (n : Nat) (L : List ByteArray) : Prop := n = L.length ∧ (L = [] ∨ ∃ j e, q = some ⟨j, 0, none⟩ ∧ j < h.size ∧ h.get j = .cells (L.map .string) e true)
theorem ArgR.strs {h : Heap} {q : Option Addr} {n : Nat} {L : List ByteArray} (x : ArgR h q n L) : Strs h q n L := by
  refine ⟨x.1, ?_⟩
  rcases x.2 with rfl | ⟨j, e, hq, _, hg⟩
  · exact .inl rfl
  · exact .inr ⟨j, e, true, _, hq, hg, fun i s hs => by simp [hs]⟩
theorem RowR.strs {h : Heap} {p : Option Addr} {n c : Nat} {L : List ByteArray} (x : RowR h p n c (L.map .string) 1) : Strs h p n L := by
  refine ⟨by simpa using x.1, ?_⟩
  rcases x.2.2 with ⟨hV, _⟩ | ⟨j, hp, _, _, hg⟩
  · left; simpa using hV
  · exact .inr ⟨j, _, _, _, hp, hg, fun i s hs => by simp [hs]⟩
structure SpS (h : Heap) (p6 : Option Addr) (n6 c6 : Nat) (p7 : Option Addr) (n7 c7 : Nat) (q : Option Addr) (n : Nat) (X : List (Nat × List ByteArray)) (now L : List ByteArray) : Prop where
  out : RowR h p6 n6 c6 (X.map bv) 1
  nowr : RowR h p7 n7 c7 (now.map .string) 1
  bats : ∀ x ∈ X, x.2 ≠ [] ∧ x.1 < h.size ∧ h.get x.1 = .cells (x.2.map .string) 1 false
  apart : ∀ x ∈ X, ∀ a, p7 = some a → x.1 ≠ a.block
  arg : ArgR h q n L
section
variable {h : Heap} {p6 p7 q : Option Addr} {n6 c6 n7 c7 n : Nat} {X : List (Nat × List ByteArray)} {now L : List ByteArray}
theorem str_ne_bv {l : List ByteArray} {X : List (Nat × List ByteArray)} {e e' : Nat} {r r' : Bool} (hl : l ≠ []) : HObj.cells (l.map .string) e r ≠ .cells (X.map bv) e' r' := by
  intro hh
  injection hh with h1
  cases l with
  | nil => exact hl rfl
  | cons s l => cases X with
    | nil => cases h1
    | cons x X => simp [bv] at h1
theorem ArgR.grown (x : ArgR h q n L) {p : Option Addr} {m c : Nat} {V : List Value} {rc t : Nat} {v : Value} (y : RowR h p m c V rc) : ArgR (grown h p t rc V v) q n L := by
  refine ⟨x.1, ?_⟩
  rcases x.2 with rfl | ⟨j, e, hq, hj, hg⟩
  · exact .inl rfl
  · refine .inr ⟨j, e, hq, by rw [grown_size]; omega, ?_⟩
    rw [grown_old hj]
    · exact hg
    · rintro a ha rfl
      rcases y.2.2 with ⟨_, hp⟩ | ⟨k, hp, _, _, hk⟩
      · rw [hp] at ha; cases ha
      · rw [hp] at ha; cases ha
        rw [hg] at hk; cases hk
theorem SpS.flush (s : SpS h p6 n6 c6 p7 n7 c7 q n X now L) {j : Nat} (hp : p7 = some ⟨j, 0, none⟩) (hn : now ≠ []) (hj : j < h.size) (hg : h.get j = .cells (now.map .string) 1 false) :
    SpS (grown h p6 1 1 (X.map bv) (bv (j, now))) (some ⟨h.size + 1, 0, none⟩) (n6 + 1) (n6 + 1) none 0 0 q n (X ++ [(j, now)]) [] L := by
  have ne : ∀ i l, l ≠ [] → h.get i = .cells (l.map .string) 1 false → ∀ a, p6 = some a → i ≠ a.block := by
    rintro i l hl hi a ha rfl
    rcases s.out.2.2 with ⟨_, hp⟩ | ⟨k, hp, _, _, hk⟩
    · rw [hp] at ha; cases ha
    · rw [hp] at ha; cases ha
      rw [hi] at hk
      exact str_ne_bv hl hk
  have hout : RowR (grown h p6 1 1 (X.map bv) (bv (j, now))) (some ⟨h.size + 1, 0, none⟩) (n6 + 1) (n6 + 1) ((X ++ [(j, now)]).map bv) 1 := by
    have := s.out.grow (t := 1) (v := bv (j, now))
    simpa using this
  refine ⟨hout, RowR.empty _ _, ?_, by simp, s.arg.grown s.out⟩
  intro x hx
  rcases List.mem_append.1 hx with hx | hx
  · obtain ⟨h1, h2, h3⟩ := s.bats x hx
    refine ⟨h1, by rw [grown_size]; omega, ?_⟩
    rw [grown_old h2 (ne x.1 x.2 h1 h3)]
    exact h3
  · rw [List.mem_singleton.1 hx]
    refine ⟨hn, by rw [grown_size]; simp only; omega, ?_⟩
    rw [grown_old hj (ne j now hn hg)]
    exact hg
theorem SpS.more (s : SpS h p6 n6 c6 p7 n7 c7 q n X now L) (u : ByteArray) :
    SpS (grown h p7 1 1 (now.map .string) (.string u)) p6 n6 c6 (some ⟨h.size + 1, 0, none⟩) (n7 + 1) (n7 + 1) q n X (now ++ [u]) L := by
  have hnow : RowR (grown h p7 1 1 (now.map .string) (.string u)) (some ⟨h.size + 1, 0, none⟩) (n7 + 1) (n7 + 1) ((now ++ [u]).map .string) 1 := by
    have := s.nowr.grow (t := 1) (v := .string u)
    simpa using this
  refine ⟨⟨s.out.1, s.out.2.1, ?_⟩, hnow, ?_, ?_, s.arg.grown s.nowr⟩
  · rcases s.out.2.2 with hp | ⟨k, hp, hne, hlt, hk⟩
    · exact .inl hp
    · refine .inr ⟨k, hp, hne, by rw [grown_size]; omega, ?_⟩
      rw [grown_old hlt]
      · exact hk
      · rintro a ha rfl
        rcases s.nowr.2.2 with ⟨_, hp7⟩ | ⟨i, hp7, hn7, _, hi⟩
        · rw [hp7] at ha; cases ha
        · rw [hp7] at ha; cases ha
          rw [hi] at hk
          exact str_ne_bv (by simpa using hn7) hk
  · intro x hx
    obtain ⟨h1, h2, h3⟩ := s.bats x hx
    refine ⟨h1, by rw [grown_size]; omega, ?_⟩
    rw [grown_old h2 (s.apart x hx)]
    exact h3
  · rintro x hx a ha
    cases ha
    have := (s.bats x hx).2.1
    simp only
    omega

theorem split_long (hp : pr 35 = none) (hp2 : pr 79 = none) (c most : Nat) (hm : most ≤ 512) (hL : L.length ≤ 300) (hs100 : ∀ u ∈ L, u.size ≤ 100) : ∀ (m i : Nat) (h : Heap) (p6 p7 : Option Addr) (n6 c6 n7 c7 : Nat) (X : List (Nat × List ByteArray)) (now : List ByteArray) (k : Nat),
    i + m = L.length → (∃ (j : Nat) (u : ByteArray), i ≤ j ∧ L[j]? = some u ∧ most < u.size) → SpS h p6 n6 c6 p7 n7 c7 q n X now L → X.length ≤ i → now.length ≤ 100 → sz now ≤ 512 → (now = [] → X = []) → 3 * m + 110 ≤ k →
    ∃ h', batch_Split_250 pr k most p6 n6 c6 p7 n7 c7 q n c (n : Nat) (i : Nat) h = some (.tuple ⟨[.slice none 0 0, .int .i64 5]⟩, h')
  | 0, i, h, p6, p7, n6, c6, n7, c7, X, now, k, hi, ⟨j, u, hj, hu, _⟩, s, hX, hN, hZ, hnil, hk => by
    have : j < L.length := (List.getElem?_eq_some_iff.1 hu).1
    omega
  | m + 1, i, h, p6, p7, n6, c6, n7, c7, X, now, k, hi, ⟨j, u, hj, hu, hbig⟩, s, hX, hN, hZ, hnil, hk => by
    obtain ⟨k, rfl⟩ : ∃ j, k = j + 3 := ⟨k - 3, by omega⟩
    have hn := s.arg.1
    rw [batch_Split_250_eq hp]
    have : decide ((i : Int) < (n : Int)) = true := by simp; omega
    rw [this, cond_true, inb_of (by omega) (by omega)]
    obtain ⟨v, hv⟩ := get_lt (L := L) (i := i) (by omega)
    rw [s.arg.strs.read hv]
    by_cases hvb : most < v.size
    · have : decide ((v.size : Int) > (most : Int)) = true := by simp; omega
      rw [this, cond_true]
      exact ⟨_, rfl⟩
    · have : decide ((v.size : Int) > (most : Int)) = false := by simp; omega
      rw [this, cond_false]
      have hij : i ≠ j := by
        rintro rfl
        rw [hv] at hu; cases hu
        exact hvb hbig
      have hv100 : v.size ≤ 100 := hs100 v (List.mem_of_getElem? hv)
      have hn7 : n7 = now.length := by simpa using s.nowr.1
      -- behind the test
      have body : ∀ b : Bool, (b = true ↔ now.length = 100 ∨ sz now + v.size > most) → ∃ h', batch_Split_128205 pr (k + 2) most p6 n6 c6 p7 n7 c7 v q n c (n : Nat) (i : Nat) b h = some (.tuple ⟨[.slice none 0 0, .int .i64 5]⟩, h') := by
        intro b hb
        rw [batch_Split_128205_eq hp]
        cases b with
        | true =>
          have hne : now ≠ [] := by
            rintro rfl
            rcases hb.1 rfl with q | q
            · simp at q
            · simp [sz] at q; omega
          obtain ⟨jn, hp7, _, hlt, hg⟩ : ∃ j, p7 = some ⟨j, 0, none⟩ ∧ now.map Value.string ≠ [] ∧ j < h.size ∧ h.get j = .cells (now.map .string) 1 false := by
            rcases s.nowr.2.2 with ⟨h1, _⟩ | h1
            · exact absurd (by simpa using h1) hne
            · exact h1
          rw [cond_true]
          have hb' : Value.slice p7 n7 c7 = bv (jn, now) := by rw [hp7, s.nowr.2.1, hn7]; rfl
          have hn6 : n6 = X.length := by simpa using s.out.1
          simp only [hb']
          rw [s.out.app (by rfl) (small_of (by omega) (by omega))]
          have s2 := s.flush hp7 hne hlt hg
          rw [batch_Split_64103_eq hp, s2.nowr.app (by rfl) (small_of (by omega) (by omega))]
          rw [wrap_small (by omega) (by omega)]
          exact split_long hp hp2 c most hm hL hs100 m (i + 1) _ _ _ _ _ _ _ _ _ k (by omega) ⟨j, u, by omega, hu, hbig⟩ (s2.more v) (by simp; omega) (by simp) (by simp [sz]; omega) (by simp) (by omega)
        | false =>
          rw [cond_false, batch_Split_64103_eq hp, s.nowr.app (by rfl) (small_of (by omega) (by omega))]
          rw [wrap_small (by omega) (by omega)]
          have hnb : ¬ (now.length = 100 ∨ sz now + v.size > most) := fun q => by have := hb.2 q; cases this
          exact split_long hp hp2 c most hm hL hs100 m (i + 1) _ _ _ _ _ _ _ _ _ k (by omega) ⟨j, u, by omega, hu, hbig⟩ (s.more v) (by omega) (by simp; omega) (by rw [sz_snoc]; omega) (by simp) (by omega)
      by_cases h100 : now.length = 100
      · have : ((n7 : Int) == 100) = true := by simp; omega
        rw [this, cond_true]
        exact body true (by simp [h100])
      · have : ((n7 : Int) == 100) = false := by simp; omega
        rw [this, cond_false, bsize_ok hp2 s.nowr.strs (by omega) (by omega) (k + 2) (by omega)]
        simp only [cl, cI, if_true]
        rw [wrap_small (by omega) (by omega)]
        exact body _ (by simp [h100]; omega)

theorem split_ok (hp : pr 35 = none) (hp2 : pr 79 = none) (c most : Nat) (hm : most ≤ 512) (hL : L.length ≤ 300) : ∀ (m i : Nat) (h : Heap) (p6 p7 : Option Addr) (n6 c6 n7 c7 : Nat) (X : List (Nat × List ByteArray)) (now : List ByteArray) (k : Nat),
    i + m = L.length → (∀ (j : Nat) (u : ByteArray), L[j]? = some u → u.size ≤ most) → SpS h p6 n6 c6 p7 n7 c7 q n X now L → X.length ≤ i → now.length ≤ 100 → sz now ≤ 512 → 3 * m + 110 ≤ k →
    ∃ h' p' n' c' Y, batch_Split_250 pr k most p6 n6 c6 p7 n7 c7 q n c (n : Nat) (i : Nat) h = some (.tuple ⟨[.slice p' n' c', .int .i64 0]⟩, h') ∧ SpS h' p' n' c' none 0 0 q n Y [] L ∧ Y.map (·.2) = splG ByteArray.size most (X.map (·.2)) now (L.drop i)
  | 0, i, h, p6, p7, n6, c6, n7, c7, X, now, k, hi, hsm, s, hX, hN, hZ, hk => by
    obtain ⟨k, rfl⟩ : ∃ j, k = j + 1 := ⟨k - 1, by omega⟩
    have hn := s.arg.1
    rw [batch_Split_250_eq hp]
    have : decide ((i : Int) < (n : Int)) = false := by simp; omega
    rw [this, cond_false]
    have hn7 : n7 = now.length := by simpa using s.nowr.1
    have hn6 : n6 = X.length := by simpa using s.out.1
    rw [List.drop_eq_nil_of_le (by omega)]
    unfold splG
    by_cases hne : now = []
    · subst hne
      have : decide ((n7 : Int) > 0) = false := by simp; simp at hn7; omega
      rw [this, cond_false]
      refine ⟨h, p6, n6, c6, X, rfl, ⟨s.out, RowR.empty _ _, s.bats, by simp, s.arg⟩, by simp⟩
    · have hpos := List.length_pos_iff.2 hne
      have : decide ((n7 : Int) > 0) = true := by simp; omega
      rw [this, cond_true]
      obtain ⟨jn, hp7, _, hlt, hg⟩ : ∃ j, p7 = some ⟨j, 0, none⟩ ∧ now.map Value.string ≠ [] ∧ j < h.size ∧ h.get j = .cells (now.map .string) 1 false := by
        rcases s.nowr.2.2 with ⟨h1, _⟩ | h1
        · exact absurd (by simpa using h1) hne
        · exact h1
      have hb' : Value.slice p7 n7 c7 = bv (jn, now) := by rw [hp7, s.nowr.2.1, hn7]; rfl
      simp only [hb']
      rw [s.out.app (by rfl) (small_of (by omega) (by omega))]
      refine ⟨_, _, _, _, _, rfl, s.flush hp7 hne hlt hg, ?_⟩
      rw [if_pos hpos]
      simp
  | m + 1, i, h, p6, p7, n6, c6, n7, c7, X, now, k, hi, hsm, s, hX, hN, hZ, hk => by
    obtain ⟨k, rfl⟩ : ∃ j, k = j + 3 := ⟨k - 3, by omega⟩
    have hn := s.arg.1
    rw [batch_Split_250_eq hp]
    have : decide ((i : Int) < (n : Int)) = true := by simp; omega
    rw [this, cond_true, inb_of (by omega) (by omega)]
    obtain ⟨v, hv⟩ := get_lt (L := L) (i := i) (by omega)
    rw [s.arg.strs.read hv]
    have hvb := hsm i v hv
    have : decide ((v.size : Int) > (most : Int)) = false := by simp; omega
    rw [this, cond_false]
    have hn7 : n7 = now.length := by simpa using s.nowr.1
    have hdrop : L.drop i = v :: L.drop (i + 1) := by
      rw [List.drop_eq_getElem_cons (by omega)]
      congr 1
      rw [List.getElem?_eq_getElem (by omega)] at hv
      exact Option.some.inj hv
    have body : ∀ b : Bool, (b = true ↔ now.length = 100 ∨ sz now + v.size > most) → ∃ h' p' n' c' Y, batch_Split_128205 pr (k + 2) most p6 n6 c6 p7 n7 c7 v q n c (n : Nat) (i : Nat) b h = some (.tuple ⟨[.slice p' n' c', .int .i64 0]⟩, h') ∧ SpS h' p' n' c' none 0 0 q n Y [] L ∧ Y.map (·.2) = splG ByteArray.size most (X.map (·.2)) now (L.drop i) := by
      intro b hb
      rw [batch_Split_128205_eq hp, hdrop]
      unfold splG
      cases b with
      | true =>
        have hne : now ≠ [] := by
          rintro rfl
          rcases hb.1 rfl with q | q
          · simp at q
          · simp [sz] at q; omega
        obtain ⟨jn, hp7, _, hlt, hg⟩ : ∃ j, p7 = some ⟨j, 0, none⟩ ∧ now.map Value.string ≠ [] ∧ j < h.size ∧ h.get j = .cells (now.map .string) 1 false := by
          rcases s.nowr.2.2 with ⟨h1, _⟩ | h1
          · exact absurd (by simpa using h1) hne
          · exact h1
        rw [cond_true, if_pos (show now.length = 100 ∨ szf ByteArray.size now + v.size > most from hb.1 rfl)]
        have hb' : Value.slice p7 n7 c7 = bv (jn, now) := by rw [hp7, s.nowr.2.1, hn7]; rfl
        have hn6 : n6 = X.length := by simpa using s.out.1
        simp only [hb']
        rw [s.out.app (by rfl) (small_of (by omega) (by omega))]
        have s2 := s.flush hp7 hne hlt hg
        rw [batch_Split_64103_eq hp, s2.nowr.app (by rfl) (small_of (by omega) (by omega))]
        rw [wrap_small (by omega) (by omega)]
        have := split_ok hp hp2 c most hm hL m (i + 1) _ _ _ _ _ _ _ _ _ k (by omega) hsm (s2.more v) (by simp; omega) (by simp) (by simp [sz]; omega) (by omega)
        simpa using this
      | false =>
        have hnb : ¬ (now.length = 100 ∨ sz now + v.size > most) := fun q => by have := hb.2 q; cases this
        rw [cond_false, if_neg (show ¬ (now.length = 100 ∨ szf ByteArray.size now + v.size > most) from hnb), batch_Split_64103_eq hp, s.nowr.app (by rfl) (small_of (by omega) (by omega))]
        rw [wrap_small (by omega) (by omega)]
        exact split_ok hp hp2 c most hm hL m (i + 1) _ _ _ _ _ _ _ _ _ k (by omega) hsm (s.more v) (by omega) (by simp; omega) (by rw [sz_snoc]; omega) (by omega)
    by_cases h100 : now.length = 100
    · have : ((n7 : Int) == 100) = true := by simp; omega
      rw [this, cond_true]
      exact body true (by simp [h100])
    · have : ((n7 : Int) == 100) = false := by simp; omega
      rw [this, cond_false, bsize_ok hp2 s.nowr.strs (by omega) (by omega) (k + 2) (by omega)]
      simp only [cl, cI, if_true]
      rw [wrap_small (by omega) (by omega)]
      exact body _ (by simp [h100]; omega)
end
end Ab
end Go.Proofs.YtaaacaejpchbpaaGreat
