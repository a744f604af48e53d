/- A region that draws its order: what its own look tells of every order. No condition. -/
import Derived.Test.YtaaacaejpchbpaaGreatSta
import Derived.Test.YtaaacaejpchbpaaGreatLate
set_option linter.unusedVariables false
set_option linter.unusedSimpArgs false
namespace Go.Proofs.YtaaacaejpchbpaaGreat
namespace Ab
open Go Go.RowKit

/- what stands before -/
def befOne (acc : List Nat) (o : Oper) : Nat := o.after.toList.foldl (fun s e => match Region.binds .any e with | true => s ||| 2 ^ e.on ||| acc.getD e.on 0 | false => s) 0
theorem bef_snoc (l : List Oper) (o : Oper) : bef (l ++ [o]) = bef l ++ [befOne (bef l) o] := by
  simp only [bef, List.foldl_append, List.foldl_cons, List.foldl_nil, befOne]
  rfl
theorem snoc_ind {α : Type} {p : List α → Prop} (h0 : p []) (h1 : ∀ l o, p l → p (l ++ [o])) (l : List α) : p l := by
  have : ∀ m : List α, p m.reverse := by
    intro m
    induction m with
    | nil => exact h0
    | cons o m ih => rw [List.reverse_cons]; exact h1 _ _ ih
  simpa using this l.reverse
theorem bef_length (l : List Oper) : (bef l).length = l.length := by
  refine snoc_ind (p := fun l => (bef l).length = l.length) rfl (fun l o ih => ?_) l
  rw [bef_snoc]; simp [ih]
theorem bef_get : ∀ (l : List Oper) (k : Nat) (o : Oper), l[k]? = some o → (bef l).getD k 0 = befOne ((bef l).take k) o := by
  refine snoc_ind (p := fun l => ∀ (k : Nat) (o : Oper), l[k]? = some o → (bef l).getD k 0 = befOne ((bef l).take k) o) (fun k o h => by simp at h) fun l p ih => ?_
  · intro k o h
    rw [bef_snoc]
    rcases Nat.lt_trichotomy k l.length with q | q | q
    · rw [List.getElem?_append_left q] at h
      rw [List.take_append_of_le_length (by rw [bef_length]; omega)]
      have := ih k o h
      rw [← this]
      simp [List.getD, List.getElem?_append_left (show k < (bef l).length by rw [bef_length]; exact q)]
    · subst q
      simp at h
      subst h
      have hl := bef_length l
      simp [List.getD, ← hl, List.take_left]
    · rw [List.getElem?_append_right (by omega), List.getElem?_eq_none (by simp; omega)] at h
      cases h
theorem foldl_bit (acc : List Nat) (i : Nat) : ∀ (es : List Edge) (s : Nat), (es.foldl (fun s e => match Region.binds .any e with | true => s ||| 2 ^ e.on ||| acc.getD e.on 0 | false => s) s).testBit i = true →
    s.testBit i = true ∨ ∃ e ∈ es, Region.binds .any e = true ∧ (e.on = i ∨ (acc.getD e.on 0).testBit i = true)
  | [], s, h => .inl h
  | e :: es, s, h => by
    rw [List.foldl_cons] at h
    rcases foldl_bit acc i es _ h with q | ⟨e', he', hb, hq⟩
    · cases hb : Region.binds .any e
      · rw [hb] at q
        exact .inl q
      · rw [hb] at q
        simp only [Nat.testBit_or, Bool.or_eq_true] at q
        rcases q with (q | q) | q
        · exact .inl q
        · refine .inr ⟨e, by simp, hb, .inl ?_⟩
          rw [Nat.testBit_two_pow] at q
          simpa using q
        · exact .inr ⟨e, by simp, hb, .inr q⟩
    · exact .inr ⟨e', by simp [he'], hb, hq⟩

/-- A set closed under what binds holds all that stands before a ready operation. -/
theorem bef_closed {ops : List Oper} {L : Nat → Bool} (hc : ∀ j, L j = true → ∀ o, ops[j]? = some o → ∀ e ∈ o.after, Region.binds .any e = true → L e.on = true) :
    ∀ (n j : Nat), j < n → ∀ o, ops[j]? = some o → (∀ e ∈ o.after, Region.binds .any e = true → L e.on = true) → ∀ i, ((bef ops).getD j 0).testBit i = true → L i = true := by
  intro n
  induction n with
  | zero => intro j hj; omega
  | succ n ih =>
    intro j hj o ho hr i hi
    rw [bef_get ops j o ho] at hi
    rcases foldl_bit _ i _ _ hi with q | ⟨e, he, hb, hq⟩
    · simp at q
    · have hLe := hr e (by simpa using he) hb
      rcases hq with q | q
      · rw [← q]; exact hLe
      · have hlt : e.on < j := by
          rcases Nat.lt_or_ge e.on j with q2 | q2
          · exact q2
          · exfalso
            rw [List.getD_eq_getElem?_getD, List.getElem?_take_eq_none q2] at q
            simp at q
        have hq' : ((bef ops).getD e.on 0).testBit i = true := by
          rw [List.getD_eq_getElem?_getD, List.getElem?_take_of_lt hlt] at q
          rw [List.getD_eq_getElem?_getD]
          exact q
        have hlen : j < ops.length := by
          rcases Nat.lt_or_ge j ops.length with q2 | q2
          · exact q2
          · rw [List.getElem?_eq_none q2] at ho; cases ho
        obtain ⟨p, hp⟩ : ∃ p, ops[e.on]? = some p := ⟨ops[e.on]'(by omega), List.getElem?_eq_getElem _⟩
        exact ih e.on (by omega) p hp (hc e.on hLe p hp) i hq'

/-- What `okFrom` tells of each place in the order. -/
theorem okFrom_at {ops : List Oper} {bs : List Nat} : ∀ (c : List Nat) (done : Nat) (pre0 : List Nat), (∀ j, done.testBit j = true ↔ j ∈ pre0) → okFrom ops bs done c = true →
    ∀ pre i post, c = pre ++ i :: post → ∃ o, ops[i]? = some o ∧ i ∉ pre0 ∧ i ∉ pre ∧ (∀ e ∈ o.after, Region.binds .any e = true → e.on ∈ pre0 ∨ e.on ∈ pre) ∧
      (heavy o = true → ∀ j ∈ post, (bs.getD j 0).testBit i = true) ∧ (∀ j ∈ post, (bs.getD j 0).testBit i = true ∨ ∃ p, ops[j]? = some p ∧ o.apart ops.toArray p = true) ∧
      (∀ g want, o.guard = some (g, want) → (bs.getD i 0).testBit g = true)
  | [], done, pre0, hd, h, pre, i, post, hc => by simp at hc
  | k :: c, done, pre0, hd, h, pre, i, post, hc => by
    simp only [okFrom, Bool.and_eq_true] at h
    obtain ⟨h1, h2⟩ := h
    cases pre with
    | nil =>
      simp at hc
      obtain ⟨rfl, rfl⟩ := hc
      split at h1
      · rename_i o ho
        simp only [Bool.and_eq_true, Bool.not_eq_true'] at h1
        obtain ⟨⟨⟨⟨a1, a2⟩, a3⟩, a4⟩, a5⟩ := h1
        refine ⟨o, ho, fun q => (by rw [(hd k).2 q] at a1; cases a1), by simp, ?_, ?_, ?_, ?_⟩
        · intro e he hb
          have := List.all_eq_true.1 a2 e (by simpa using he)
          rw [hb] at this
          exact .inl ((hd _).1 (by simpa using this))
        · intro hh j hj
          rw [hh] at a3
          exact List.all_eq_true.1 a3 j hj
        · intro j hj
          have := List.all_eq_true.1 a4 j hj
          simp only [Bool.or_eq_true] at this
          rcases this with q | q
          · exact .inl q
          · right
            split at q
            · exact ⟨_, by assumption, q⟩
            · cases q
        · intro g want hg
          rw [hg] at a5
          exact a5
      · cases h1
    | cons k' pre =>
      simp at hc
      obtain ⟨rfl, hc⟩ := hc
      have hbit : ∀ j, (done ||| 2 ^ k).testBit j = true ↔ j ∈ k :: pre0 := by
        intro j
        rw [Nat.testBit_or, Nat.testBit_two_pow]
        simp only [Bool.or_eq_true, hd, decide_eq_true_eq, List.mem_cons]
        constructor
        · rintro (q | q)
          · exact .inr q
          · exact .inl q.symm
        · rintro (q | q)
          · exact .inr q.symm
          · exact .inl q
      obtain ⟨o, b1, b2, b3, b4, b5, b6, b7⟩ := okFrom_at c (done ||| 2 ^ k) (k :: pre0) hbit h2 pre i post hc
      simp only [List.mem_cons, not_or] at b2
      refine ⟨o, b1, b2.2, by simp [b2.1, b3], fun e he hb => ?_, b5, b6, b7⟩
      rcases b4 e he hb with q | q
      · simp only [List.mem_cons] at q
        rcases q with q | q
        · exact .inr (by simp [q])
        · exact .inl q
      · exact .inr (by simp [q])
end Ab
end Go.Proofs.YtaaacaejpchbpaaGreat
