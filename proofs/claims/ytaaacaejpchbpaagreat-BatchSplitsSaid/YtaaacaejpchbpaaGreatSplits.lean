/- Records split into batches, as a plain function, and what it keeps. No condition. -/
set_option linter.unusedVariables false
namespace Go.Proofs.YtaaacaejpchbpaaGreat
namespace Ab
section
variable {α : Type} (f : α → Nat)
def szf (L : List α) : Nat := (L.map f).sum
/-- The walk of the program's Split: what is out, what is gathered now, what is left. -/
def splG (most : Nat) : List (List α) → List α → List α → List (List α)
  | out, now, [] => if now.length > 0 then out ++ [now] else out
  | out, now, s :: l => if now.length = 100 ∨ szf f now + f s > most then splG most (out ++ [now]) [s] l else splG most out (now ++ [s]) l

/-- No batch could have had one more of the next. -/
def Tight (most : Nat) : List (List α) → Prop
  | a :: b :: l => (∀ s, b.head? = some s → a.length = 100 ∨ szf f a + f s > most) ∧ Tight most (b :: l)
  | _ => True
def Fits1 (most : Nat) (b : List α) : Prop := 0 < b.length ∧ b.length ≤ 100 ∧ szf f b ≤ most
theorem tight_snoc {most : Nat} : ∀ {out : List (List α)} {a : List α}, Tight f most out → (∀ l s, out.getLast? = some l → a.head? = some s → l.length = 100 ∨ szf f l + f s > most) → Tight f most (out ++ [a])
  | [], a, _, _ => trivial
  | [b], a, _, h => ⟨fun s hs => h b s rfl hs, trivial⟩
  | b :: c :: l, a, ht, h => by
    have ih := tight_snoc (out := c :: l) (a := a) ht.2 (fun x s hx hs => h x s (by simpa using hx) hs)
    exact ⟨ht.1, ih⟩
theorem splG_ok {most : Nat} : ∀ (l : List α) (out : List (List α)) (now : List α), (∀ s ∈ l, f s ≤ most) → (∀ b ∈ out, Fits1 f most b) → (out ≠ [] → now ≠ []) → (now ≠ [] → Fits1 f most now) → Tight f most (if now.length > 0 then out ++ [now] else out) →
    (∀ b ∈ splG f most out now l, Fits1 f most b) ∧ Tight f most (splG f most out now l) ∧ (splG f most out now l).flatten = out.flatten ++ now ++ l
  | [], out, now, hl, ho, hon, hn, ht => by
    unfold splG
    refine ⟨?_, ht, ?_⟩
    · intro b hb
      split at hb
      · rcases List.mem_append.1 hb with q | q
        · exact ho b q
        · rw [List.mem_singleton.1 q]
          exact hn (by rintro rfl; simp at *)
      · exact ho b hb
    · split
      · simp
      · have : now = [] := List.eq_nil_of_length_eq_zero (by omega)
        simp [this]
  | s :: l, out, now, hl, ho, hon, hn, ht => by
    unfold splG
    have hs := hl s (by simp)
    split
    · rename_i hc
      have hne : now ≠ [] := by
        rintro rfl
        rcases hc with q | q
        · simp at q
        · simp [szf] at q; omega
      have hnl : now.length > 0 := List.length_pos_iff.2 hne
      rw [if_pos hnl] at ht
      have := splG_ok l (out ++ [now]) [s] (fun x hx => hl x (by simp [hx])) (fun b hb => by
        rcases List.mem_append.1 hb with q | q
        · exact ho b q
        · rw [List.mem_singleton.1 q]; exact hn hne) (by simp) (fun _ => ⟨by simp, by simp, by simpa [szf] using hs⟩) (by
        rw [if_pos (by simp)]
        refine tight_snoc f ht (fun x u hx hu => ?_)
        simp at hx hu
        subst hx; subst hu
        exact hc)
      simpa using this
    · rename_i hc
      have hlt : now.length ≤ 100 := by
        by_cases q : now = []
        · simp [q]
        · exact (hn q).2.1
      have hle : szf f now + f s ≤ most := by
        rcases Nat.lt_or_ge most (szf f now + f s) with q | q
        · exact absurd (.inr q) hc
        · exact q
      have := splG_ok l out (now ++ [s]) (fun x hx => hl x (by simp [hx])) ho (by simp) (fun _ => ⟨by simp, by
          simp
          rcases Nat.lt_or_ge now.length 100 with q | q
          · omega
          · exact absurd (.inl (by omega)) hc, by simpa [szf] using hle⟩) (by
        rw [if_pos (by simp)]
        by_cases q : now = []
        · subst q
          have : out = [] := by
            by_cases q2 : out = []
            · exact q2
            · exact absurd rfl (hon q2)
          subst this
          trivial
        · rw [if_pos (List.length_pos_iff.2 q)] at ht
          exact tight_swap ht q)
      simpa using this
where
  tight_swap {most : Nat} {s : α} : ∀ {out : List (List α)} {now : List α}, Tight f most (out ++ [now]) → now ≠ [] → Tight f most (out ++ [now ++ [s]])
  | [], now, _, _ => trivial
  | [b], now, h, hn => ⟨fun x hx => h.1 x (by cases now with | nil => exact absurd rfl hn | cons y r => simpa using hx), trivial⟩
  | b :: c :: l, now, h, hn => ⟨h.1, tight_swap (out := c :: l) h.2 hn⟩
end
end Ab
end Go.Proofs.YtaaacaejpchbpaaGreat
