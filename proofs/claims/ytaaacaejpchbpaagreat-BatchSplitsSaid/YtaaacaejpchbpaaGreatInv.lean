/- What a success of each step of the interpreter says. No condition. -/
import Derived.Test.YtaaacaejpchbpaaGreatRel
set_option linter.unusedVariables false
set_option linter.unusedSimpArgs false
namespace Go.Proofs.YtaaacaejpchbpaaGreat
namespace Ab
open Go Go.RowKit
section
variable {ρ : Type} {r : ρ}

theorem cI_some {k : IntKind} {v : Value} {K : Int → Option ρ} (h : cI k v K = some r) : ∃ n, v = .int k n ∧ K n = some r := by
  unfold cI at h; split at h
  · split at h
    · rename_i e; subst e; exact ⟨_, rfl, h⟩
    · cases h
  · cases h
theorem cB_some {v : Value} {K : Bool → Option ρ} (h : cB v K = some r) : ∃ n, v = .bool n ∧ K n = some r := by
  unfold cB at h; split at h <;> first | exact ⟨_, rfl, h⟩ | cases h
theorem cS_some {v : Value} {K : ByteArray → Option ρ} (h : cS v K = some r) : ∃ n, v = .string n ∧ K n = some r := by
  unfold cS at h; split at h <;> first | exact ⟨_, rfl, h⟩ | cases h
theorem cP_some {v : Value} {K : Option Addr → Option ρ} (h : cP v K = some r) : ∃ n, v = .pointer n ∧ K n = some r := by
  unfold cP at h; split at h <;> first | exact ⟨_, rfl, h⟩ | cases h
theorem cL_some {v : Value} {K : Option Addr → Nat → Nat → Option ρ} (h : cL v K = some r) : ∃ p n c, v = .slice p n c ∧ K p n c = some r := by
  unfold cL at h; split at h <;> first | exact ⟨_, _, _, rfl, h⟩ | cases h
theorem cM_some {v : Value} {K : Option Nat → Option ρ} (h : cM v K = some r) : ∃ n, v = .map n ∧ K n = some r := by
  unfold cM at h; split at h <;> first | exact ⟨_, rfl, h⟩ | cases h
theorem cA_some {v : Value} {K : List Value → Option ρ} (h : cA v K = some r) : ∃ n : Array Value, v = .agg n ∧ K n.toList = some r := by
  unfold cA at h; split at h <;> first | exact ⟨_, rfl, h⟩ | cases h
theorem cT_some {v : Value} {K : List Value → Option ρ} (h : cT v K = some r) : ∃ n : Array Value, v = .tuple n ∧ K n.toList = some r := by
  unfold cT at h; split at h <;> first | exact ⟨_, rfl, h⟩ | cases h
theorem cF_some {v : Value} {K : Nat → List Value → List Value → Option ρ} (h : cF v K = some r) : ∃ (f : Nat) (a b : Array Value), v = .func (.func f) a b ∧ K f a.toList b.toList = some r := by
  unfold cF at h; split at h <;> first | exact ⟨_, _, _, rfl, h⟩ | cases h
theorem cX_some {v : Value} {K : Nat → Value → Option ρ} (h : cX v K = some r) : ∃ t x, v = .iface t x ∧ K t x = some r := by
  unfold cX at h; split at h <;> first | exact ⟨_, _, rfl, h⟩ | cases h
theorem cnn_some {v : Value} {K : Option ρ} (h : cnn v K = some r) : ((∃ t x, v = .iface t x) ∨ ∃ (f : Nat) (a b : Array Value), v = .func (.func f) a b) ∧ K = some r := by
  unfold cnn at h; split at h <;> first | exact ⟨.inl ⟨_, _, rfl⟩, h⟩ | exact ⟨.inr ⟨_, _, _, rfl⟩, h⟩ | cases h
theorem uc_some {l : List Value} {K : Value → List Value → Option ρ} (h : uc l K = some r) : ∃ v m, l = v :: m ∧ K v m = some r := by
  unfold uc at h; split at h <;> first | exact ⟨_, _, rfl, h⟩ | cases h
theorem ue_some {l : List Value} {K : Option ρ} (h : ue l K = some r) : l = [] ∧ K = some r := by
  unfold ue at h; split at h <;> first | exact ⟨rfl, h⟩ | cases h
theorem nn_some {p : Option Addr} {K : Addr → Option ρ} (h : nn p K = some r) : ∃ a, p = some a ∧ K a = some r := by
  unfold nn at h; split at h <;> first | exact ⟨_, rfl, h⟩ | cases h
theorem ld_some {h : Heap} {p : Option Addr} {i : Nat} {K : Value → Option ρ} (e : ld h p i K = some r) : ∃ a v, p = some a ∧ cellAt h a i = some v ∧ K v = some r := by
  unfold ld at e; split at e
  · split at e
    · exact ⟨_, _, rfl, by assumption, e⟩
    · cases e
  · cases e
theorem cast1_some {k : Kd} {v : Value} {K : Value → Option ρ} (h : cast1 k v K = some r) : K v = some r := by
  unfold cast1 at h
  cases k <;> simp only at h
  · obtain ⟨n, rfl, h1⟩ := cI_some h; exact h1
  · obtain ⟨n, rfl, h1⟩ := cB_some h; exact h1
  · obtain ⟨n, rfl, h1⟩ := cS_some h; exact h1
  · obtain ⟨n, rfl, h1⟩ := cP_some h; exact h1
  · obtain ⟨p, n, c, rfl, h1⟩ := cL_some h; exact h1
  · obtain ⟨n, rfl, h1⟩ := cM_some h; exact h1
  · exact h
theorem castL_some : ∀ {ks : List Kd} {l : List Value} {K : List Value → Option ρ}, castL ks l K = some r → K l = some r
  | [], l, K, h => by obtain ⟨rfl, h1⟩ := ue_some h; exact h1
  | k :: ks, l, K, h => by
    obtain ⟨v, m, rfl, h1⟩ := uc_some h
    exact castL_some (K := fun r => K (v :: r)) (cast1_some h1)
theorem castTy_some {t : TyR} {v : Value} {K : Value → Option ρ} (h : castTy t v K = some r) : K v = some r := by
  unfold castTy at h
  split at h
  · obtain ⟨n, rfl, h1⟩ := cA_some h
    exact castL_some (K := fun l => K (.agg ⟨l⟩)) h1
  · split at h
    · exact cast1_some h
    · cases h
theorem castTs_some {T : Nat → TyR} : ∀ {ts : List Nat} {l : List Value} {K : List Value → Option ρ}, castTs T ts l K = some r → K l = some r
  | [], l, K, h => by obtain ⟨rfl, h1⟩ := ue_some h; exact h1
  | t :: ts, l, K, h => by
    obtain ⟨v, m, rfl, h1⟩ := uc_some h
    exact castTs_some (K := fun r => K (v :: r)) (castTy_some h1)
theorem castAny_some {T : Nat → TyR} {t : Nat} {v : Value} {K : Value → Option ρ} (h : castAny T t v K = some r) : K v = some r := by
  unfold castAny at h
  split at h
  · obtain ⟨n, rfl, h1⟩ := cT_some h
    exact castTs_some (K := fun l => K (.tuple ⟨l⟩)) h1
  · exact castTy_some h
theorem castRK_some {k : RK} {v : Value} {K : Value → Option ρ} (h : castRK k v K = some r) : K v = some r := by
  cases k with
  | atom k => exact cast1_some h
  | agg ks =>
    unfold castRK at h
    obtain ⟨n, rfl, h1⟩ := cA_some h
    exact castL_some (K := fun l => K (.agg ⟨l⟩)) h1
theorem ldL_some {h : Heap} {p : Option Addr} : ∀ {ks : List Kd} {i : Nat} {K : List Value → Option ρ}, ldL h p ks i K = some r → ∃ l, K l = some r ∧ l.length = ks.length ∧ ∀ a, p = some a → ∀ j v, l[j]? = some v → cellAt h a (i + j) = some v
  | [], i, K, e => ⟨[], e, rfl, by simp⟩
  | k :: ks, i, K, e => by
    obtain ⟨a, v, rfl, hc, e⟩ := ld_some e
    obtain ⟨l, h1, h2, h3⟩ := ldL_some (K := fun r => K (v :: r)) (cast1_some e)
    refine ⟨v :: l, h1, by simp [h2], ?_⟩
    intro a' ha j u hu
    cases ha
    cases j with
    | zero => simp at hu; subst hu; simpa using hc
    | succ j => have := h3 a rfl j u (by simpa using hu); rwa [show i + 1 + j = i + (j + 1) by omega] at this
/-- What a load of a type's variable met. -/
def LdOk (t : TyR) (h : Heap) (a : Addr) (v : Value) : Prop :=
  (t.isAgg = true ∧ ∃ l, v = .agg ⟨l⟩ ∧ l.length = t.size ∧ ∀ j u, l[j]? = some u → cellAt h a j = some u) ∨ (t.isAgg = false ∧ cellAt h a 0 = some v ∧ t.ks ≠ [])
theorem ldTy_some {t : TyR} {h : Heap} {p : Option Addr} {K : Value → Option ρ} (e : ldTy t h p K = some r) (hz : t.isAgg = true → t.size ≠ 0) :
    ∃ a v, p = some a ∧ LdOk t h a v ∧ K v = some r := by
  unfold ldTy at e
  split at e
  · rename_i hagg
    split at e
    · rename_i hlen
      obtain ⟨l, h1, h2, h3⟩ := ldL_some e
      cases p with
      | none =>
        have : t.ks = [] := by
          cases hk : t.ks with
          | nil => rfl
          | cons k ks => rw [hk] at e; obtain ⟨a, v, hh, _⟩ := ld_some e; cases hh
        rw [this] at hlen; simp at hlen
        exact absurd hlen.symm (hz hagg)
      | some a => exact ⟨a, _, rfl, .inl ⟨hagg, l, rfl, by omega, fun j u hu => by simpa using h3 a rfl j u hu⟩, h1⟩
    · cases e
  · rename_i hagg
    split at e
    · rename_i k hk
      obtain ⟨a, v, rfl, hc, e⟩ := ld_some e
      exact ⟨a, v, rfl, .inr ⟨hagg, hc, by rw [hk]; simp⟩, cast1_some e⟩
    · cases e
theorem st_some {h : Heap} {p : Option Addr} {vs : List Value} {K : Heap → Option ρ} (e : st h p vs K = some r) :
    ∃ a cs es, p = some a ∧ h.get a.block = .cells cs es false ∧ a.off + vs.length ≤ cs.length ∧ vs.all one = true ∧ K (h.put a.block (.cells (setL cs a.off vs) es false)) = some r := by
  unfold st at e
  split at e
  · split at e
    · split at e
      · rename_i hc; exact ⟨_, _, _, rfl, by assumption, hc.1, hc.2, e⟩
      · cases e
    · cases e
  · cases e
theorem cl_some {x : Out} {K : Value → Heap → Option ρ} (e : cl x K = some r) : ∃ v h, x = some (v, h) ∧ K v h = some r := by
  unfold cl at e; split at e <;> first | exact ⟨_, _, rfl, e⟩ | cases e
theorem nneg_some {b : Int} {K : Option ρ} (e : nneg b K = some r) : 0 ≤ b ∧ K = some r := by
  unfold nneg at e; split at e <;> first | exact ⟨by assumption, e⟩ | cases e
theorem nz_some {b : Int} {K : Option ρ} (e : nz b K = some r) : b ≠ 0 ∧ K = some r := by
  unfold nz at e; split at e <;> first | exact ⟨by assumption, e⟩ | cases e
theorem inb_some {i : Int} {n : Nat} {K : Option ρ} (e : inb i n K = some r) : 0 ≤ i ∧ i < n ∧ K = some r := by
  unfold inb at e; split at e
  · rename_i h; exact ⟨h.1, h.2, e⟩
  · cases e
theorem tas_some {t t' : Nat} {K : Option ρ} (e : tas t t' K = some r) : t = t' ∧ K = some r := by
  unfold tas at e; split at e <;> first | exact ⟨by assumption, e⟩ | cases e
theorem bnd_some {i : Int} {n : Nat} {K : Nat → Option ρ} (e : bnd i n K = some r) : 0 ≤ i ∧ i ≤ n ∧ K i.toNat = some r := by
  unfold bnd at e; split at e
  · rename_i h; exact ⟨h.1, h.2, e⟩
  · cases e
theorem cat_some {a b : ByteArray} {K : ByteArray → Option ρ} (e : cat a b K = some r) : ((a.size + b.size : Nat) : Int) ≤ 9223372036854775807 ∧ K (a ++ b) = some r := by
  unfold cat at e; split at e <;> first | exact ⟨by assumption, e⟩ | cases e
theorem gt_some {cs : List Value} {i : Nat} {K : Value → Option ρ} (e : gt cs i K = some r) : ∃ v, cs[i]? = some v ∧ K v = some r := by
  unfold gt at e; split at e <;> first | exact ⟨_, by assumption, e⟩ | cases e
theorem cond_some {b : Bool} {x y : Option ρ} (e : cond b x y = some r) : (b = true ∧ x = some r) ∨ (b = false ∧ y = some r) := by
  cases b <;> simp_all
theorem ite_some {p : Prop} [Decidable p] {x : Option ρ} (e : (if p then x else none) = some r) : p ∧ x = some r := by
  split at e <;> first | exact ⟨by assumption, e⟩ | cases e
end
end Ab
end Go.Proofs.YtaaacaejpchbpaaGreat
