/- Each operation of the abstract heap is met by the machine's: numbers, strings, addresses. No condition. -/
import Derived.Test.YtaaacaejpchbpaaGreatSim1
set_option linter.unusedVariables false
set_option linter.unusedSimpArgs false
namespace Go.Proofs.YtaaacaejpchbpaaGreat
namespace Ab
open Go Go.RowKit
section
variable {P : Program} {E : Env} {w0 w : World} {φ : Map} {h : Heap} {fr : Fr} {a : Act} {o : Oper} {next : Act → World → Prop} {Q : Exit → Act → World → Prop} {ρ : Type} {K : Value → Heap → Option ρ} {r : ρ}

theorem binI_some {op : BinOp} {k : IntKind} {x y : Int} {K : Value → Option ρ} (e : binI op k x y K = some r) (t : Nat) (hs : op ≠ .shl ∧ op ≠ .shr) :
    ∃ v, K v = some r ∧ (∀ φ, VR φ v v) ∧ ∀ w, (binOp op t (.int k x) (.int k y)).run P w = .ok v w := by
  cases op <;> simp only [binI] at e <;>
    first
    | exact ⟨_, e, fun φ => .int _ _, fun w => by simp [binOp, Op.intArith, Op.intBits, bitV]⟩
    | exact ⟨_, e, fun φ => .bool _, fun w => by simp [binOp, Op.intCmp]⟩
    | (obtain ⟨hz, e⟩ := nz_some e; exact ⟨_, e, fun φ => .int _ _, fun w => by simp [binOp, Op.intDiv, hz]⟩)
    | simp at hs
    | cases e

theorem binS_some {op : BinOp} {x y : ByteArray} {K : Value → Option ρ} (e : binS op x y K = some r) (t : Nat) :
    ∃ v, K v = some r ∧ (∀ φ, VR φ v v) ∧ ∀ w, (binOp op t (.string x) (.string y)).run P w = .ok v w := by
  cases op <;> simp only [binS] at e <;>
    first
    | exact ⟨_, e, fun φ => .bool _, fun w => by simp [binOp, Op.stringOp]⟩
    | (obtain ⟨hz, e⟩ := cat_some e; exact ⟨_, e, fun φ => .str _, fun w => by
        have h1 : IntKind.i64.max = 9223372036854775807 := by decide
        have h2 : (x.size : Int) + y.size ≤ 9223372036854775807 := by omega
        simp [binOp, Op.stringOp, h1, h2]⟩)
    | cases e

theorem peq_some {p q : Option Addr} {K : Bool → Option ρ} (e : peq p q K = some r) : (q = none ∧ K p.isNone = some r) ∨ (p = none ∧ q.isSome = true ∧ K false = some r) := by
  unfold peq at e
  split at e
  · exact .inl ⟨rfl, e⟩
  · split at e
    · exact .inr ⟨rfl, rfl, e⟩
    · cases e

/-- Of types whose '==' goes cell by cell. -/
def QOk (P : Program) (Q : Nat → Bool) : Prop := ∀ t, Q t = true → ∀ (φ : Map) (x y x' y' : Array Value) (ρ : Type) (r : ρ) (K : Bool → Option ρ) (w : World), VRs φ x.toList x'.toList → VRs φ y.toList y'.toList →
  eqL x.toList y.toList K = some r → ∃ b, K b = some r ∧ ∀ op X Y, (do eqGuard op t X Y (.agg x') (.agg y'); binOp op t (.agg x') (.agg y') : Sem Value).run P w =
    (if op = .eql then .ok (.bool b) w else if op = .neq then .ok (.bool (!b)) w else (do eqGuard op t X Y (.agg x') (.agg y'); binOp op t (.agg x') (.agg y') : Sem Value).run P w)

theorem run_equalIn_bool {t : Nat} (f : P.underlying t = some .bool) (d : Nat) (x y : Bool) (w : World) : (Op.equalIn (d + 1) t (.bool x) (.bool y)).run P w = .ok (x == y) w := by
  simp [Op.equalIn, run_underlying f]
theorem run_equalIn_ptr {t e : Nat} (f : P.underlying t = some (.pointer e)) (d : Nat) (x y : Option Addr) (hxy : x = none ∨ y = none) (w : World) : (Op.equalIn (d + 1) t (.pointer x) (.pointer y)).run P w = .ok (x.isNone && y.isNone) w := by
  cases x <;> cases y <;> simp at hxy <;> simp [Op.equalIn, run_underlying f]
theorem run_equalIn_fn0 {t : Nat} {p q : Array TypeId} {b : Bool} (f : P.underlying t = some (.func p q b)) (d : Nat) (w : World) : (Op.equalIn (d + 1) t .nilFunc .nilFunc).run P w = .ok true w := by
  simp [Op.equalIn, run_underlying f]
theorem run_equalIn_fn1 {t : Nat} {p q : Array TypeId} {b : Bool} (f : P.underlying t = some (.func p q b)) (d : Nat) (fn : Fn) (x y : Array Value) (w : World) : (Op.equalIn (d + 1) t (.func fn x y) .nilFunc).run P w = .ok false w := by
  simp [Op.equalIn, run_underlying f]
theorem equal_eq (t : Nat) (x y : Value) : Op.equal t x y = Op.equalIn (9999 + 1) t x y := rfl

theorem VR.toNilF {φ : Map} {v' : Value} (h : VR φ .nilFunc v') : v' = .nilFunc := by cases h; rfl
theorem VR.notAgg {φ : Map} {v v' : Value} (h : VR φ v v') : (∀ c, v ≠ .agg c) → ∀ c, v' ≠ .agg c := by
  intro hc c e; subst e; cases h; exact hc _ rfl

theorem run_guard_int (op : BinOp) (t : Nat) (X Y : Operand) (k k' : IntKind) (x y : Int) (w : World) : (eqGuard op t X Y (.int k x) (.int k' y)).run P w = .ok () w := by
  unfold eqGuard; cases op <;> simp
theorem run_guard_str (op : BinOp) (t : Nat) (X Y : Operand) (x y : ByteArray) (w : World) : (eqGuard op t X Y (.string x) (.string y)).run P w = .ok () w := by
  unfold eqGuard; cases op <;> simp
theorem run_guard_bool (op : BinOp) (t : Nat) (X Y : Operand) (x y : Bool) (w : World) : (eqGuard op t X Y (.bool x) (.bool y)).run P w = .ok () w := by
  unfold eqGuard; cases op <;> simp
theorem run_guard_ptr (op : BinOp) (t : Nat) (X Y : Operand) (x y : Option Addr) (w : World) : (eqGuard op t X Y (.pointer x) (.pointer y)).run P w = .ok () w := by
  unfold eqGuard; cases op <;> simp
theorem run_guard_fn (op : BinOp) (t : Nat) (X Y : Operand) (x : Value) (w : World) : (eqGuard op t X Y x .nilFunc).run P w = .ok () w := by
  unfold eqGuard; cases op <;> cases x <;> simp

theorem sim_bin (hT : TOk P E.T) (hQ : QOk P E.Q) (hf : FrRel φ fr a.tmps) (hr : Rel w0 φ h w) {op : BinOp} {t t2 : Nat} {x y : Operand} (ho : o.op = .binOp op t x y t2)
    (hK : Nx w0 φ h a o next K r) (e : hop E o fr h K = some r) : o.wp P a w next Q := by
  unfold hop at e
  simp only [ho] at e
  obtain ⟨vx, hx, e1⟩ := ev_sim hf e
  obtain ⟨vy, hy, e2⟩ := ev_sim hf e1
  have fin : ∀ v, K v h = some r → VR φ v v → (do eqGuard op t x y (a.eval x) (a.eval y); binOp op t (a.eval x) (a.eval y) : Sem Value).run P w = .ok v w → o.wp P a w next Q := by
    intro v h1 h2 h3
    refine wp_value (v := v) (w' := w) ?_ (hK φ _ _ _ _ .same h2 hr h1)
    unfold execOp
    simp only [ho]
    exact run_val h3
  unfold bin at e2
  split at e2
  · -- numbers
    rename_i k n k' n'
    have h1 := hx.toInt
    have h2 := hy.toInt
    rw [h1, h2] at fin
    by_cases hs : op ≠ .shl ∧ op ≠ .shr
    · split at e2
      · exact absurd rfl hs.1
      · exact absurd rfl hs.2
      · obtain ⟨hk, e3⟩ := ite_some e2
        subst hk
        obtain ⟨v, h3, h4, h5⟩ := binI_some (P := P) e3 t hs
        exact fin v h3 (h4 φ) (by simp [run_guard_int, h5])
    · have : op = .shl ∨ op = .shr := by
        cases op <;> simp_all
      rcases this with rfl | rfl
      · simp only at e2
        obtain ⟨hz, e3⟩ := nneg_some e2
        refine fin _ e3 (.int _ _) ?_
        have : ¬ n' < 0 := by omega
        simp [run_guard_int, binOp, Op.shift, this, shlV]
      · simp only at e2
        obtain ⟨hz, e3⟩ := nneg_some e2
        refine fin _ e3 (.int _ _) ?_
        have : ¬ n' < 0 := by omega
        simp [run_guard_int, binOp, Op.shift, this, shrV]
  · -- strings
    rw [hx.toStr, hy.toStr] at fin
    obtain ⟨v, h3, h4, h5⟩ := binS_some (P := P) e2 t
    exact fin v h3 (h4 φ) (by simp [run_guard_str, h5])
  · -- bools
    rename_i b b'
    rw [hx.toBool, hy.toBool] at fin
    split at e2
    · rename_i hs
      have f := hT.of_sh (t := t) (by rw [hs]; simp)
      obtain ⟨d, hd, hsh⟩ := f.u
      rw [hs] at hsh; simp only [ShOk] at hsh; subst hsh
      split at e2
      · exact fin _ e2 (.bool _) (by simp [run_guard_bool, binOp, equal_eq, run_equalIn_bool hd])
      · exact fin _ e2 (.bool _) (by simp [run_guard_bool, binOp, equal_eq, run_equalIn_bool hd])
      · cases e2
    · cases e2
  · -- pointers
    rename_i p q
    split at e2
    · rename_i hs
      have f := hT.of_sh (t := t) (by rw [hs]; simp)
      obtain ⟨d, hd, hsh⟩ := f.u
      rw [hs] at hsh; simp only [ShOk] at hsh; obtain ⟨el, rfl⟩ := hsh
      have key : ∀ (p' q' : Option Addr), a.eval x = .pointer p' → a.eval y = .pointer q' → p'.isNone = p.isNone → q'.isNone = q.isNone → o.wp P a w next Q := by
        intro p' q' h1 h2 h3 h4
        rw [h1, h2] at fin
        have go : ∀ (b : Bool), (p = none ∨ q = none) → b = (p.isNone && q.isNone) → (op = .eql → K (.bool b) h = some r → o.wp P a w next Q) ∧ (op = .neq → K (.bool (!b)) h = some r → o.wp P a w next Q) := by
          intro b hpq hb
          have hpq' : p' = none ∨ q' = none := by
            rcases hpq with rfl | rfl
            · left; simpa using h3
            · right; simpa using h4
          constructor
          · rintro rfl hk
            exact fin _ hk (.bool _) (by simp [run_guard_ptr, binOp, equal_eq, run_equalIn_ptr hd _ _ _ hpq', hb, h3, h4])
          · rintro rfl hk
            exact fin _ hk (.bool _) (by simp [run_guard_ptr, binOp, equal_eq, run_equalIn_ptr hd _ _ _ hpq', hb, h3, h4])
        split at e2
        · rcases peq_some e2 with ⟨rfl, e3⟩ | ⟨rfl, hq, e3⟩
          · exact (go _ (.inr rfl) (by simp)).1 rfl e3
          · exact (go false (.inl rfl) (by cases q <;> simp_all)).1 rfl e3
        · rcases peq_some e2 with ⟨rfl, e3⟩ | ⟨rfl, hq, e3⟩
          · exact (go _ (.inr rfl) (by simp)).2 rfl e3
          · exact (go false (.inl rfl) (by cases q <;> simp_all)).2 rfl e3
        · cases e2
      rcases hx.toPtr with ⟨rfl, h1⟩ | ⟨i, off, l, rfl, hi, h1⟩ <;> rcases hy.toPtr with ⟨rfl, h2⟩ | ⟨i', off', l', rfl, hi', h2⟩ <;> exact key _ _ h1 h2 rfl rfl
    · cases e2
  · -- aggregates
    rename_i c c'
    obtain ⟨x', h1, h2⟩ := hx.toAgg
    obtain ⟨y', h3, h4⟩ := hy.toAgg
    rw [h1, h3] at fin
    split at e2
    · rename_i hq
      split at e2
      · obtain ⟨b, h5, h6⟩ := hQ t hq φ _ _ _ _ _ _ _ w h2 h4 e2
        exact fin _ h5 (.bool _) (by rw [h6]; simp)
      · obtain ⟨b, h5, h6⟩ := hQ t hq φ _ _ _ _ _ _ _ w h2 h4 e2
        exact fin _ h5 (.bool _) (by rw [h6]; simp)
      · cases e2
    · cases e2
  · -- functions against nil
    split at e2
    · rename_i hs
      have f := hT.of_sh (t := t) (by rw [hs]; simp)
      obtain ⟨d, hd, hsh⟩ := f.u
      rw [hs] at hsh; simp only [ShOk] at hsh; obtain ⟨p1, q1, b1, rfl⟩ := hsh
      have h1 := hx.toNilF
      have h2 := hy.toNilF
      rw [h1, h2] at fin
      split at e2
      · exact fin _ e2 (.bool _) (by simp [run_guard_fn, binOp, equal_eq, run_equalIn_fn0 hd])
      · exact fin _ e2 (.bool _) (by simp [run_guard_fn, binOp, equal_eq, run_equalIn_fn0 hd])
      · cases e2
    · cases e2
  · split at e2
    · rename_i hs
      have f := hT.of_sh (t := t) (by rw [hs]; simp)
      obtain ⟨d, hd, hsh⟩ := f.u
      rw [hs] at hsh; simp only [ShOk] at hsh; obtain ⟨p1, q1, b1, rfl⟩ := hsh
      obtain ⟨x', y', h1, _⟩ := hx.toFunc
      have h2 := hy.toNilF
      rw [h1, h2] at fin
      split at e2
      · exact fin _ e2 (.bool _) (by simp [run_guard_fn, binOp, equal_eq, run_equalIn_fn1 hd])
      · exact fin _ e2 (.bool _) (by simp [run_guard_fn, binOp, equal_eq, run_equalIn_fn1 hd])
      · cases e2
    · cases e2
  · cases e2
end
end Ab
end Go.Proofs.YtaaacaejpchbpaaGreat
