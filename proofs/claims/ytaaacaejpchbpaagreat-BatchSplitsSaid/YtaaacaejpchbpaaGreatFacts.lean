/- Looks that tell of a table what the walk asks of it. No condition. -/
import Derived.Test.YtaaacaejpchbpaaGreatRun
set_option linter.unusedVariables false
set_option linter.unusedSimpArgs false
namespace Go.Proofs.YtaaacaejpchbpaaGreat
namespace Ab
open Go Go.RowKit
section
variable {P : Program}

def natPairs : List (Nat × Nat) → List (Nat × Nat) → Bool
  | [], [] => true
  | (a, b) :: l, (c, d) :: m => a == c && b == d && natPairs l m
  | _, _ => false
theorem natPairs_eq : ∀ {l m : List (Nat × Nat)}, natPairs l m = true → l = m
  | [], [], _ => rfl
  | [], _ :: _, h => by simp [natPairs] at h
  | _ :: _, [], h => by simp [natPairs] at h
  | (a, b) :: l, (c, d) :: m, h => by
    simp only [natPairs, Bool.and_eq_true, beq_iff_eq] at h
    rw [h.1.1, h.1.2, natPairs_eq h.2]
def nats : List Nat → List Nat → Bool
  | [], [] => true
  | a :: l, b :: m => a == b && nats l m
  | _, _ => false
theorem nats_eq : ∀ {l m : List Nat}, nats l m = true → l = m
  | [], [], _ => rfl
  | [], _ :: _, h => by simp [nats] at h
  | _ :: _, [], h => by simp [nats] at h
  | a :: l, b :: m, h => by
    simp only [nats, Bool.and_eq_true, beq_iff_eq] at h
    rw [h.1, nats_eq h.2]
def shB (d : TypeDesc) (s : Sh) : Bool :=
  match s, d with
  | .int k, .int k' => k == k'
  | .bool, .bool => true
  | .str, .string => true
  | .ptr, .pointer _ => true
  | .slice e, .slice e' => e == e'
  | .array n e, .array n' e' => n == n' && e == e'
  | .struct fs, .struct F => natPairs (F.toList.map fun f => (f.offset, f.type)) fs
  | .map k e, .map k' e' => k == k' && e == e'
  | .iface, .interface _ => true
  | .tuple ts, .tuple ts' => nats ts'.toList ts
  | .fn, .func _ _ _ => true
  | .other, .unsafePointer => true
  | .other, .float _ => true
  | .other, .complex _ => true
  | .other, .chan _ _ => true
  | _, _ => false
theorem shB_ok {d : TypeDesc} {s : Sh} (h : shB d s = true) : ShOk d s := by
  unfold shB at h
  split at h <;> (try (cases h; done)) <;> simp only [ShOk]
  · simp only [beq_iff_eq] at h; rw [h]
  · exact ⟨_, rfl⟩
  · simp only [beq_iff_eq] at h; rw [h]
  · simp only [Bool.and_eq_true, beq_iff_eq] at h; rw [h.1, h.2]
  · exact ⟨_, rfl, natPairs_eq h⟩
  · simp only [Bool.and_eq_true, beq_iff_eq] at h; rw [h.1, h.2]
  · exact ⟨_, rfl⟩
  · rename_i ts ts'
    have := nats_eq h
    obtain ⟨l⟩ := ts'
    simp at this
    rw [this]
  · exact ⟨_, _, _, rfl⟩

def fitB (P : Program) (r : TyR) (t : Nat) : Bool :=
  (match P.info? t with
  | some i => i.size == r.size && i.bytes == r.bytes && (!(r.zero.length == r.size) || match i.zero with | some z => vsameL z.cells.toList r.zero | none => false)
  | none => false) &&
  (match P.underlying t with | some d => shB d r.sh | none => false) && r.zero.all okA && (!r.isAgg || !(r.size == 0)) && (r.isAgg || r.size == 1) &&
  (match r.sh with | .struct fs => fs.all fun f => (P.info? f.2).isSome | _ => true) &&
  (r.rc % 65536 == r.size && (r.rc / 65536 == 0 || t + 1 == r.rc / 65536)) && (r.vc % 65536 == 0 && (r.vc / 65536 == 0 || t + 1 == r.vc / 65536))
theorem fitB_ok {r : TyR} {t : Nat} (h : fitB P r t = true) : Fits P r t := by
  simp only [fitB, Bool.and_eq_true] at h
  obtain ⟨⟨⟨⟨⟨⟨⟨h1, h2⟩, h3⟩, h4⟩, h5⟩, h6⟩, h7⟩, h8⟩ := h
  refine ⟨?_, ?_, h3, fun ha => ?_, fun ha => ?_, by simpa using h7, by simpa using h8, fun fs hs f hf => ?_⟩
  · split at h1
    · rename_i i hi
      simp only [Bool.and_eq_true, beq_iff_eq] at h1
      refine ⟨i, hi, h1.1.1, h1.1.2, fun hz => ?_⟩
      have := h1.2
      rw [hz] at this
      simp only [beq_self_eq_true, Bool.not_true, Bool.false_or] at this
      split at this
      · rename_i z hz'
        exact ⟨z, hz', vsameL_eq this⟩
      · cases this
    · cases h1
  · split at h2
    · rename_i d hd
      exact ⟨d, hd, shB_ok h2⟩
    · cases h2
  · rw [ha] at h4; simpa using h4
  · rw [ha] at h5; simpa using h5
  · rw [hs] at h6
    exact List.all_eq_true.1 h6 f hf

/-- Below n the look tells; from n on the table has nothing. -/
theorem tok_of {T : Nat → TyR} (n : Nat) (r0 : TyR) (h0 : r0.ok = false ∧ r0.ks = [] ∧ r0.sh = .no ∧ r0.zero.length ≠ r0.size ∧ r0.vc = 0) (hn : ∀ t, ¬ t < n → T t = r0)
    (h : (List.range n).all (fun t => match (T t).ok with | true => fitB P (T t) t | false => (match (T t).ks with | [] => true | _ => false) && !((T t).zero.length == (T t).size) && (T t).vc == 0) = true) : TOk P T := by
  have key : ∀ t, t < n → (match (T t).ok with | true => fitB P (T t) t | false => (match (T t).ks with | [] => true | _ => false) && !((T t).zero.length == (T t).size) && (T t).vc == 0) = true := fun t ht => List.all_eq_true.1 h t (by simpa using ht)
  refine ⟨fun t ht => ?_, fun t ht => ?_⟩
  · by_cases q : t < n
    · have := key t q
      rw [ht] at this
      exact fitB_ok this
    · rw [hn t q, h0.1] at ht; cases ht
  · by_cases q : t < n
    · have := key t q
      rw [ht] at this
      simp only [Bool.and_eq_true] at this
      refine ⟨?_, ?_, by simpa using this.1.2, by simpa using this.2⟩
      · have h1 := this.1.1
        split at h1
        · assumption
        · cases h1
      · unfold TyR.ok at ht
        split at ht
        · assumption
        · cases ht
    · rw [hn t q]; exact h0.2

/- methods -/
def isPtr (d : TypeDesc) : Bool := match d with | .pointer _ => true | _ => false
def mB (P : Program) (t : Nat) (m : String) (f : Nat) (e : Option Nat) : Bool :=
  match P.info? t with
  | some i => (match i.methods.find? (·.name == m) with
    | some md => md.path.isEmpty && (match md.func, P.underlying t, e with
       | some (g, true), some (.pointer _), none => g == f
       | some (g, false), some (.pointer el), some e => g == f && el == e
       | some (g, false), some d, none => g == f && !isPtr d
       | _, _, _ => false)
    | none => false)
  | none => false
theorem mB_plain {t : Nat} {m : String} {f : Nat} (h : mB P t m f none = true) (n : Nat) (v : Value) (w : World) : (method (n + 1) t v m).run P w = .ok (f, v) w := by
  unfold mB at h
  split at h
  · rename_i i hi
    split at h
    · rename_i md hmd
      simp only [Bool.and_eq_true] at h
      obtain ⟨hp, h2⟩ := h
      have hpath : md.path.toList = [] := by simpa using hp
      split at h2
      · rename_i g el hfn hu _
        simp only [beq_iff_eq] at h2
        subst h2
        simp [method, typeInfo, hi, hmd, hpath, follow, hfn, receiverAt, run_underlying hu, Place.get]
      · rename_i q; cases q
      · rename_i g d hfn hu _
        simp only [Bool.and_eq_true, beq_iff_eq] at h2
        obtain ⟨h2, h3⟩ := h2
        subst h2
        cases d <;> simp [isPtr] at h3 <;> simp [method, typeInfo, hi, hmd, hpath, follow, hfn, receiverAt, run_underlying hu, Place.get]
      · cases h2
    · cases h
  · cases h
theorem wrapChk (ats : Array TypeId) (ty : TypeId) (a : Addr) (x y : String) : Builtin.ssaWrapNilChk_ ats ty #[.pointer (some a), strVal x, strVal y] = pure (.pointer (some a)) := rfl
theorem mB_via {t : Nat} {m : String} {f e : Nat} (h : mB P t m f (some e) = true) (n : Nat) (a : Addr) (v : Value) (w : World) (hl : (loadVar e a).run P w = .ok v w) : (method (n + 1) t (.pointer (some a)) m).run P w = .ok (f, v) w := by
  unfold mB at h
  split at h
  · rename_i i hi
    split at h
    · rename_i md hmd
      simp only [Bool.and_eq_true] at h
      obtain ⟨hp, h2⟩ := h
      have hpath : md.path.toList = [] := by simpa using hp
      split at h2
      · rename_i q; cases q
      · rename_i g el e' hfn hu q
        cases q
        simp only [Bool.and_eq_true, beq_iff_eq] at h2
        obtain ⟨h2, h3⟩ := h2
        subst h2; subst h3
        have hps : md.path = #[] := by simpa using hp
        simp [method, typeInfo, hi, hmd, hpath, follow, hfn, receiverAt, run_underlying hu, Place.get, hps, wrapChk, asAddr, hl]
      · rename_i q; cases q
      · cases h2
    · cases h
  · cases h
end
end Ab
end Go.Proofs.YtaaacaejpchbpaaGreat
