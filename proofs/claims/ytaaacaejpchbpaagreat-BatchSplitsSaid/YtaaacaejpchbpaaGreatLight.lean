/- The light operations: what they leave may be had again later. No condition. -/
import Derived.Test.YtaaacaejpchbpaaGreatNat
set_option linter.unusedVariables false
set_option linter.unusedSimpArgs false
namespace Go.Proofs.YtaaacaejpchbpaaGreat
namespace Ab
open Go
section
variable {E : Env} {o : Oper} {fr : Fr} {h : Heap} {ρ : Type} {K : Value → Heap → Option ρ} {r : ρ}

theorem bytes_beq {a b : ByteArray} (h : (a == b) = true) : a = b := by
  obtain ⟨x⟩ := a
  obtain ⟨y⟩ := b
  have : (x == y) = true := h
  rw [eq_of_beq this]
theorem vsame_eq : ∀ {a b : Value}, vsame a b = true → a = b := by
  intro a b h
  unfold vsame at h
  split at h <;> first | (cases h; done) | rfl | skip
  · simpa using h
  · simp only [Bool.and_eq_true, beq_iff_eq] at h; rw [h.1, h.2]
  · rw [bytes_beq h]
  · simpa using h
  · simp only [Bool.and_eq_true, beq_iff_eq] at h; rw [h.1.1, h.1.2, h.2]
  · simpa using h
theorem vsameL_eq : ∀ {a b : List Value}, vsameL a b = true → a = b
  | [], [], _ => rfl
  | [], _ :: _, h => by simp [vsameL] at h
  | _ :: _, [], h => by simp [vsameL] at h
  | v :: l, v' :: l', h => by
    simp only [vsameL, Bool.and_eq_true] at h
    rw [vsame_eq h.1, vsameL_eq h.2]
theorem osame_eq {a b : HObj} (h : osame a b = true) : a = b := by
  unfold osame at h
  split at h
  · simp only [Bool.and_eq_true, beq_iff_eq] at h
    rw [vsameL_eq h.1.1, h.1.2, h.2]
  · cases h
theorem cellsSame_get {h : Heap} {a : Addr} : ∀ {l : List Value} {i : Nat}, cellsSame h (some a) l i = true → ∀ j u, l[j]? = some u → cellAt h a (i + j) = some u
  | [], i, _, j, u, hj => by simp at hj
  | v :: l, i, e, j, u, hj => by
    simp only [cellsSame, Bool.and_eq_true] at e
    cases j with
    | zero =>
      simp at hj; subst hj
      have := e.1
      split at this
      · rename_i v' hv
        rw [Nat.add_zero, hv, vsame_eq this]
      · cases this
    | succ j =>
      have := cellsSame_get e.2 j u (by simpa using hj)
      rwa [show i + 1 + j = i + (j + 1) by omega] at this
theorem cellsSame_nil {h : Heap} : ∀ {l : List Value} {i : Nat}, cellsSame h none l i = true → l = []
  | [], _, _ => rfl
  | _ :: _, _, e => by simp [cellsSame] at e

theorem cast1_ret {k : Kd} {v v' : Value} (h : cast1 k v some = some v') : v' = v ∧ ∀ (ρ : Type) (K : Value → Option ρ), cast1 k v K = K v := by
  have h1 := cast1_some h
  cases h1
  obtain ⟨u, h2, h3⟩ := (nt_cast1 k v).det h
  cases h2
  exact ⟨rfl, h3⟩
theorem ldL_move {h h2 : Heap} {p : Option Addr} : ∀ {ks : List Kd} {i : Nat} {l : List Value}, ldL h p ks i some = some l → (∀ a, p = some a → ∀ j u, l[j]? = some u → cellAt h2 a (i + j) = some u) → ldL h2 p ks i some = some l
  | [], i, l, e, hc => e
  | k :: ks, i, l, e, hc => by
    unfold ldL at e ⊢
    obtain ⟨a, v, rfl, hv, e1⟩ := ld_some e
    obtain ⟨v', e2, e3⟩ := (nt_cast1 k v).det e1
    have hv' : v' = v := by
      have := e3 _ some
      exact (cast1_ret this).1
    subst hv'
    obtain ⟨l', e4, e5⟩ := (nt_ldL h (some a) ks (i + 1)).det e2
    cases e4
    have h0 := hc a rfl 0 v' rfl
    rw [Nat.add_zero] at h0
    unfold ld
    simp only [h0]
    rw [e3]
    have := ldL_move (ks := ks) (i := i + 1) (l := l') (h := h) (h2 := h2) (p := some a) (e5 _ _) (fun a' ha j u hj => by
      have := hc a' ha (j + 1) u (by simpa using hj)
      rwa [show i + (j + 1) = i + 1 + j by omega] at this)
    exact (nt_ldL h2 (some a) ks (i + 1)).of_some this _ _
theorem ldTy_move {h h2 : Heap} {p : Option Addr} {t : TyR} {v : Value} (e : ldTy t h p some = some v)
    (hc : ∀ a, p = some a → ∀ j u, (match t.isAgg with | true => v.cells.toList | false => [v])[j]? = some u → cellAt h2 a j = some u) : ldTy t h2 p some = some v := by
  unfold ldTy at e ⊢
  cases hag : t.isAgg
  · rw [hag] at e hc
    simp only at e hc ⊢
    split at e
    · rename_i k hk
      obtain ⟨a, u, rfl, hu, e1⟩ := ld_some e
      obtain ⟨h1, h2'⟩ := cast1_ret e1
      subst h1
      have h0 := hc a rfl 0 v rfl
      simp only [ld, h0]
      exact h2' _ _
    · cases e
  · rw [hag] at e hc
    simp only at e hc ⊢
    split at e
    · rename_i hlen
      rw [if_pos hlen]
      obtain ⟨l, e1, e2⟩ := (nt_ldL h p t.ks 0).det e
      cases e1
      have := ldL_move (h2 := h2) (e2 _ some) (fun a ha j u hj => by simpa using hc a ha j u (by simpa [Value.cells] using hj))
      exact (nt_ldL h2 p t.ks 0).of_some this _ _
    · cases e

theorem ldTy_cells {h : Heap} {p : Option Addr} {t : TyR} {v : Value} (e : ldTy t h p some = some v) :
    ∀ a, p = some a → ∀ j u, (match t.isAgg with | true => v.cells.toList | false => [v])[j]? = some u → cellAt h a j = some u := by
  intro a ha j u hj
  unfold ldTy at e
  cases hag : t.isAgg
  · rw [hag] at e hj
    simp only at e hj
    split at e
    · obtain ⟨a', w, hp, hc, e1⟩ := ld_some e
      rw [ha] at hp; cases hp
      have := (cast1_ret e1).1
      subst this
      cases j with
      | zero => simp at hj; subst hj; exact hc
      | succ j => simp at hj
    · cases e
  · rw [hag] at e hj
    simp only at e hj
    split at e
    · obtain ⟨l, h1, h2, h3⟩ := ldL_some e
      cases h1
      simpa using h3 a ha j u (by simpa [Value.cells] using hj)
    · cases e

/-- The value may be had again at each heap that is like this one where it looked. -/
def Reads (E : Env) (o : Oper) (fr : Fr) (h : Heap) {ρ : Type} (K : Value → Heap → Option ρ) (r : ρ) : Prop :=
  ∃ (v : Value) (R : Heap → Prop), K v h = some r ∧ R h ∧ (∀ h2, R h2 → ∀ (ρ2 : Type) (K2 : Value → Heap → Option ρ2), hop E o fr h2 K2 = K2 v h2) ∧
    (∀ h1 h2, R h1 → (∀ i, h1.get i ≠ .none → h2.get i = h1.get i) → R h2) ∧
    (∀ (ρ2 : Type) (K2 : Lg → Option ρ2) (r2 : ρ2), logOf E o fr v h h K2 = some r2 → ∃ e, K2 e = some r2 ∧ ∀ h2, e.ok h2 = true → R h2)
def newOp (o : Oper) : Bool := match o.op with | .alloc _ | .box .. | .buildSlice .. | .makeSlice .. | .convert .. => true | _ => false
/-- A new object, whose cells the heap does not tell. -/
def Makes (E : Env) (o : Oper) (fr : Fr) (h : Heap) {ρ : Type} (K : Value → Heap → Option ρ) (r : ρ) : Prop :=
  newOp o = true ∧ ∃ (cs : List Value) (esz : Nat) (mk : Nat → Value), K (mk h.size) (h.push (.cells cs esz false)) = some r ∧
    (∀ (hX : Heap) (ρ2 : Type) (K2 : Value → Heap → Option ρ2), hop E o fr hX K2 = K2 (mk hX.size) (hX.push (.cells cs esz false))) ∧
    (∀ (ρ2 : Type) (K2 : Lg → Option ρ2) (r2 : ρ2), logOf E o fr (mk h.size) h (h.push (.cells cs esz false)) K2 = some r2 → ∃ e, K2 e = some r2 ∧ ∀ h2, e.ok h2 = true → h2.get h.size = .cells cs esz false)

theorem reads_pure {F : ∀ ρ : Type, (Value → Option ρ) → Option ρ} (hF : Nt F) (hh : ∀ (h2 : Heap) (ρ2 : Type) (K2 : Value → Heap → Option ρ2), hop E o fr h2 K2 = F ρ2 fun v => K2 v h2)
    (hl : ∀ (v : Value), Nt fun ρ2 (K2 : Lg → Option ρ2) => logOf E o fr v h h K2) (e : hop E o fr h K = some r) : Reads E o fr h K r := by
  rw [hh] at e
  obtain ⟨v, e1, e2⟩ := hF.det e
  refine ⟨v, fun _ => True, e1, trivial, fun h2 _ ρ2 K2 => by rw [hh, e2], fun _ _ _ _ => trivial, fun ρ2 K2 r2 e3 => ?_⟩
  obtain ⟨g, e4, _⟩ := (hl v).det e3
  exact ⟨g, e4, fun _ _ => trivial⟩

theorem push_ok {h : Heap} {cs : List Value} {esz : Nat} {h2 : Heap} (hq : (Lg.obj h.size ((h.push (.cells cs esz false)).get h.size)).ok h2 = true) : h2.get h.size = .cells cs esz false := by
  have := osame_eq hq
  rw [← this]
  simp [Heap.push]

def bsF (E : Env) (fr : Fr) (t n : Nat) (ps : List (Nat × Operand)) {ρ : Type} (K : List Value → Nat → Option ρ) : Option ρ := partsL fr ps fun l =>
  match (E.T t).sh with
  | .slice e => if (E.T e).zero.length = (E.T e).size ∧ n * (E.T e).size ≤ 16777216 then fillL (repL n (E.T e).zero) l (placeA (E.T e)) fun cs => K cs (E.T e).rc else none
  | _ => none
theorem nt_bsF (E : Env) (fr : Fr) (t n : Nat) (ps : List (Nat × Operand)) : Nt (α := List Value × Nat) fun ρ K => bsF E fr t n ps fun cs sz => K (cs, sz) := by
  unfold bsF
  refine ns_parts fun l => ?_
  split
  · exact nt_ite (G := fun ρ K => fillL _ _ _ fun cs => K _) (ns_fill fun cs => Nt.ret _)
  · exact Nt.no
def msF (E : Env) (fr : Fr) (t : Nat) (x y : Operand) {ρ : Type} (K : List Value → Nat → Nat → Nat → Option ρ) : Option ρ := ev fr x fun l => ev fr y fun c =>
  match (E.T t).sh, l, c with
  | .slice e, .int .i64 l, .int .i64 c => if (E.T e).zero.length = (E.T e).size then (if 0 ≤ l ∧ l ≤ c ∧ small c.toNat (E.T e).bytes then K (repL c.toNat (E.T e).zero) (E.T e).rc l.toNat c.toNat else none) else none
  | _, _, _ => none
theorem nt_msF (E : Env) (fr : Fr) (t : Nat) (x y : Operand) : Nt (α := (List Value × Nat) × Nat × Nat) fun ρ K => msF E fr t x y fun cs sz l c => K ((cs, sz), l, c) := by
  unfold msF
  refine ns_ev fun l => ns_ev fun c => ?_
  split
  · rename_i el l c _
    exact nt_ite (G := fun ρ K => if 0 ≤ l ∧ l ≤ c ∧ small c.toNat (E.T el).bytes = true then K _ else none) (nt_ite (G := fun ρ K => K _) (Nt.ret _))
  · exact Nt.no

theorem light_cases (hl : heavy o = false) (e : hop E o fr h K = some r) : Reads E o fr h K r ∨ Makes E o fr h K r := by
  cases ho : o.op <;> simp only [heavy, ho] at hl <;> try (cases hl; done)
  case move x =>
    left
    exact reads_pure (F := fun ρ K => hop E o fr ⟨0, fun _ => .none⟩ fun v _ => K v) (by
        unfold hop; simp only [ho]
        exact ns_ev fun v => Nt.ret _)
      (fun h2 ρ2 K2 => by unfold hop; simp only [ho]) (fun v => by unfold logOf; simp only [ho]; exact Nt.ret _) e
  case assign x =>
    left
    exact reads_pure (F := fun ρ K => hop E o fr ⟨0, fun _ => .none⟩ fun v _ => K v) (by
        unfold hop; simp only [ho]
        exact ns_ev fun v => Nt.ret _)
      (fun h2 ρ2 K2 => by unfold hop; simp only [ho]) (fun v => by unfold logOf; simp only [ho]; exact Nt.ret _) e
  case pick c x y =>
    left
    exact reads_pure (F := fun ρ K => hop E o fr ⟨0, fun _ => .none⟩ fun v _ => K v) (by
        unfold hop; simp only [ho]
        exact ns_ev fun c => ns_cB fun c => nt_cond (ns_ev fun v => Nt.ret _) (ns_ev fun v => Nt.ret _))
      (fun h2 ρ2 K2 => by unfold hop; simp only [ho]) (fun v => by unfold logOf; simp only [ho]; exact Nt.ret _) e
  case nilCheck x =>
    left
    exact reads_pure (F := fun ρ K => hop E o fr ⟨0, fun _ => .none⟩ fun v _ => K v) (by
        unfold hop; simp only [ho]
        refine ns_ev fun v => ?_
        cases v <;> simp only <;> first | exact ns_nn fun a => Nt.ret _ | exact nt_cnn (G := fun ρ K => K _) (Nt.ret _))
      (fun h2 ρ2 K2 => by unfold hop; simp only [ho]) (fun v => by unfold logOf; simp only [ho]; exact Nt.ret _) e
  case binOp op t x y n =>
    left
    exact reads_pure (F := fun ρ K => hop E o fr ⟨0, fun _ => .none⟩ fun v _ => K v) (by
        unfold hop; simp only [ho]
        exact ns_ev fun x => ns_ev fun y => ns_bin fun v => Nt.ret _)
      (fun h2 ρ2 K2 => by unfold hop; simp only [ho]) (fun v => by unfold logOf; simp only [ho]; exact Nt.ret _) e
  case unOp op t x =>
    left
    exact reads_pure (F := fun ρ K => hop E o fr ⟨0, fun _ => .none⟩ fun v _ => K v) (by
        unfold hop; simp only [ho]
        exact ns_ev fun x => ns_un fun v => Nt.ret _)
      (fun h2 ρ2 K2 => by unfold hop; simp only [ho]) (fun v => by unfold logOf; simp only [ho]; exact Nt.ret _) e
  case makeInterface t x =>
    left
    exact reads_pure (F := fun ρ K => hop E o fr ⟨0, fun _ => .none⟩ fun v _ => K v) (by
        unfold hop; simp only [ho]
        split
        · exact Nt.no
        · exact Nt.no
        · exact ns_ev fun v => Nt.ret _)
      (fun h2 ρ2 K2 => by unfold hop; simp only [ho]) (fun v => by unfold logOf; simp only [ho]; exact Nt.ret _) e
  case makeFunc fn x y =>
    left
    exact reads_pure (F := fun ρ K => hop E o fr ⟨0, fun _ => .none⟩ fun v _ => K v) (by
        unfold hop; simp only [ho]
        exact ns_evL fun a => ns_evL fun b => Nt.ret _)
      (fun h2 ρ2 K2 => by unfold hop; simp only [ho]) (fun v => by unfold logOf; simp only [ho]; exact Nt.ret _) e
  case fieldAddr s x f =>
    left
    exact reads_pure (F := fun ρ K => hop E o fr ⟨0, fun _ => .none⟩ fun v _ => K v) (by
        unfold hop; simp only [ho]
        refine ns_ev fun v => ?_
        split
        · split
          · split
            · exact ns_cP fun p => ns_nn fun a => Nt.ret _
            · exact Nt.no
          · exact Nt.no
        · exact Nt.no)
      (fun h2 ρ2 K2 => by unfold hop; simp only [ho]) (fun v => by unfold logOf; simp only [ho]; exact Nt.ret _) e
  case field s x f =>
    left
    exact reads_pure (F := fun ρ K => hop E o fr ⟨0, fun _ => .none⟩ fun v _ => K v) (by
        unfold hop; simp only [ho]
        refine ns_ev fun v => ns_cA fun cs => ?_
        split
        · split
          · split
            · exact ns_part fun v => ns_cast fun v => Nt.ret _
            · exact Nt.no
          · exact Nt.no
        · exact Nt.no)
      (fun h2 ρ2 K2 => by unfold hop; simp only [ho]) (fun v => by unfold logOf; simp only [ho]; exact Nt.ret _) e
  case indexAddr t x i =>
    left
    exact reads_pure (F := fun ρ K => hop E o fr ⟨0, fun _ => .none⟩ fun v _ => K v) (by
        unfold hop; simp only [ho]
        exact ns_ev fun x => ns_ev fun i => ns_ixA fun v => Nt.ret _)
      (fun h2 ρ2 K2 => by unfold hop; simp only [ho]) (fun v => by unfold logOf; simp only [ho]; exact Nt.ret _) e
  case index t x i =>
    left
    exact reads_pure (F := fun ρ K => hop E o fr ⟨0, fun _ => .none⟩ fun v _ => K v) (by
        unfold hop; simp only [ho]
        refine ns_ev fun x => ns_ev fun i => ?_
        split
        · exact ns_idxS fun v => Nt.ret _
        · split
          · exact nt_inb (G := fun ρ K => partTy E.T _ _ _ fun v => castTy _ v fun v => K v) (ns_part fun v => ns_cast fun v => Nt.ret _)
          · exact Nt.no
        · exact Nt.no)
      (fun h2 ρ2 K2 => by unfold hop; simp only [ho]) (fun v => by unfold logOf; simp only [ho]; exact Nt.ret _) e
  case extract x i =>
    left
    exact reads_pure (F := fun ρ K => hop E o fr ⟨0, fun _ => .none⟩ fun v _ => K v) (by
        unfold hop; simp only [ho]
        refine ns_ev fun v => ?_
        split
        · split
          · exact Nt.ret _
          · exact Nt.no
        · exact Nt.no)
      (fun h2 ρ2 K2 => by unfold hop; simp only [ho]) (fun v => by unfold logOf; simp only [ho]; exact Nt.ret _) e
  case typeAssert x xt t ok =>
    left
    exact reads_pure (F := fun ρ K => hop E o fr ⟨0, fun _ => .none⟩ fun v _ => K v) (by
        unfold hop; simp only [ho]
        refine ns_ev fun v => ?_
        split
        · exact Nt.no
        · exact Nt.no
        · exact ns_cX fun t' v => nt_tas (G := fun ρ K => castTy _ v fun v => K _) (ns_cast fun v => Nt.ret _))
      (fun h2 ρ2 K2 => by unfold hop; simp only [ho]) (fun v => by unfold logOf; simp only [ho]; exact Nt.ret _) e
  case build t ps =>
    left
    exact reads_pure (F := fun ρ K => hop E o fr ⟨0, fun _ => .none⟩ fun v _ => K v) (by
        unfold hop; simp only [ho]
        refine ns_parts fun l => ?_
        split
        · exact nt_ite (G := fun ρ K => fillL _ _ _ fun cs => K _) (ns_fill fun cs => Nt.ret _)
        · exact nt_ite (G := fun ρ K => fillL _ _ _ fun cs => K _) (ns_fill fun cs => Nt.ret _)
        · exact Nt.no)
      (fun h2 ρ2 K2 => by unfold hop; simp only [ho]) (fun v => by unfold logOf; simp only [ho]; exact Nt.ret _) e
  case alloc t =>
    right
    have hh : ∀ (hX : Heap) (ρ2 : Type) (K2 : Value → Heap → Option ρ2), hop E o fr hX K2 = if (E.T t).ok = true ∧ (E.T t).zero.length = (E.T t).size then K2 (.pointer (some ⟨hX.size, 0, none⟩)) (hX.push (.cells (E.T t).zero (E.T t).vc false)) else none := fun hX ρ2 K2 => by unfold hop; simp only [ho]
    rw [hh] at e
    obtain ⟨hc, e1⟩ := ite_some e
    refine ⟨by simp [newOp, ho], (E.T t).zero, (E.T t).vc, fun n => .pointer (some ⟨n, 0, none⟩), e1, fun hX ρ2 K2 => by rw [hh, if_pos hc], fun ρ2 K2 r2 e2 => ?_⟩
    unfold logOf at e2
    simp only [ho] at e2
    exact ⟨_, e2, fun h2 hq => push_ok hq⟩
  case box t x =>
    right
    have hF : Nt fun ρ K => ev fr x K := nt_ev _ _
    have hh : ∀ (hX : Heap) (ρ2 : Type) (K2 : Value → Heap → Option ρ2), hop E o fr hX K2 = ev fr x fun v => K2 (.pointer (some ⟨hX.size, 0, none⟩)) (hX.push (.cells v.cells.toList (E.T t).vc false)) := fun hX ρ2 K2 => by unfold hop; simp only [ho]
    rw [hh] at e
    obtain ⟨v, e1, e2⟩ := hF.det e
    refine ⟨by simp [newOp, ho], v.cells.toList, (E.T t).vc, fun n => .pointer (some ⟨n, 0, none⟩), e1, fun hX ρ2 K2 => by rw [hh, e2], fun ρ2 K2 r2 e3 => ?_⟩
    unfold logOf at e3
    simp only [ho] at e3
    exact ⟨_, e3, fun h2 hq => push_ok hq⟩
  case buildSlice t n ps =>
    right
    have hF := nt_bsF E fr t n ps.toList
    have hh : ∀ (hX : Heap) (ρ2 : Type) (K2 : Value → Heap → Option ρ2), hop E o fr hX K2 = bsF E fr t n ps.toList fun cs sz => K2 (.slice (some ⟨hX.size, 0, none⟩) n n) (hX.push (.cells cs sz false)) := fun hX ρ2 K2 => by
      unfold hop bsF; simp only [ho]; rfl
    rw [hh] at e
    obtain ⟨x, e1, e2⟩ := hF.det (K := fun x => K (.slice (some ⟨h.size, 0, none⟩) n n) (h.push (.cells x.1 x.2 false))) e
    refine ⟨by simp [newOp, ho], x.1, x.2, fun m => .slice (some ⟨m, 0, none⟩) n n, e1, fun hX ρ2 K2 => by rw [hh]; exact e2 ρ2 (fun x => K2 (.slice (some ⟨hX.size, 0, none⟩) n n) (hX.push (.cells x.1 x.2 false))), fun ρ2 K2 r2 e3 => ?_⟩
    unfold logOf at e3
    simp only [ho] at e3
    exact ⟨_, e3, fun h2 hq => push_ok hq⟩
  case makeSlice t x y =>
    right
    have hF := nt_msF E fr t x y
    have hh : ∀ (hX : Heap) (ρ2 : Type) (K2 : Value → Heap → Option ρ2), hop E o fr hX K2 = msF E fr t x y fun cs sz l c => K2 (.slice (some ⟨hX.size, 0, none⟩) l c) (hX.push (.cells cs sz false)) := fun hX ρ2 K2 => by
      unfold hop msF; simp only [ho, mkS]; rfl
    rw [hh] at e
    obtain ⟨z, e1, e2⟩ := hF.det (K := fun z => K (.slice (some ⟨h.size, 0, none⟩) z.2.1 z.2.2) (h.push (.cells z.1.1 z.1.2 false))) e
    refine ⟨by simp [newOp, ho], z.1.1, z.1.2, fun m => .slice (some ⟨m, 0, none⟩) z.2.1 z.2.2, e1, fun hX ρ2 K2 => by rw [hh]; exact e2 ρ2 (fun z => K2 (.slice (some ⟨hX.size, 0, none⟩) z.2.1 z.2.2) (hX.push (.cells z.1.1 z.1.2 false))), fun ρ2 K2 r2 e3 => ?_⟩
    unfold logOf at e3
    simp only [ho] at e3
    exact ⟨_, e3, fun h2 hq => push_ok hq⟩
  case load t x =>
    left
    have hh : ∀ (hX : Heap) (ρ2 : Type) (K2 : Value → Heap → Option ρ2), hop E o fr hX K2 = ev fr x fun v => cP v fun p => ldTy (E.T t) hX p fun v => K2 v hX := fun hX ρ2 K2 => by unfold hop; simp only [ho]
    have hF : Nt (α := Option Addr) fun ρ K => ev fr x fun v => cP v K := ns_ev fun v => nt_cP _
    rw [hh] at e
    obtain ⟨p, e1, e2⟩ := hF.det e
    obtain ⟨v, e3, e4⟩ := (nt_ldTy (E.T t) h p).det e1
    have e5 : ldTy (E.T t) h p some = some v := e4 _ _
    refine ⟨v, fun h2 => ldTy (E.T t) h2 p some = some v, e3, e5, fun h2 hR ρ2 K2 => ?_, fun h1 h2 hR hle => ?_, fun ρ2 K2 r2 e6 => ?_⟩
    · rw [hh, e2]
      exact (nt_ldTy (E.T t) h2 p).of_some hR _ _
    · refine ldTy_move hR fun a ha j u hj => ?_
      have hc := ldTy_cells hR a ha j u hj
      unfold cellAt at hc ⊢
      rw [hle a.block (by intro q; rw [q] at hc; cases hc)]
      exact hc
    · unfold logOf at e6
      simp only [ho] at e6
      cases hag : (E.T t).isAgg
      · simp only [hag] at e6
        rw [e2] at e6
        refine ⟨_, e6, fun h2 hq => ldTy_move e5 fun a ha j u hj => ?_⟩
        rw [hag] at hj
        subst ha
        simpa using cellsSame_get hq j u hj
      · simp only [hag] at e6
        rw [e2] at e6
        refine ⟨_, e6, fun h2 hq => ldTy_move e5 fun a ha j u hj => ?_⟩
        rw [hag] at hj
        subst ha
        simpa using cellsSame_get hq j u hj
  case convert sr d x =>
    have hh : ∀ (hX : Heap) (ρ2 : Type) (K2 : Value → Heap → Option ρ2), hop E o fr hX K2 = ev fr x fun v => conv E sr d v hX K2 := fun hX ρ2 K2 => by unfold hop; simp only [ho]
    have hl' : ∀ (v : Value) (h' : Heap) (ρ2 : Type) (K2 : Lg → Option ρ2), logOf E o fr v h h' K2 = ev fr x fun x => match (E.T d).sh, x, v with
      | .str, .slice p n _, .string s => K2 (.str p n s)
      | .slice _, _, _ => K2 (.obj h.size (h'.get h.size))
      | _, _, _ => K2 .yes := fun v h' ρ2 K2 => by unfold logOf; simp only [ho]; rfl
    rw [hh] at e
    obtain ⟨xv, e1, e2⟩ := (nt_ev fr x).det e
    have pure : ∀ v, K v h = some r → (∀ (h2 : Heap) (ρ2 : Type) (K2 : Value → Heap → Option ρ2), conv E sr d xv h2 K2 = K2 v h2) → Reads E o fr h K r := by
      intro v h1 h2
      refine ⟨v, fun _ => True, h1, trivial, fun hX _ ρ2 K2 => by rw [hh, e2, h2], fun _ _ _ _ => trivial, fun ρ2 K2 r2 e3 => ?_⟩
      rw [hl', e2] at e3
      split at e3 <;> exact ⟨_, e3, fun _ _ => trivial⟩
    have e1' := e1
    unfold conv at e1
    split at e1
    · rename_i k _ n hd
      split at e1
      · rename_i hok
        exact .inl (pure _ e1 fun h2 ρ2 K2 => by unfold conv; simp only [hd, hok])
      · cases e1
    · rename_i b hd
      split at e1
      · rename_i hs
        exact .inl (pure _ e1 fun h2 ρ2 K2 => by unfold conv; simp only [hd, hs])
      · cases e1
    · rename_i el b hd
      split at e1
      · rename_i hs hel
        right
        refine ⟨by simp [newOp, ho], b.data.toList.map fun (b : UInt8) => Value.int .u8 b.toNat, (E.T el).rc, fun m => .slice (some ⟨m, 0, none⟩) b.size b.size, by simpa only [bytesOf] using e1, fun hX ρ2 K2 => ?_, fun ρ2 K2 r2 e3 => ?_⟩
        · rw [hh, e2]
          unfold conv
          simp only [hd, hs, hel]
          rfl
        · rw [hl', e2] at e3
          simp only [hd] at e3
          exact ⟨_, e3, fun h2 hq => push_ok hq⟩
      · cases e1
    · rename_i p n c hd
      split at e1
      · rename_i el hs
        split at e1
        · rename_i hel
          left
          obtain ⟨b, e3, e4⟩ := (nt_toStr h p n).det e1
          have hto : toStr h p n = some b := by
            have := e4 _ some
            unfold strOf at this
            split at this
            · rename_i s hs'; cases this; exact hs'
            · cases this
          refine ⟨.string b, fun h2 => toStr h2 p n = some b, e3, hto, fun h2 hR ρ2 K2 => ?_, fun h1 h2 hR hle => ?_, fun ρ2 K2 r2 e6 => ?_⟩
          · rw [hh, e2]
            unfold conv
            simp only [hd, hs, hel, strOf, hR]
          · show toStr h2 p n = some b
            replace hR : toStr h1 p n = some b := hR
            unfold toStr at hR ⊢
            cases p with
            | none => exact hR
            | some a =>
              simp only at hR ⊢
              split at hR
              · rename_i cs es q hg
                rw [hle a.block (by rw [hg]; simp), hg]
                exact hR
              · cases hR
          · rw [hl', e2] at e6
            simp only [hd] at e6
            refine ⟨_, e6, fun h2 hq => ?_⟩
            simp only [Lg.ok] at hq
            split at hq
            · rename_i s' hs'
              rw [hs', bytes_beq hq]
            · cases hq
        · cases e1
      · cases e1
    · cases e1
  case slice t x lo hi mx =>
    left
    have hh : ∀ (hX : Heap) (ρ2 : Type) (K2 : Value → Heap → Option ρ2), hop E o fr hX K2 = ev fr x fun x => evO fr lo fun lo => evO fr hi fun hi => evO fr mx fun mx => slc E t x lo hi mx hX fun v => K2 v hX := fun hX ρ2 K2 => by unfold hop; simp only [ho]
    have hl' : ∀ (v : Value) (ρ2 : Type) (K2 : Lg → Option ρ2), logOf E o fr v h h K2 = ev fr x fun x => match (E.T t).sh, x with | .array _ _, .pointer (some q) => K2 (.tag q) | .slice e, .slice p _ _ => K2 (.row p (E.T e).rc) | _, _ => K2 .yes := fun v ρ2 K2 => by unfold logOf; simp only [ho]; rfl
    rw [hh] at e
    obtain ⟨xv, e1, e2⟩ := (nt_ev fr x).det e
    obtain ⟨lov, e3, e4⟩ := (nt_evO fr lo).det e1
    obtain ⟨hiv, e5, e6⟩ := (nt_evO fr hi).det e3
    obtain ⟨mxv, e7, e8⟩ := (nt_evO fr mx).det e5
    have hh2 : ∀ (hX : Heap) (ρ2 : Type) (K2 : Value → Heap → Option ρ2), hop E o fr hX K2 = slc E t xv lov hiv mxv hX fun v => K2 v hX := fun hX ρ2 K2 => by rw [hh, e2, e4, e6, e8]
    have pure : ∀ v, K v h = some r → (∀ (h2 : Heap) (ρ2 : Type) (K2 : Value → Option ρ2), slc E t xv lov hiv mxv h2 K2 = K2 v) → Reads E o fr h K r := by
      intro v h1 h2
      refine ⟨v, fun _ => True, h1, trivial, fun hX _ ρ2 K2 => by rw [hh2, h2], fun _ _ _ _ => trivial, fun ρ2 K2 r2 e3 => ?_⟩
      rw [hl', e2] at e3
      split at e3 <;> exact ⟨_, e3, fun _ _ => trivial⟩
    unfold slc at e7
    split at e7
    · cases e7
    · split at e7
      · rename_i s hs
        have hF : Nt fun ρ K => slc.opt hiv s.size s.size fun b => slc.opt lov b 0 fun a => K (Value.string (s.extract a b)) := ns_opt fun b => ns_opt fun a => Nt.ret _
        obtain ⟨v, h1, h2⟩ := hF.det (K := fun v => K v h) e7
        exact pure v h1 fun hX ρ2 K2 => by unfold slc; simp only [hs]; exact h2 _ _
      · rename_i el p n c hs
        split at e7
        · rename_i hok
          have hfx : (∀ q, p = some q → rowB (h.get q.block) (E.T el).rc = true) ∧ (slc.opt hiv c n fun b => slc.opt lov b 0 fun a => K (Value.slice (slp p c a (E.T el).size) (b - a) (c - a)) h) = some r := by
            unfold fxE at e7
            split at e7
            · exact ⟨by simp, e7⟩
            · split at e7
              · rename_i q hq
                exact ⟨fun q' h' => by cases h'; exact hq, e7⟩
              · cases e7
          obtain ⟨hc, e10⟩ := hfx
          have hF : Nt fun ρ K => slc.opt hiv c n fun b => slc.opt lov b 0 fun a => K (Value.slice (slp p c a (E.T el).size) (b - a) (c - a)) := ns_opt fun b => ns_opt fun a => Nt.ret _
          obtain ⟨v, h1, h2⟩ := hF.det (K := fun v => K v h) e10
          refine ⟨v, fun h2 => ∀ q, p = some q → rowB (h2.get q.block) (E.T el).rc = true, h1, hc, fun hX hR ρ2 K2 => ?_, fun h1 h2 hR hle q hq => ?_, fun ρ2 K2 r2 e11 => ?_⟩
          · rw [hh2]
            unfold slc
            simp only [hs, hok]
            cases p with
            | none => exact h2 _ (fun v => K2 v hX)
            | some q =>
              simp only [fxE, hR q rfl]
              exact h2 _ (fun v => K2 v hX)
          · have := hR q hq
            rw [hle _ (by intro q2; rw [q2] at this; cases this)]
            exact this
          · rw [hl', e2] at e11
            simp only [hs] at e11
            refine ⟨_, e11, fun h2 hq q hp => ?_⟩
            subst hp
            simpa only [Lg.ok] using hq
        · cases e7
      · rename_i n el p hs
        split at e7
        · rename_i hok
          obtain ⟨q, rfl, e9⟩ := nn_some e7
          have hfx : (∃ cs e0, h.get q.block = .cells cs e0 false ∧ isV e0 = true) ∧ (slc.opt hiv n n fun b => slc.opt lov b 0 fun a => K (Value.slice (slp (some q) n a (E.T el).size) (b - a) (n - a)) h) = some r := by
            unfold fx0 at e9
            split at e9
            · split at e9
              · exact ⟨⟨_, _, by assumption, by assumption⟩, e9⟩
              · cases e9
            · cases e9
          obtain ⟨hc, e10⟩ := hfx
          have hF : Nt fun ρ K => slc.opt hiv n n fun b => slc.opt lov b 0 fun a => K (Value.slice (slp (some q) n a (E.T el).size) (b - a) (n - a)) := ns_opt fun b => ns_opt fun a => Nt.ret _
          obtain ⟨v, h1, h2⟩ := hF.det (K := fun v => K v h) e10
          refine ⟨v, fun h2 => ∃ cs e0, h2.get q.block = .cells cs e0 false ∧ isV e0 = true, h1, hc, fun hX hR ρ2 K2 => ?_, fun h1 h2 hR hle => ?_, fun ρ2 K2 r2 e11 => ?_⟩
          · obtain ⟨cs, e0, hcs, hv0⟩ := hR
            rw [hh2]
            unfold slc
            simp only [hs, hok, nn, fx0, hcs, hv0]
            exact h2 _ (fun v => K2 v hX)
          · obtain ⟨cs, e0, hcs, hv0⟩ := hR
            exact ⟨cs, e0, by rw [hle _ (by rw [hcs]; simp), hcs], hv0⟩
          · rw [hl', e2] at e11
            simp only [hs] at e11
            refine ⟨_, e11, fun h2 hq => ?_⟩
            simp only [Lg.ok] at hq
            split at hq
            · exact ⟨_, _, by assumption, hq⟩
            · cases hq
        · cases e7
      · cases e7
  case call c =>
    left
    obtain ⟨callee, cargs, ats⟩ := c
    cases callee with
    | value f => simp at hl
    | invoke f m => simp at hl
    | builtin b =>
      have hh : ∀ (hX : Heap) (ρ2 : Type) (K2 : Value → Heap → Option ρ2), hop E o fr hX K2 = evL fr cargs.toList fun args => bi E b ats.toList args hX K2 := fun hX ρ2 K2 => by unfold hop; simp only [ho]
      rw [hh] at e
      obtain ⟨args, e1, e2⟩ := (nt_evL fr _).det e
      have pure : ∀ v, (∀ (ρ2 : Type) (K2 : Lg → Option ρ2), logOf E o fr v h h K2 = K2 .yes) → K v h = some r → (∀ (h2 : Heap) (ρ2 : Type) (K2 : Value → Heap → Option ρ2), bi E b ats.toList args h2 K2 = K2 v h2) → Reads E o fr h K r := by
        intro v h0 h1 h2
        refine ⟨v, fun _ => True, h1, trivial, fun hX _ ρ2 K2 => by rw [hh, e2, h2], fun _ _ _ _ => trivial, fun ρ2 K2 r2 e3 => ?_⟩
        rw [h0] at e3
        exact ⟨_, e3, fun _ _ => trivial⟩
      cases b <;> try (simp at hl; done)
      case min =>
        cases args with
        | nil => unfold bi at e1; simp at e1
        | cons x l =>
          have hF : Nt fun ρ K => minL x l K := nt_minL _ _
          obtain ⟨v, h1, h2⟩ := hF.det (K := fun v => K v h) e1
          exact pure v (fun ρ2 K2 => by unfold logOf; simp only [ho]) h1 fun hX ρ2 K2 => h2 _ fun v => K2 v hX
      case max =>
        cases args with
        | nil => unfold bi at e1; simp at e1
        | cons x l =>
          have hF : Nt fun ρ K => maxL x l K := nt_maxL _ _
          obtain ⟨v, h1, h2⟩ := hF.det (K := fun v => K v h) e1
          exact pure v (fun ρ2 K2 => by unfold logOf; simp only [ho]) h1 fun hX ρ2 K2 => h2 _ fun v => K2 v hX
      case len =>
        match args, e1, e2, pure with
        | [], e1, _, _ => unfold bi at e1; simp at e1
        | _ :: _ :: _, e1, _, _ => unfold bi at e1; simp at e1
        | [x], e1, e2, pure =>
          unfold bi at e1
          simp only at e1
          split at e1
          · rename_i t hats
            have hat0 : ats[0]? = some t := by rw [← Array.getElem?_toList, hats]; rfl
            split at e1
            · rename_i s hs
              exact pure _ (fun ρ2 K2 => by unfold logOf; simp only [ho, hat0, Option.map_some, hs]) e1 fun hX ρ2 K2 => by unfold bi; simp only [hats, hs]
            · rename_i el p n c hs
              exact pure _ (fun ρ2 K2 => by unfold logOf; simp only [ho, hat0, Option.map_some, hs]) e1 fun hX ρ2 K2 => by unfold bi; simp only [hats, hs]
            · rename_i n el hs
              exact pure _ (fun ρ2 K2 => by unfold logOf; simp only [ho, hat0, Option.map_some, hs]) e1 fun hX ρ2 K2 => by unfold bi; simp only [hats, hs]
            · rename_i k v hs
              refine ⟨.int .i64 0, fun _ => True, e1, trivial, fun hX _ ρ2 K2 => by rw [hh, e2]; unfold bi; simp only [hats, hs], fun _ _ _ _ => trivial, fun ρ2 K2 r2 e3 => ?_⟩
              unfold logOf at e3
              simp only [ho, hat0, Option.map_some, hs] at e3
              exact ⟨_, e3, fun _ _ => trivial⟩
            · rename_i k v i hs
              split at e1
              · rename_i es hg
                refine ⟨.int .i64 es.length, fun h2 => h2.get i = .map es, e1, hg, fun hX hR ρ2 K2 => by rw [hh, e2]; unfold bi; simp only [hats, hs, hR], fun h1 h2 hR hle => (hle i (by rw [show h1.get i = .map es from hR]; simp)).trans hR, fun ρ2 K2 r2 e3 => ?_⟩
                unfold logOf at e3
                simp only [ho, hat0, Option.map_some, hs] at e3
                exact ⟨_, e3, fun h2 hq => by cases hq⟩
              · cases e1
            · cases e1
          · cases e1
end
end Ab
end Go.Proofs.YtaaacaejpchbpaaGreat
