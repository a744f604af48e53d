/- The passing style is natural: what a step passes on does not hang on where it passes it. Frames that agree on the operands are the same to an operation. No condition. -/
import Derived.Test.YtaaacaejpchbpaaGreatInv
set_option linter.unusedVariables false
set_option linter.unusedSimpArgs false
namespace Go.Proofs.YtaaacaejpchbpaaGreat
namespace Ab
open Go
section
variable {α β : Type}
def Nt (F : ∀ ρ : Type, (α → Option ρ) → Option ρ) : Prop := ∀ (ρ : Type) (K : α → Option ρ), F ρ K = (F α some).bind K

theorem Nt.app {F : ∀ ρ : Type, (α → Option ρ) → Option ρ} (h : Nt F) {ρ : Type} {K : α → Option ρ} : F ρ K = (F α some).bind K := h ρ K
/-- What a success passed on. -/
theorem Nt.det {F : ∀ ρ : Type, (α → Option ρ) → Option ρ} (h : Nt F) {ρ : Type} {K : α → Option ρ} {r : ρ} (e : F ρ K = some r) :
    ∃ v, K v = some r ∧ ∀ (ρ2 : Type) (K2 : α → Option ρ2), F ρ2 K2 = K2 v := by
  rw [h] at e
  cases q : F α some with
  | none => rw [q] at e; cases e
  | some v =>
    rw [q] at e
    refine ⟨v, e, fun ρ2 K2 => ?_⟩
    rw [h, q]; rfl
theorem Nt.of_some {F : ∀ ρ : Type, (α → Option ρ) → Option ρ} (h : Nt F) {v : α} (e : F α some = some v) (ρ : Type) (K : α → Option ρ) : F ρ K = K v := by
  rw [h, e]; rfl
theorem Nt.ret (v : α) : Nt fun ρ K => K v := fun _ _ => rfl
theorem Nt.no : Nt (α := α) fun ρ K => none := fun _ _ => rfl
/-- One step, then more. -/
theorem Nt.seq {F : ∀ ρ : Type, (α → Option ρ) → Option ρ} (hF : Nt F) {G : α → ∀ ρ : Type, (β → Option ρ) → Option ρ} (hG : ∀ v, Nt (G v)) : Nt fun ρ K => F ρ fun v => G v ρ K := by
  intro ρ K
  show F ρ (fun v => G v ρ K) = (F β fun v => G v β some).bind K
  rw [hF ρ, hF β]
  cases F α some with
  | none => rfl
  | some v => exact hG v ρ K

theorem nt_cI (k : IntKind) (v : Value) : Nt fun ρ K => cI k v K := by intro ρ K; unfold cI; cases v <;> try rfl
                                                                       simp only; split <;> rfl
theorem nt_cB (v : Value) : Nt fun ρ K => cB v K := by intro ρ K; unfold cB; cases v <;> rfl
theorem nt_cS (v : Value) : Nt fun ρ K => cS v K := by intro ρ K; unfold cS; cases v <;> rfl
theorem nt_cP (v : Value) : Nt fun ρ K => cP v K := by intro ρ K; unfold cP; cases v <;> rfl
theorem nt_cL (v : Value) : Nt (α := Option Addr × Nat × Nat) fun ρ K => cL v fun p n c => K (p, n, c) := by intro ρ K; unfold cL; cases v <;> rfl
theorem nt_cM (v : Value) : Nt fun ρ K => cM v K := by intro ρ K; unfold cM; cases v <;> rfl
theorem nt_cA (v : Value) : Nt fun ρ K => cA v K := by intro ρ K; unfold cA; cases v <;> rfl
theorem nt_cT (v : Value) : Nt fun ρ K => cT v K := by intro ρ K; unfold cT; cases v <;> rfl
theorem nt_cX (v : Value) : Nt (α := Nat × Value) fun ρ K => cX v fun t x => K (t, x) := by intro ρ K; unfold cX; cases v <;> rfl
theorem nt_nn (p : Option Addr) : Nt fun ρ K => nn p K := by intro ρ K; unfold nn; cases p <;> rfl
theorem nt_uc (l : List Value) : Nt (α := Value × List Value) fun ρ K => uc l fun v m => K (v, m) := by intro ρ K; unfold uc; cases l <;> rfl
theorem nt_cast1 (k : Kd) (v : Value) : Nt fun ρ K => cast1 k v K := by
  intro ρ K
  cases k <;> cases v <;> try rfl
  all_goals (simp only [cast1, cI]; split <;> rfl)
theorem nt_castL : ∀ (ks : List Kd) (l : List Value), Nt fun ρ K => castL ks l K
  | [], l => by intro ρ K; cases l <;> rfl
  | k :: ks, [] => by intro ρ K; rfl
  | k :: ks, v :: l => by
    have := Nt.seq (nt_cast1 k v) (G := fun v' ρ K => castL ks l fun r => K (v' :: r)) (fun v' => Nt.seq (nt_castL ks l) (G := fun r ρ K => K (v' :: r)) fun r => Nt.ret _)
    exact this
theorem nt_castTy (t : TyR) (v : Value) : Nt fun ρ K => castTy t v K := by
  unfold castTy
  cases t.isAgg
  · simp only
    split
    · exact nt_cast1 _ _
    · exact Nt.no
  · exact Nt.seq (nt_cA v) (G := fun l ρ K => castL t.ks l fun l' => K (Value.agg ⟨l'⟩)) fun l => Nt.seq (nt_castL _ _) (G := fun l' ρ K => K (Value.agg ⟨l'⟩)) fun _ => Nt.ret _
theorem nt_ld (h : Heap) (p : Option Addr) (i : Nat) : Nt fun ρ K => ld h p i K := by
  intro ρ K; unfold ld; cases p with
  | none => rfl
  | some a => simp only; cases cellAt h a i <;> rfl
theorem nt_ldL (h : Heap) (p : Option Addr) : ∀ (ks : List Kd) (i : Nat), Nt fun ρ K => ldL h p ks i K
  | [], i => Nt.ret _
  | k :: ks, i => Nt.seq (nt_ld h p i) (G := fun v ρ K => cast1 k v fun v' => ldL h p ks (i + 1) fun r => K (v' :: r)) fun v =>
      Nt.seq (nt_cast1 k v) (G := fun v' ρ K => ldL h p ks (i + 1) fun r => K (v' :: r)) fun v' => Nt.seq (nt_ldL h p ks (i + 1)) (G := fun r ρ K => K (v' :: r)) fun _ => Nt.ret _
theorem nt_ldTy (t : TyR) (h : Heap) (p : Option Addr) : Nt fun ρ K => ldTy t h p K := by
  unfold ldTy
  cases t.isAgg
  · simp only
    split
    · exact Nt.seq (nt_ld h p 0) (G := fun v ρ K => cast1 _ v K) fun v => nt_cast1 _ _
    · exact Nt.no
  · simp only
    split
    · exact Nt.seq (nt_ldL h p _ 0) (G := fun l ρ K => K (Value.agg ⟨l⟩)) fun _ => Nt.ret _
    · exact Nt.no
theorem nt_ite {p : Prop} [Decidable p] {G : ∀ ρ : Type, (α → Option ρ) → Option ρ} (h : Nt G) : Nt fun ρ K => if p then G ρ K else none := by
  by_cases q : p
  · simp only [q, if_true]; exact h
  · simp only [q, if_false]; exact Nt.no
theorem nt_cond {b : Bool} {F G : ∀ ρ : Type, (α → Option ρ) → Option ρ} (h : Nt F) (k : Nt G) : Nt fun ρ K => cond b (F ρ K) (G ρ K) := by
  cases b <;> assumption
theorem nt_inb {i : Int} {n : Nat} {G : ∀ ρ : Type, (α → Option ρ) → Option ρ} (h : Nt G) : Nt fun ρ K => inb i n (G ρ K) := nt_ite h
theorem nt_tas {i j : Nat} {G : ∀ ρ : Type, (α → Option ρ) → Option ρ} (h : Nt G) : Nt fun ρ K => tas i j (G ρ K) := nt_ite h
theorem nt_nneg {i : Int} {G : ∀ ρ : Type, (α → Option ρ) → Option ρ} (h : Nt G) : Nt fun ρ K => nneg i (G ρ K) := nt_ite h
theorem nt_nz {i : Int} {G : ∀ ρ : Type, (α → Option ρ) → Option ρ} (h : Nt G) : Nt fun ρ K => nz i (G ρ K) := by
  unfold nz
  by_cases q : i = 0
  · simp only [q, if_true]; exact Nt.no
  · simp only [q, if_false]; exact h
theorem nt_cnn {v : Value} {G : ∀ ρ : Type, (α → Option ρ) → Option ρ} (h : Nt G) : Nt fun ρ K => cnn v (G ρ K) := by
  unfold cnn
  split
  · exact h
  · exact h
  · exact Nt.no
theorem nt_bnd (i : Int) (n : Nat) : Nt fun ρ K => bnd i n K := nt_ite (G := fun ρ K => K i.toNat) (Nt.ret _)
theorem nt_cat (a b : ByteArray) : Nt fun ρ K => cat a b K := nt_ite (G := fun ρ K => K (a ++ b)) (Nt.ret _)
theorem nt_gt (cs : List Value) (i : Nat) : Nt fun ρ K => gt cs i K := by intro ρ K; unfold gt; split <;> rfl
theorem nt_ev (fr : Fr) (x : Operand) : Nt fun ρ K => ev fr x K := by
  intro ρ K; unfold ev; cases x with
  | tmp t => simp only; cases fr t <;> rfl
  | const v => simp only; cases okC v <;> rfl
  | func f => rfl
  | global g => rfl
theorem nt_evL (fr : Fr) : ∀ xs : List Operand, Nt fun ρ K => evL fr xs K
  | [] => Nt.ret _
  | x :: xs => Nt.seq (nt_ev fr x) (G := fun v ρ K => evL fr xs fun r => K (v :: r)) fun v => Nt.seq (nt_evL fr xs) (G := fun r ρ K => K (v :: r)) fun _ => Nt.ret _
theorem nt_evO (fr : Fr) (x : Option Operand) : Nt fun ρ K => evO fr x K := by
  cases x with
  | none => exact Nt.ret _
  | some x => exact Nt.seq (nt_ev fr x) (G := fun v ρ K => K (some v)) fun _ => Nt.ret _
theorem nt_partsL (fr : Fr) : ∀ xs : List (Nat × Operand), Nt fun ρ K => partsL fr xs K
  | [] => Nt.ret _
  | (i, x) :: xs => Nt.seq (nt_ev fr x) (G := fun v ρ K => partsL fr xs fun r => K ((i, v) :: r)) fun v => Nt.seq (nt_partsL fr xs) (G := fun r ρ K => K ((i, v) :: r)) fun _ => Nt.ret _
theorem nt_fillL (pl : Nat → Option (Nat × Nat)) : ∀ (l : List (Nat × Value)) (cs : List Value), Nt fun ρ K => fillL cs l pl K
  | [], cs => Nt.ret _
  | (i, v) :: l, cs => by
    unfold fillL
    cases pl i with
    | none => exact Nt.no
    | some x => exact nt_ite (G := fun ρ K => fillL (setL cs x.1 v.cells.toList) l pl K) (nt_fillL pl l _)
theorem nt_partTy (T : Nat → TyR) (t : Nat) (cs : List Value) (off : Nat) : Nt fun ρ K => partTy T t cs off K := by
  unfold partTy
  cases (T t).isAgg
  · simp only
    cases cs[off]?
    · exact Nt.no
    · exact Nt.ret _
  · exact nt_ite (G := fun ρ K => K _) (Nt.ret _)
theorem nt_idxS (s : ByteArray) (i : Int) : Nt fun ρ K => idxS s i K := by
  refine nt_ite (p := 0 ≤ i) (G := fun ρ (K : Int → Option ρ) => match s[i.toNat]? with | some b => K b.toNat | none => none) ?_
  cases s[i.toNat]?
  · exact Nt.no
  · exact Nt.ret _
theorem nt_binI (op : BinOp) (k : IntKind) (a b : Int) : Nt fun ρ K => binI op k a b K := by
  unfold binI
  cases op <;> simp only <;> first | exact Nt.ret _ | exact Nt.no | exact nt_nz (G := fun ρ K => K _) (Nt.ret _)
theorem nt_binS (op : BinOp) (x y : ByteArray) : Nt fun ρ K => binS op x y K := by
  unfold binS
  cases op <;> simp only <;> first | exact Nt.ret _ | exact Nt.no | exact Nt.seq (nt_cat x y) (G := fun s ρ K => K (Value.string s)) fun _ => Nt.ret _
theorem nt_peq (p q : Option Addr) : Nt fun ρ K => peq p q K := by
  intro ρ K; unfold peq; cases q <;> cases p <;> rfl
theorem nt_eqL : ∀ (l l' : List Value), Nt fun ρ K => eqL l l' K := by
  intro l
  induction l with
  | nil =>
    intro l'
    cases l' with
    | nil => exact Nt.ret _
    | cons _ _ => intro ρ K; simp [eqL]
  | cons v l ih =>
    intro l'
    cases l' with
    | nil => intro ρ K; cases v <;> simp [eqL]
    | cons v' l' =>
      cases v <;> cases v' <;> (try (intro ρ K; simp [eqL]; done)) <;> simp only [eqL]
      · exact Nt.seq (ih l') (G := fun r ρ K => K _) fun _ => Nt.ret _
      · exact nt_ite (G := fun ρ K => eqL l l' fun r => K _) (Nt.seq (ih l') (G := fun r ρ K => K _) fun _ => Nt.ret _)
      · exact Nt.seq (ih l') (G := fun r ρ K => K _) fun _ => Nt.ret _
theorem nt_map {F : ∀ ρ : Type, (α → Option ρ) → Option ρ} (hF : Nt F) (g : α → β) : Nt fun ρ K => F ρ fun v => K (g v) := Nt.seq hF (G := fun v ρ K => K (g v)) fun _ => Nt.ret _
theorem nt_bin (T : Nat → TyR) (Q : Nat → Bool) (op : BinOp) (t : Nat) (x y : Value) : Nt fun ρ K => bin T Q op t x y K := by
  unfold bin
  split
  · split
    · exact nt_nneg (G := fun ρ K => K _) (Nt.ret _)
    · exact nt_nneg (G := fun ρ K => K _) (Nt.ret _)
    · exact nt_ite (G := fun ρ K => binI _ _ _ _ K) (nt_binI _ _ _ _)
  · exact nt_binS _ _ _
  · split
    · split <;> first | exact Nt.ret _ | exact Nt.no
    · exact Nt.no
  · split
    · split
      · exact nt_map (nt_peq _ _) fun b => Value.bool b
      · exact nt_map (nt_peq _ _) fun b => Value.bool (!b)
      · exact Nt.no
    · exact Nt.no
  · split
    · split
      · exact nt_map (nt_eqL _ _) fun b => Value.bool b
      · exact nt_map (nt_eqL _ _) fun b => Value.bool (!b)
      · exact Nt.no
    · exact Nt.no
  · split
    · split <;> first | exact Nt.ret _ | exact Nt.no
    · exact Nt.no
  · split
    · split <;> first | exact Nt.ret _ | exact Nt.no
    · exact Nt.no
  · exact Nt.no
theorem nt_un (op : UnOp) (x : Value) : Nt fun ρ K => un op x K := by
  unfold un
  split <;> first | exact Nt.ret _ | exact Nt.no
theorem nt_opt (x : Option Value) (m d : Nat) : Nt fun ρ K => slc.opt x m d K := by
  unfold slc.opt
  split
  · exact Nt.ret _
  · exact nt_bnd _ _
  · exact Nt.no
theorem nt_minL : ∀ (l : List Value) (v : Value), Nt fun ρ K => minL v l K
  | [], v => Nt.ret _
  | y :: l, v => by
    cases v <;> cases y <;> first | exact Nt.no | skip
    exact nt_ite (G := fun ρ K => minL _ l K) (nt_minL l _)
theorem nt_maxL : ∀ (l : List Value) (v : Value), Nt fun ρ K => maxL v l K
  | [], v => Nt.ret _
  | y :: l, v => by
    cases v <;> cases y <;> first | exact Nt.no | skip
    exact nt_ite (G := fun ρ K => maxL _ l K) (nt_maxL l _)
theorem nt_ixA (E : Env) (t : Nat) (x i : Value) : Nt fun ρ K => ixA E t x i K := by
  unfold ixA
  split
  · split
    · split
      · exact Nt.seq (nt_nn _) (G := fun a ρ K => inb _ _ (K _)) fun a => nt_inb (G := fun ρ K => K _) (Nt.ret _)
      · exact Nt.no
    · split
      · exact nt_inb (G := fun ρ K => nn _ fun a => K _) (nt_map (nt_nn _) fun a => _)
      · exact Nt.no
    · exact Nt.no
  · exact Nt.no
theorem nt_toStr (h : Heap) (p : Option Addr) (n : Nat) : Nt fun ρ K => strOf h p n K := by
  intro ρ K; unfold strOf; cases toStr h p n <;> rfl

/- one step, then more: by name -/
section
variable {h : Heap} {fr : Fr}
theorem ns_ev {x : Operand} {G : Value → ∀ ρ : Type, (β → Option ρ) → Option ρ} (hG : ∀ v, Nt (G v)) : Nt fun ρ K => ev fr x fun v => G v ρ K := Nt.seq (nt_ev _ _) hG
theorem ns_evL {x : List Operand} {G : List Value → ∀ ρ : Type, (β → Option ρ) → Option ρ} (hG : ∀ v, Nt (G v)) : Nt fun ρ K => evL fr x fun v => G v ρ K := Nt.seq (nt_evL _ _) hG
theorem ns_evO {x : Option Operand} {G : Option Value → ∀ ρ : Type, (β → Option ρ) → Option ρ} (hG : ∀ v, Nt (G v)) : Nt fun ρ K => evO fr x fun v => G v ρ K := Nt.seq (nt_evO _ _) hG
theorem ns_parts {x : List (Nat × Operand)} {G : List (Nat × Value) → ∀ ρ : Type, (β → Option ρ) → Option ρ} (hG : ∀ v, Nt (G v)) : Nt fun ρ K => partsL fr x fun v => G v ρ K := Nt.seq (nt_partsL _ _) hG
theorem ns_fill {cs : List Value} {l : List (Nat × Value)} {pl : Nat → Option (Nat × Nat)} {G : List Value → ∀ ρ : Type, (β → Option ρ) → Option ρ} (hG : ∀ v, Nt (G v)) : Nt fun ρ K => fillL cs l pl fun v => G v ρ K := Nt.seq (nt_fillL _ _ _) hG
theorem ns_cB {v : Value} {G : Bool → ∀ ρ : Type, (β → Option ρ) → Option ρ} (hG : ∀ v, Nt (G v)) : Nt fun ρ K => cB v fun v => G v ρ K := Nt.seq (nt_cB _) hG
theorem ns_cP {v : Value} {G : Option Addr → ∀ ρ : Type, (β → Option ρ) → Option ρ} (hG : ∀ v, Nt (G v)) : Nt fun ρ K => cP v fun v => G v ρ K := Nt.seq (nt_cP _) hG
theorem ns_cA {v : Value} {G : List Value → ∀ ρ : Type, (β → Option ρ) → Option ρ} (hG : ∀ v, Nt (G v)) : Nt fun ρ K => cA v fun v => G v ρ K := Nt.seq (nt_cA _) hG
theorem ns_cX {v : Value} {G : Nat → Value → ∀ ρ : Type, (β → Option ρ) → Option ρ} (hG : ∀ t v, Nt (G t v)) : Nt fun ρ K => cX v fun t v => G t v ρ K := Nt.seq (nt_cX _) (G := fun x => G x.1 x.2) fun x => hG x.1 x.2
theorem ns_nn {v : Option Addr} {G : Addr → ∀ ρ : Type, (β → Option ρ) → Option ρ} (hG : ∀ v, Nt (G v)) : Nt fun ρ K => nn v fun v => G v ρ K := Nt.seq (nt_nn _) hG
theorem ns_part {T : Nat → TyR} {t : Nat} {cs : List Value} {off : Nat} {G : Value → ∀ ρ : Type, (β → Option ρ) → Option ρ} (hG : ∀ v, Nt (G v)) : Nt fun ρ K => partTy T t cs off fun v => G v ρ K := Nt.seq (nt_partTy _ _ _ _) hG
theorem ns_cast {t : TyR} {v : Value} {G : Value → ∀ ρ : Type, (β → Option ρ) → Option ρ} (hG : ∀ v, Nt (G v)) : Nt fun ρ K => castTy t v fun v => G v ρ K := Nt.seq (nt_castTy _ _) hG
theorem ns_bin {T : Nat → TyR} {Q : Nat → Bool} {op : BinOp} {t : Nat} {x y : Value} {G : Value → ∀ ρ : Type, (β → Option ρ) → Option ρ} (hG : ∀ v, Nt (G v)) : Nt fun ρ K => bin T Q op t x y fun v => G v ρ K := Nt.seq (nt_bin _ _ _ _ _ _) hG
theorem ns_un {op : UnOp} {x : Value} {G : Value → ∀ ρ : Type, (β → Option ρ) → Option ρ} (hG : ∀ v, Nt (G v)) : Nt fun ρ K => un op x fun v => G v ρ K := Nt.seq (nt_un _ _) hG
theorem ns_ixA {E : Env} {t : Nat} {x i : Value} {G : Value → ∀ ρ : Type, (β → Option ρ) → Option ρ} (hG : ∀ v, Nt (G v)) : Nt fun ρ K => ixA E t x i fun v => G v ρ K := Nt.seq (nt_ixA _ _ _ _) hG
theorem ns_idxS {s : ByteArray} {i : Int} {G : Int → ∀ ρ : Type, (β → Option ρ) → Option ρ} (hG : ∀ v, Nt (G v)) : Nt fun ρ K => idxS s i fun v => G v ρ K := Nt.seq (nt_idxS _ _) hG
theorem ns_opt {x : Option Value} {m d : Nat} {G : Nat → ∀ ρ : Type, (β → Option ρ) → Option ρ} (hG : ∀ v, Nt (G v)) : Nt fun ρ K => slc.opt x m d fun v => G v ρ K := Nt.seq (nt_opt _ _ _) hG
theorem ns_min {l : List Value} {v : Value} {G : Value → ∀ ρ : Type, (β → Option ρ) → Option ρ} (hG : ∀ v, Nt (G v)) : Nt fun ρ K => minL v l fun v => G v ρ K := Nt.seq (nt_minL _ _) hG
theorem ns_max {l : List Value} {v : Value} {G : Value → ∀ ρ : Type, (β → Option ρ) → Option ρ} (hG : ∀ v, Nt (G v)) : Nt fun ρ K => maxL v l fun v => G v ρ K := Nt.seq (nt_maxL _ _) hG
end

/- frames -/
def Agree (fr fr' : Fr) (x : Operand) : Prop := match x with | .tmp t => fr t = fr' t | _ => True
theorem ev_congr {ρ : Type} {fr fr' : Fr} {x : Operand} (h : Agree fr fr' x) (K : Value → Option ρ) : ev fr x K = ev fr' x K := by
  cases x <;> first | rfl | (simp only [Agree] at h; simp only [ev, h])
theorem evL_congr {ρ : Type} {fr fr' : Fr} : ∀ {xs : List Operand}, (∀ x ∈ xs, Agree fr fr' x) → ∀ K : List Value → Option ρ, evL fr xs K = evL fr' xs K
  | [], h, K => rfl
  | x :: xs, h, K => by
    simp only [evL]
    rw [ev_congr (h x (by simp))]
    congr 1
    funext v
    exact evL_congr (fun y hy => h y (by simp [hy])) _
theorem evO_congr {ρ : Type} {fr fr' : Fr} {x : Option Operand} (h : ∀ y, x = some y → Agree fr fr' y) (K : Option Value → Option ρ) : evO fr x K = evO fr' x K := by
  cases x with
  | none => rfl
  | some x => exact ev_congr (h x rfl) _
theorem partsL_congr {ρ : Type} {fr fr' : Fr} : ∀ {xs : List (Nat × Operand)}, (∀ x ∈ xs, Agree fr fr' x.2) → ∀ K : List (Nat × Value) → Option ρ, partsL fr xs K = partsL fr' xs K
  | [], h, K => rfl
  | (i, x) :: xs, h, K => by
    simp only [partsL]
    rw [ev_congr (h (i, x) (by simp))]
    congr 1
    funext v
    exact partsL_congr (fun y hy => h y (by simp [hy])) _
theorem hop_congr {ρ : Type} {E : Env} {o : Oper} {fr fr' : Fr} (ha : ∀ x ∈ o.op.operands, Agree fr fr' x) (h : Heap) (K : Value → Heap → Option ρ) : hop E o fr h K = hop E o fr' h K := by
  unfold hop
  cases ho : o.op <;> rw [ho] at ha <;> simp only [Op.operands] at ha <;> simp only
  case move x => exact ev_congr (ha x (by simp)) _
  case assign x => exact ev_congr (ha x (by simp)) _
  case pick c x y => simp only [ev_congr (ha c (by simp)), ev_congr (ha x (by simp)), ev_congr (ha y (by simp))]
  case box t x => exact ev_congr (ha x (by simp)) _
  case build t ps => exact partsL_congr (fun x hx => ha x.2 (by simp; exact ⟨x.1, by simpa using hx⟩)) _
  case buildSlice t n ps => exact partsL_congr (fun x hx => ha x.2 (by simp; exact ⟨x.1, by simpa using hx⟩)) _
  case load t x => exact ev_congr (ha x (by simp)) _
  case store t x y => simp only [ev_congr (ha x (by simp)), ev_congr (ha y (by simp))]
  case nilCheck x => exact ev_congr (ha x (by simp)) _
  case binOp op t x y n => simp only [ev_congr (ha x (by simp)), ev_congr (ha y (by simp))]
  case unOp op t x => exact ev_congr (ha x (by simp)) _
  case convert s d x => exact ev_congr (ha x (by simp)) _
  case makeInterface t x => simp only [ev_congr (ha x (by simp))]
  case makeFunc fn x y => simp only [evL_congr (xs := x.toList) (fun z hz => ha z (by simp at hz ⊢; exact .inl hz)), evL_congr (xs := y.toList) (fun z hz => ha z (by simp at hz ⊢; exact .inr hz))]
  case makeSlice t x y => simp only [ev_congr (ha x (by simp)), ev_congr (ha y (by simp))]
  case slice t x lo hi mx => simp only [ev_congr (ha x (by simp)), evO_congr (x := lo) (fun y hy => ha y (by simp [hy])), evO_congr (x := hi) (fun y hy => ha y (by simp [hy])), evO_congr (x := mx) (fun y hy => ha y (by simp [hy]))]
  case fieldAddr s x f => exact ev_congr (ha x (by simp)) _
  case field s x f => exact ev_congr (ha x (by simp)) _
  case indexAddr s x i => simp only [ev_congr (ha x (by simp)), ev_congr (ha i (by simp))]
  case index s x i => simp only [ev_congr (ha x (by simp)), ev_congr (ha i (by simp))]
  case extract x i => exact ev_congr (ha x (by simp)) _
  case typeAssert x xt t ok => simp only [ev_congr (ha x (by simp))]
  case call c =>
    have hargs : ∀ x ∈ c.args.toList, Agree fr fr' x := fun x hx => ha x (by simp [Call.operands]; exact .inr (by simpa using hx))
    cases hc : c.callee with
    | builtin b => simp only [evL_congr hargs]
    | value f => simp only [evL_congr hargs, ev_congr (ha f (by simp [Call.operands, hc]))]
    | invoke f m => simp only [evL_congr hargs, ev_congr (ha f (by simp [Call.operands, hc]))]
end
end Ab
end Go.Proofs.YtaaacaejpchbpaaGreat
