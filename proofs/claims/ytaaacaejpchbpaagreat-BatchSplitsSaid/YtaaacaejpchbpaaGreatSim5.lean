/- Each operation of the abstract heap is met by the machine's: making, building, asserting. No condition. -/
import Derived.Test.YtaaacaejpchbpaaGreatSim4
import Derived.Laws.MakeOwn
import Derived.Laws.Tables
import Derived.Great.BuildSlice
set_option linter.unusedVariables false
set_option linter.unusedSimpArgs false
namespace Go.Proofs.YtaaacaejpchbpaaGreat
namespace Ab
open Go Go.RowKit
section
variable {P : Program} {E : Env} {w0 w : World} {φ : Map} {h : Heap} {fr : Fr} {a : Act} {o : Oper} {next : Act → World → Prop} {Q : Exit → Act → World → Prop} {ρ : Type} {K : Value → Heap → Option ρ} {r : ρ}

theorem repL_length (z : List Value) : ∀ n, (repL n z).length = n * z.length
  | 0 => by simp [repL]
  | n + 1 => by rw [repL, List.length_append, repL_length z n, Nat.add_mul]; omega
theorem repL_eq (z : Array Value) : ∀ n, repL n z.toList = (List.range (n * z.size)).map fun i => z[i % z.size]!
  | 0 => by simp [repL]
  | n + 1 => by
    rw [repL, repL_eq z n, Nat.succ_mul, Nat.add_comm, List.range_add, List.map_append, List.map_map]
    congr 1
    · apply List.ext_getElem
      · simp
      · intro i h1 h2
        simp at h1
        simp [Nat.mod_eq_of_lt h1, getElem!_pos z i h1]
    · apply List.map_congr_left
      intro i _
      simp
theorem made_eq (z : Array Value) (n : Nat) : (madeCells z (n * z.size)).toList = repL n z.toList := by
  rw [repL_eq]; simp [madeCells]

theorem sim_makeSlice (hT : TOk P E.T) (hf : FrRel φ fr a.tmps) (hr : Rel w0 φ h w) {t : Nat} {x y : Operand} (ho : o.op = .makeSlice t x y)
    (hK : Nx w0 φ h a o next K r) (e : hop E o fr h K = some r) : o.wp P a w next Q := by
  unfold hop at e
  simp only [ho] at e
  obtain ⟨v, hv, e1⟩ := ev_sim hf e
  obtain ⟨u, hu, e2⟩ := ev_sim hf e1
  split at e2
  · rename_i el l c hs
    obtain ⟨hz, e3⟩ := ite_some e2
    unfold mkS at e3
    obtain ⟨⟨h0, hlc, hsm⟩, e4⟩ := ite_some e3
    obtain ⟨d, hd, hsh⟩ := (hT.of_sh (t := t) (by rw [hs]; simp)).u
    rw [hs] at hsh; simp only [ShOk] at hsh; subst hsh
    have f := hT.of_zero hz
    obtain ⟨i, hi, hsz, hby, hzz⟩ := f.info
    obtain ⟨z, hz1, hz2⟩ := hzz hz
    simp only [small, decide_eq_true_eq] at hsm
    have hzs : z.cells.size = (E.T el).size := by
      have := congrArg List.length hz2
      simp at this; omega
    have hb1 : c.toNat ≤ 1099511627776 := by
      have := Nat.le_mul_of_pos_right c.toNat (show 0 < (E.T el).bytes + 1 by omega)
      omega
    have hb2 : i.bytes * c.toNat ≤ 1099511627776 := by
      rw [hby, Nat.mul_comm]
      have : c.toNat * (E.T el).bytes ≤ c.toNat * ((E.T el).bytes + 1) := Nat.mul_le_mul_left _ (by omega)
      omega
    have hb3 : (i.bytes : Int) * c ≤ 281474976710656 := by
      have : ((i.bytes * c.toNat : Nat) : Int) = (i.bytes : Int) * c := by
        rw [Int.natCast_mul]; congr 1; omega
      omega
    have hrun := run_make (P := P) w t el i z hd hi hz1 .i64 .i64 l c h0 hlc hb3 (by omega)
    rw [hsz] at hrun
    rw [← hzs] at hrun
    obtain ⟨φ', h1, h2, h3⟩ := hr.fresh (repL c.toNat (E.T el).zero) (E.T el).rc (madeCells z.cells (c.toNat * z.cells.size)) el 0 (c.toNat * (E.T el).size) (by
        rw [made_eq, hz2]; exact (VRs.rep (okL_VR φ f.zok) _).all) (by rw [size_madeCells, hzs]; exact Nat.le_refl _) (fun _ => rfl) (f.tagR (.inr ⟨rfl, by rw [size_madeCells, hzs, repL_length, hz]⟩))
    refine wp_value (v := .slice (some ⟨w.heap.size, 0, none⟩) l.toNat c.toNat) ?_ (hK φ' _ _ _ _ h1 ?_ h3 e4)
    · unfold execOp
      simp only [ho, hv.toInt, hu.toInt]
      exact run_val hrun
    · have := VR.sl (φ := φ') (off := 0) (n := l.toNat) (c := c.toNat) h2 (by omega) (.inl rfl)
      exact this
  · cases e2

/- parts -/
inductive PR (φ : Map) : List (Nat × Value) → List (Nat × Value) → Prop
  | nil : PR φ [] []
  | cons {i : Nat} {v v' : Value} {l l' : List (Nat × Value)} : VR φ v v' → PR φ l l' → PR φ ((i, v) :: l) ((i, v') :: l')

theorem partsL_some (hf : FrRel φ fr a.tmps) : ∀ {xs : List (Nat × Operand)} {K : List (Nat × Value) → Option ρ}, partsL fr xs K = some r →
    ∃ l, K l = some r ∧ PR φ l (xs.map fun x => (x.1, a.eval x.2))
  | [], K, e => ⟨[], e, .nil⟩
  | (i, x) :: xs, K, e => by
    obtain ⟨v, h1, h2⟩ := ev_sim hf e
    obtain ⟨l, h3, h4⟩ := partsL_some hf (K := fun r => K ((i, v) :: r)) h2
    exact ⟨(i, v) :: l, h3, .cons h1 h4⟩

theorem fold_setL (off : Nat) : ∀ (l : List Value) (s : Nat) (cs : Array Value),
    ((l.zipIdx s).foldl (fun (cs : Array Value) (x : Value × Nat) => cs.setIfInBounds (off + x.2) x.1) cs).toList = setL cs.toList (off + s) l
  | [], s, cs => rfl
  | v :: l, s, cs => by
    rw [List.zipIdx_cons, List.foldl_cons, fold_setL off l (s + 1)]
    simp [setL, Nat.add_assoc]

theorem fillL_some {pl : Nat → Option (Nat × Nat)} {pl' : Nat → Option (Nat × Nat)} (hp : ∀ i x, pl i = some x → pl' i = some x) : ∀ {l l' : List (Nat × Value)} {cs : List Value} {C : Array Value} {K : List Value → Option ρ},
    PR φ l l' → VRs φ cs C.toList → fillL cs l pl K = some r → ∃ cs' C', K cs' = some r ∧ VRs φ cs' (C' : Array Value).toList ∧ Instr.fill pl' C l' = some C' ∧ C'.size = C.size
  | _, _, cs, C, K, .nil, hc, e => ⟨cs, C, e, hc, rfl, rfl⟩
  | _, _, cs, C, K, .cons (i := i) (v := v) (v' := v') hv ht, hc, e => by
    unfold fillL at e
    split at e
    · cases e
    · rename_i off size hpl
      obtain ⟨⟨h1, h2⟩, e1⟩ := ite_some e
      have hvl := hv.cells.length
      have hcl := hc.length
      have hset := fold_setL off v'.cells.toList 0 C
      rw [Nat.add_zero] at hset
      obtain ⟨cs', C', h3, h4, h5, h6⟩ := fillL_some hp ht (C := ((v'.cells.toList.zipIdx 0).foldl (fun (cs : Array Value) (x : Value × Nat) => cs.setIfInBounds (off + x.2) x.1) C)) (by
        rw [hset]; exact VRs.setL off hc hv.cells) e1
      refine ⟨cs', C', h3, h4, ?_, ?_⟩
      · unfold Instr.fill
        rw [hp i _ hpl]
        simp only
        simp at hvl hcl h1
        rw [if_neg (by simp; omega)]
        rw [← h5]
        congr 1
        rw [← Array.foldl_toList, Array.toList_zipIdx]
      · rw [h6]
        have := congrArg List.length hset
        simpa [setL_length] using this
  termination_by l => l.length

theorem sim_buildSlice (hT : TOk P E.T) (hf : FrRel φ fr a.tmps) (hr : Rel w0 φ h w) {t n : Nat} {ps : Array (Nat × Operand)} (ho : o.op = .buildSlice t n ps)
    (hK : Nx w0 φ h a o next K r) (e : hop E o fr h K = some r) : o.wp P a w next Q := by
  unfold hop at e
  simp only [ho] at e
  obtain ⟨l, e1, hl⟩ := partsL_some hf e
  split at e1
  · rename_i el hs
    obtain ⟨⟨hz, hb⟩, e2⟩ := ite_some e1
    obtain ⟨d, hd, hsh⟩ := (hT.of_sh (t := t) (by rw [hs]; simp)).u
    rw [hs] at hsh; simp only [ShOk] at hsh; subst hsh
    have f := hT.of_zero hz
    obtain ⟨i, hi, hsz, hby, hzz⟩ := f.info
    obtain ⟨z, hz1, hz2⟩ := hzz hz
    have hzs : z.cells.size = (E.T el).size := by
      have := congrArg List.length hz2
      simp at this; omega
    have hok : (E.T el).ok = true := by
      cases q : (E.T el).ok with
      | true => rfl
      | false => exact absurd hz (hT.no el q).2.2.1
    obtain ⟨cs', C', h1, h2, h3, h4⟩ := fillL_some (pl' := fun i => some (i * (E.T el).size, (E.T el).size)) (by
      intro i x q
      simpa [placeA, hok] using q) hl (C := madeCells z.cells (n * z.cells.size)) (by rw [made_eq, hz2]; exact VRs.rep (okL_VR φ f.zok) n) e2
    obtain ⟨φ', h5, h6, h7⟩ := hr.fresh cs' (E.T el).rc C' el 0 (n * (E.T el).size) h2.all (by rw [h4, size_madeCells, hzs]; exact Nat.le_refl _) (fun _ => rfl) (f.tagR (.inr ⟨rfl, by have := h2.length; simpa using this⟩))
    refine wp_value (v := .slice (some ⟨w.heap.size, 0, none⟩) n n) ?_ (hK φ' _ _ _ _ h5 ?_ h7 h1)
    · unfold execOp
      simp only [ho]
      refine run_val ?_
      have hparts : (ps.map fun (i, x) => (i, a.eval x)).toList = ps.toList.map fun x => (x.1, a.eval x.2) := by simp
      have hsmall : ¬ n * i.size > 2 ^ 24 := by rw [hsz]; omega
      by_cases hn : n * i.size = 0
      · have : madeCells z.cells (n * z.cells.size) = #[] := by rw [hzs, ← hsz, hn]; simp [madeCells]
        rw [this] at h3
        simp [Instr.buildSlice, run_underlying hd, sizeOf, typeInfo, hi, hsmall, hn, newRow, Array.range_zero']
        rw [hsz, h3]
        rfl
      · have := run_buildSlice (P := P) w t el n (ps.map fun (i, x) => (i, a.eval x)) C' i z hd hi hz1 hsmall hn (by
          rw [hparts, hsz, ← h3, madeCells, hzs])
        exact this
    · have := VR.sl (φ := φ') (off := 0) (n := n) (c := n) h6 (Nat.le_refl _) (.inl rfl)
      exact this
  · cases e1

theorem sim_build (hT : TOk P E.T) (hf : FrRel φ fr a.tmps) (hr : Rel w0 φ h w) {t : Nat} {ps : Array (Nat × Operand)} (ho : o.op = .build t ps)
    (hK : Nx w0 φ h a o next K r) (e : hop E o fr h K = some r) : o.wp P a w next Q := by
  unfold hop at e
  simp only [ho] at e
  obtain ⟨l, e1, hl⟩ := partsL_some hf e
  have hparts : (ps.map fun (i, x) => (i, a.eval x)).toList = ps.toList.map fun x => (x.1, a.eval x.2) := by simp
  have fin : ∀ (cs : List Value) (C : Array Value), K (.agg ⟨cs⟩) h = some r → VRs φ cs C.toList → P.built t (ps.map fun (i, x) => (i, a.eval x)).toList = some C → o.wp P a w next Q := by
    intro cs C h1 h2 h3
    refine wp_value (v := .agg C) (w' := w) ?_ (hK φ _ _ _ _ .same (.agg h2) hr h1)
    unfold execOp
    simp only [ho]
    exact run_val (run_build (P := P) w t _ C h3)
  split at e1
  · rename_i fs hs
    obtain ⟨hz, e2⟩ := ite_some e1
    have f := hT.of_zero hz
    obtain ⟨d, hd, hsh⟩ := f.u
    rw [hs] at hsh; simp only [ShOk] at hsh
    obtain ⟨F, rfl, hF⟩ := hsh
    obtain ⟨i, hi, hsz, hby, hzz⟩ := f.info
    obtain ⟨z, hz1, hz2⟩ := hzz hz
    have hpl : ∃ places, F.toList.mapM (fun f => (P.info? f.type).map fun i => (f.offset, i.size)) = some places ∧ ∀ j x, placeS E.T fs j = some x → places[j]? = some x := by
      have hin := f.flds fs hs
      rw [← hF] at hin ⊢
      clear hF e1 e2 hd
      generalize F.toList = L at hin ⊢
      clear hs
      induction L with
      | nil => exact ⟨[], rfl, by simp [placeS]⟩
      | cons g L ih =>
        obtain ⟨pl, h1, h2⟩ := ih (fun f hf => hin f (by simp at hf ⊢; exact .inr hf))
        have hg := hin (g.offset, g.type) (by simp)
        obtain ⟨ig, hig⟩ := Option.isSome_iff_exists.1 hg
        simp only at hig
        refine ⟨(g.offset, ig.size) :: pl, by simp [List.mapM_cons, hig, h1], ?_⟩
        intro j x hx
        cases j with
        | succ j => simpa using h2 j x (by simpa [placeS] using hx)
        | zero =>
          simp only [placeS, List.map_cons, List.getElem?_cons_zero] at hx
          split at hx
          · rename_i hok
            cases hx
            obtain ⟨ig', hig', hs', _⟩ := (hT.fit _ hok).info
            rw [hig] at hig'; cases hig'
            simp [hs']
          · cases hx
    obtain ⟨places, hp1, hp2⟩ := hpl
    obtain ⟨cs', C', h1, h2, h3, h4⟩ := fillL_some (pl' := fun i => places.toArray[i]?) (by
      intro j x q
      simpa using hp2 j x q) hl (C := z.cells) (by rw [hz2]; exact okL_VR φ f.zok) e2
    refine fin cs' C' h1 h2 ?_
    rw [hparts]
    simp only [Program.built, hi, hd, hz1, hp1]
    exact h3
  · rename_i n el hs
    obtain ⟨⟨hok, hz⟩, e2⟩ := ite_some e1
    have f := hT.of_zero hz
    obtain ⟨d, hd, hsh⟩ := f.u
    rw [hs] at hsh; simp only [ShOk] at hsh; subst hsh
    obtain ⟨i, hi, hsz, hby, hzz⟩ := f.info
    obtain ⟨z, hz1, hz2⟩ := hzz hz
    obtain ⟨ie, hie, hse, _⟩ := (hT.fit el hok).info
    obtain ⟨cs', C', h1, h2, h3, h4⟩ := fillL_some (pl' := fun i => some (i * (E.T el).size, (E.T el).size)) (by
      intro j x q
      simpa [placeA, hok] using q) hl (C := z.cells) (by rw [hz2]; exact okL_VR φ f.zok) e2
    refine fin cs' C' h1 h2 ?_
    rw [hparts]
    simp only [Program.built, hi, hd, hz1, hie, hse]
    exact h3
  · cases e1

def asV (ok : Bool) (v : Value) : Value := match ok with | true => .tuple ⟨[v, .bool true]⟩ | false => v
theorem sim_typeAssert (hT : TOk P E.T) (hf : FrRel φ fr a.tmps) (hr : Rel w0 φ h w) {xt t : Nat} {x : Operand} {ok : Bool} (ho : o.op = .typeAssert x xt t ok)
    (hK : Nx w0 φ h a o next K r) (e : hop E o fr h K = some r) : o.wp P a w next Q := by
  unfold hop at e
  simp only [ho] at e
  obtain ⟨v, hv, e1⟩ := ev_sim hf e
  have gen : ∀ d, P.underlying t = some d → (∀ m, d ≠ .interface m) → (cX v fun t' v => tas t' t (castTy (E.T t) v fun v => K (asV ok v) h)) = some r → o.wp P a w next Q := by
    intro d hd hn e1
    obtain ⟨t', u, rfl, e2⟩ := cX_some e1
    obtain ⟨rfl, e3⟩ := tas_some e2
    have e4 := castTy_some e3
    obtain ⟨u', h1, h2⟩ := hv.toIface
    refine wp_value (v := asV ok u') (w' := w) ?_ (hK φ _ _ _ _ .same ?_ hr e4)
    · unfold execOp
      simp only [ho, h1]
      refine run_val ?_
      simp only [Instr.typeAssert, Sem.run_bind, run_underlying hd, Result.andThen_ok, pure_bind]
      cases d <;> first | exact absurd rfl (hn _) | (cases ok <;> simp [asV])
    · cases ok
      · exact h2
      · exact .tuple (.cons h2 (.cons (.bool true) .nil))
  split at e1
  · cases e1
  · cases e1
  · rename_i h1 h2
    obtain ⟨d, hd, hs⟩ := (hT.of_sh h2).u
    refine gen d hd ?_ e1
    rintro m rfl
    cases hsh : (E.T t).sh <;> rw [hsh] at hs h1 h2 <;> simp [ShOk] at hs h1 h2
end
end Ab
end Go.Proofs.YtaaacaejpchbpaaGreat
