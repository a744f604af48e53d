/- Operations that the machine comes to later: their making and their reading. No condition. -/
import Derived.Test.YtaaacaejpchbpaaGreatSim8
import Derived.Test.YtaaacaejpchbpaaGreatLight
set_option linter.unusedVariables false
set_option linter.unusedSimpArgs false
namespace Go.Proofs.YtaaacaejpchbpaaGreat
namespace Ab
open Go Go.RowKit
section
variable {P : Program} {E : Env} {w0 w : World} {φ : Map} {h : Heap} {fr : Fr} {a : Act} {o : Oper} {next : Act → World → Prop} {Q : Exit → Act → World → Prop}

def NewMet (P : Program) (a : Act) (o : Oper) (w : World) (φ : Map) (cs : List Value) (esz : Nat) (mk : Nat → Value) : Prop :=
  ∃ (C : Array Value) (t : TypeId) (fz : Nat × Nat) (x M : Nat) (w1 : World) (v' : Value), (execOp a.eval o).run P w = .ok (.value v') { w1 with heap := w1.heap.push (.cells C t fz) } ∧
    (w1 = w ∨ w1 = { w with drawn := w.drawn + 1 }) ∧ VRs φ cs (C.toList.take cs.length) ∧ (∀ o, o < C.size → ¬ (fz.1 ≤ o ∧ o < fz.2)) ∧ M ≤ C.size ∧ (esz % 65536 = 0 → x = 0) ∧ Tag esz t C.size cs.length 0 ∧
    ∀ (φ' : Map) i, φ' i = some ⟨w.heap.size, 0, x, esz % 65536, M⟩ → VR φ' (mk i) v'

theorem same_new {cs cs' : List Value} {esz esz' n : Nat} {u v : Value} (hh : some (u, (Heap.mk n fun _ => .none).push (.cells cs' esz' false)) = some (v, (Heap.mk n fun _ => .none).push (.cells cs esz false))) :
    u = v ∧ cs' = cs ∧ esz' = esz := by
  simp only [Option.some.injEq, Prod.mk.injEq] at hh
  have h2 := congrArg (fun x : Heap => x.get n) hh.2
  simp [Heap.push] at h2
  exact ⟨hh.1, h2⟩
theorem not_new {cs : List Value} {esz n : Nat} {u v : Value} : ¬ some (u, Heap.mk n fun _ => .none) = some (v, (Heap.mk n fun _ => .none).push (.cells cs esz false)) := by
  intro hh
  simp only [Option.some.injEq, Prod.mk.injEq] at hh
  have h2 := congrArg (fun x : Heap => x.size) hh.2
  simp [Heap.push] at h2

theorem new_sim (hT : TOk P E.T) (hf : FrRel φ fr a.tmps) (hn : newOp o = true) {cs : List Value} {esz : Nat} {mk : Nat → Value}
    (hh : ∀ hX : Heap, hop E o fr hX (fun v h => some (v, h)) = some (mk hX.size, hX.push (.cells cs esz false))) : NewMet P a o w φ cs esz mk := by
  have hn' := hn
  cases ho : o.op <;> simp only [newOp, ho] at hn' <;> try (cases hn'; done)
  case alloc t =>
    have h0 : ∀ m, ((E.T t).ok = true ∧ (E.T t).zero.length = (E.T t).size) ∧ .pointer (some ⟨m, 0, none⟩) = mk m ∧ (E.T t).zero = cs ∧ (E.T t).vc = esz := by
      intro m
      have e := hh ⟨m, fun _ => .none⟩
      unfold hop at e
      simp only [ho] at e
      obtain ⟨hc, e1⟩ := ite_some e
      exact ⟨hc, same_new e1⟩
    obtain ⟨hc, _, rfl, rfl⟩ := h0 0
    have f := hT.fit t hc.1
    obtain ⟨z, hz1, hz2⟩ := f.run_zero hc.2 w
    refine ⟨z.cells, t, (0, 0), 0, 0, w, .pointer (some ⟨w.heap.size, 0, none⟩), ?_, .inl rfl, by rw [hz2]; exact (okL_VR φ f.zok).all, ?_, by simp, fun _ => rfl, f.tagV (by rw [← hz2]; simp), fun φ' i hi => by rw [← (h0 i).2.1]; exact .ptr hi⟩
    · unfold execOp
      simp only [ho]
      exact run_val (by simp [Instr.alloc, hz1, newVar, run_newRow])
    · intro o _; simp
  case box t x =>
    have h0 : ∀ m, ∃ v, VR φ v (a.eval x) ∧ .pointer (some ⟨m, 0, none⟩) = mk m ∧ v.cells.toList = cs ∧ (E.T t).vc = esz := by
      intro m
      have e := hh ⟨m, fun _ => .none⟩
      unfold hop at e
      simp only [ho] at e
      obtain ⟨v, hv, e1⟩ := ev_sim hf e
      exact ⟨v, hv, same_new e1⟩
    obtain ⟨v, hv, _, rfl, rfl⟩ := h0 0
    refine ⟨(a.eval x).cells, t, (0, 0), 0, 0, w, .pointer (some ⟨w.heap.size, 0, none⟩), ?_, .inl rfl, hv.cells.all, ?_, by simp, fun _ => rfl, hT.tagV (by have := hv.cells.length; simpa using this), fun φ' i hi => by obtain ⟨_, _, q, _⟩ := h0 i; rw [← q]; exact .ptr hi⟩
    · unfold execOp
      simp only [ho]
      exact run_val (by simp [Instr.box, newVar, run_newRow])
    · intro o _; simp
  case buildSlice t n ps =>
    have h0 : ∀ m, ∃ el l, (E.T t).sh = .slice el ∧ (E.T el).zero.length = (E.T el).size ∧ n * (E.T el).size ≤ 16777216 ∧ PR φ l (ps.toList.map fun x => (x.1, a.eval x.2)) ∧
        (fillL (repL n (E.T el).zero) l (placeA (E.T el)) fun cs => some (Value.slice (some ⟨m, 0, none⟩) n n, (Heap.mk m fun _ => .none).push (.cells cs (E.T el).rc false))) = some (mk m, (Heap.mk m fun _ => .none).push (.cells cs esz false)) := by
      intro m
      have e := hh ⟨m, fun _ => .none⟩
      unfold hop at e
      simp only [ho] at e
      obtain ⟨l, e1, hl⟩ := partsL_some hf e
      split at e1
      · rename_i el hs
        obtain ⟨⟨hz, hb⟩, e2⟩ := ite_some e1
        exact ⟨el, l, hs, hz, hb, hl, e2⟩
      · cases e1
    have hmk : ∀ m, Value.slice (some ⟨m, 0, none⟩) n n = mk m := by
      intro m
      obtain ⟨el, l, _, _, _, _, e⟩ := h0 m
      obtain ⟨cs', h1, _⟩ := (nt_fillL _ _ _).det e
      exact (same_new h1).1
    obtain ⟨el, l, hs, hz, hb, hl, e2⟩ := h0 0
    obtain ⟨d, hd, hsh⟩ := (hT.of_sh (t := t) (by rw [hs]; simp)).u
    rw [hs] at hsh; simp only [ShOk] at hsh; subst hsh
    have f := hT.of_zero hz
    obtain ⟨i, hi, hsz, hby, hzz⟩ := f.info
    obtain ⟨z, hz1, hz2⟩ := hzz hz
    have hzs : z.cells.size = (E.T el).size := by
      have := congrArg List.length hz2
      simp at this; omega
    have hok : (E.T el).ok = true := by
      cases q : (E.T el).ok with
      | true => rfl
      | false => exact absurd hz (hT.no el q).2.2.1
    obtain ⟨cs', C', h1, h2, h3, h4⟩ := fillL_some (pl' := fun i => some (i * (E.T el).size, (E.T el).size)) (by
      intro i x q
      simpa [placeA, hok] using q) hl (C := madeCells z.cells (n * z.cells.size)) (by rw [made_eq, hz2]; exact VRs.rep (okL_VR φ f.zok) n) e2
    obtain ⟨_, rfl, rfl⟩ := same_new h1
    refine ⟨C', el, (0, 0), 0, n * (E.T el).size, w, .slice (some ⟨w.heap.size, 0, none⟩) n n, ?_, .inl rfl, h2.all, ?_, by rw [h4, size_madeCells, hzs]; exact Nat.le_refl _, fun _ => rfl, f.tagR (.inr ⟨rfl, by have := h2.length; simpa using this⟩), fun φ' i hi => ?_⟩
    · unfold execOp
      simp only [ho]
      refine run_val ?_
      have hparts : (ps.map fun (i, x) => (i, a.eval x)).toList = ps.toList.map fun x => (x.1, a.eval x.2) := by simp
      have hsmall : ¬ n * i.size > 2 ^ 24 := by rw [hsz]; omega
      by_cases hn : n * i.size = 0
      · have : madeCells z.cells (n * z.cells.size) = #[] := by rw [hzs, ← hsz, hn]; simp [madeCells, Array.range_zero']
        rw [this] at h3
        simp [Instr.buildSlice, run_underlying hd, sizeOf, typeInfo, hi, hsmall, hn, newRow, Array.range_zero']
        rw [hsz, h3]
        rfl
      · have := run_buildSlice (P := P) w t el n (ps.map fun (i, x) => (i, a.eval x)) C' i z hd hi hz1 hsmall hn (by
          rw [hparts, hsz, ← h3, madeCells, hzs])
        exact this
    · intro o _; simp
    · rw [← hmk]
      have := VR.sl (φ := φ') (off := 0) (n := n) (c := n) hi (Nat.le_refl _) (.inl rfl)
      exact this
  case makeSlice t x y =>
    have h0 : ∀ m, ∃ el l c, VR φ (.int .i64 l) (a.eval x) ∧ VR φ (.int .i64 c) (a.eval y) ∧ (E.T t).sh = .slice el ∧ (E.T el).zero.length = (E.T el).size ∧ 0 ≤ l ∧ l ≤ c ∧ small c.toNat (E.T el).bytes = true ∧
        .slice (some ⟨m, 0, none⟩) l.toNat c.toNat = mk m ∧ repL c.toNat (E.T el).zero = cs ∧ (E.T el).rc = esz := by
      intro m
      have e := hh ⟨m, fun _ => .none⟩
      unfold hop at e
      simp only [ho] at e
      obtain ⟨v, hv, e1⟩ := ev_sim hf e
      obtain ⟨u, hu, e2⟩ := ev_sim hf e1
      split at e2
      · rename_i el l c hs
        obtain ⟨hz, e3⟩ := ite_some e2
        unfold mkS at e3
        obtain ⟨⟨h0, hlc, hsm⟩, e4⟩ := ite_some e3
        exact ⟨el, l, c, hv, hu, hs, hz, h0, hlc, hsm, same_new e4⟩
      · cases e2
    obtain ⟨el, l, c, hv, hu, hs, hz, h0', hlc, hsm, _, rfl, rfl⟩ := h0 0
    have hmk : ∀ m, Value.slice (some ⟨m, 0, none⟩) l.toNat c.toNat = mk m := by
      intro m
      obtain ⟨el2, l2, c2, hv2, hu2, _, _, _, _, _, q, _⟩ := h0 m
      have h1 := hv.toInt.symm.trans hv2.toInt
      have h2 := hu.toInt.symm.trans hu2.toInt
      cases h1; cases h2
      exact q
    obtain ⟨d, hd, hsh⟩ := (hT.of_sh (t := t) (by rw [hs]; simp)).u
    rw [hs] at hsh; simp only [ShOk] at hsh; subst hsh
    have f := hT.of_zero hz
    obtain ⟨i, hi, hsz, hby, hzz⟩ := f.info
    obtain ⟨z, hz1, hz2⟩ := hzz hz
    simp only [small, decide_eq_true_eq] at hsm
    have hzs : z.cells.size = (E.T el).size := by
      have := congrArg List.length hz2
      simp at this; omega
    have hb1 : c.toNat ≤ 1099511627776 := by
      have := Nat.le_mul_of_pos_right c.toNat (show 0 < (E.T el).bytes + 1 by omega)
      omega
    have hb2 : i.bytes * c.toNat ≤ 1099511627776 := by
      rw [hby, Nat.mul_comm]
      have : c.toNat * (E.T el).bytes ≤ c.toNat * ((E.T el).bytes + 1) := Nat.mul_le_mul_left _ (by omega)
      omega
    have hb3 : (i.bytes : Int) * c ≤ 281474976710656 := by
      have : ((i.bytes * c.toNat : Nat) : Int) = (i.bytes : Int) * c := by
        rw [Int.natCast_mul]; congr 1; omega
      omega
    have hrun := run_make (P := P) w t el i z hd hi hz1 .i64 .i64 l c h0' hlc hb3 (by omega)
    rw [hsz] at hrun
    rw [← hzs] at hrun
    refine ⟨madeCells z.cells (c.toNat * z.cells.size), el, (0, 0), 0, c.toNat * (E.T el).size, w, .slice (some ⟨w.heap.size, 0, none⟩) l.toNat c.toNat, ?_, .inl rfl, ?_, ?_, by rw [size_madeCells, hzs]; exact Nat.le_refl _, fun _ => rfl, f.tagR (.inr ⟨rfl, by rw [size_madeCells, hzs, repL_length, hz]⟩), fun φ' i hi => ?_⟩
    · unfold execOp
      simp only [ho, hv.toInt, hu.toInt]
      exact run_val hrun
    · rw [made_eq, hz2]; exact (VRs.rep (okL_VR φ f.zok) _).all
    · intro o _; simp
    · rw [← hmk]
      have := VR.sl (φ := φ') (off := 0) (n := l.toNat) (c := c.toNat) hi (by omega) (.inl rfl)
      exact this
  case convert s d x =>
    have h0 : ∀ m, ∃ el b, VR φ (.string b) (a.eval x) ∧ (E.T d).sh = .slice el ∧ (E.T s).sh = .str ∧ (E.T el).sh = .int .u8 ∧ .slice (some ⟨m, 0, none⟩) b.size b.size = mk m ∧ (b.data.toList.map fun (b : UInt8) => Value.int .u8 b.toNat) = cs ∧ (E.T el).rc = esz := by
      intro m
      have e := hh ⟨m, fun _ => .none⟩
      unfold hop at e
      simp only [ho] at e
      obtain ⟨v, hv, e1⟩ := ev_sim hf e
      unfold conv at e1
      split at e1
      · split at e1
        · exact absurd e1 not_new
        · cases e1
      · split at e1
        · exact absurd e1 not_new
        · cases e1
      · rename_i el b hd
        split at e1
        · rename_i hs hel
          exact ⟨el, b, hv, hd, hs, hel, same_new e1⟩
        · cases e1
      · split at e1
        · split at e1
          · unfold strOf at e1
            split at e1
            · exact absurd e1 not_new
            · cases e1
          · cases e1
        · cases e1
      · cases e1
    obtain ⟨el, b, hv, hs, hs2, hs3, _, rfl, rfl⟩ := h0 0
    have hmk : ∀ m, Value.slice (some ⟨m, 0, none⟩) b.size b.size = mk m := by
      intro m
      obtain ⟨el2, b2, hv2, _, _, _, q, _⟩ := h0 m
      have h1 := hv.toStr.symm.trans hv2.toStr
      cases h1
      exact q
    obtain ⟨ds, hds, hsh2⟩ := (hT.of_sh (t := s) (by rw [hs2]; simp)).u
    rw [hs2] at hsh2; simp only [ShOk] at hsh2; subst hsh2
    obtain ⟨dd, hd, hsh⟩ := (hT.of_sh (t := d) (by rw [hs]; simp)).u
    rw [hs] at hsh; simp only [ShOk] at hsh; subst hsh
    obtain ⟨de, hde, hshe⟩ := (hT.of_sh (t := el) (by rw [hs3]; simp)).u
    rw [hs3] at hshe; simp only [ShOk] at hshe; subst hshe
    have hrun := run_bytes_of_string w s d el b hds hd hde
    have hfe := hT.of_sh (t := el) (by rw [hs3]; simp)
    have hfs : (E.T el).size = 1 := hfe.one (by simp [TyR.isAgg, hs3])
    generalize hcap : grownCap w b.size 0 el = cap at hrun
    have hcapb : b.size ≤ cap := by
      rw [← hcap]
      exact grownCap_ge w b.size 0 el
    refine ⟨bytesRow b cap, el, ((bytesRow b cap).size, (bytesRow b cap).size + 1), cap - b.size, cap, { w with drawn := w.drawn + 1 }, .slice (some ⟨w.heap.size, 0, none⟩) b.size cap, ?_, .inr rfl, ?_, ?_, ?_, ?_, hfe.tagR (.inl (by rw [hfs]; decide)), ?_⟩
    · unfold execOp
      simp only [ho, hv.toStr]
      refine run_val ?_
      rw [hrun]
      rfl
    · have : ((bytesRow b cap).toList.take (b.data.toList.map fun b => Value.int .u8 b.toNat).length) = b.data.toList.map fun b => Value.int .u8 b.toNat := by
        simp [bytesRow]
      rw [this]
      exact bytes_VR φ _
    · intro o ho; simp at ho ⊢; omega
    · simp [bytesRow, ← ByteArray.size_data]; omega
    · intro q; rw [hfe.rc.1, hfs] at q; cases q
    · intro φ' i hi
      rw [hfe.rc.1, hfs] at hi
      rw [← hmk]
      have := VR.sl (φ := φ') (off := 0) (n := b.size) (c := b.size) hi (Nat.le_refl _) (.inr (by simp; omega))
      rw [show b.size + (cap - b.size) = cap by omega] at this
      exact this
end
end Ab
end Go.Proofs.YtaaacaejpchbpaaGreat
