/- Each operation of the abstract heap is met by the machine's: the built-in functions. No condition. -/
import Derived.Test.YtaaacaejpchbpaaGreatSim5
set_option linter.unusedVariables false
set_option linter.unusedSimpArgs false
namespace Go.Proofs.YtaaacaejpchbpaaGreat
namespace Ab
open Go Go.RowKit
section
variable {P : Program} {E : Env} {w0 w : World} {φ : Map} {h : Heap} {fr : Fr} {a : Act} {o : Oper} {next : Act → World → Prop} {Q : Exit → Act → World → Prop} {ρ : Type} {K : Value → Heap → Option ρ} {r : ρ}

theorem notInt (d2 : TypeDesc) : (∀ k, d2 ≠ .int k) → (match d2 with | .int _ => true | _ => false) = false := by
  cases d2 <;> intro h <;> first | rfl | exact absurd rfl (h _)
theorem run_append_in {t t2 ty e : TypeId} {i : TypeInfo} {d2 : TypeDesc} (ht : P.underlying t = some (.slice e)) (hi : P.info? e = some i) (h2 : P.underlying t2 = some d2) (hd2 : ∀ k, d2 ≠ .int k) {ats : Array TypeId}
    (ha0 : ats[0]? = some t) (ha1 : ats[1]? = some t2) {x' : Value} {m n c : Nat} {base : Option Addr} {news : List Value} (hl : (Builtin.lenOf x').run P w = .ok m w) (hf : (Builtin.firstCells i.size m x').run P w = .ok ⟨news⟩ w)
    (hroom : n + m ≤ c) {w' : World} (hst : ((match base with | some a => storeCells (a.add (n * i.size)) news | none => pure ()) : Sem Unit).run P w = .ok () w') :
    (Builtin.append_ ats ty #[.slice base n c, x']).run P w = .ok (.slice base (n + m) c) w' := by
  have key := notInt d2 hd2
  cases base with
  | none => 
    simp only [Sem.run_pure, Result.ok.injEq, true_and] at hst
    subst hst
    simp [Builtin.append_, ha0, ha1, run_underlying ht, run_underlying h2, key, sizeOf, typeInfo, hi, hl, hf, hroom]
  | some a =>
    simp only at hst
    simp [Builtin.append_, ha0, ha1, run_underlying ht, run_underlying h2, key, sizeOf, typeInfo, hi, hl, hf, hroom, hst]

theorem run_append_out {t t2 ty e : TypeId} {i : TypeInfo} {z : Value} {d2 : TypeDesc} (ht : P.underlying t = some (.slice e)) (hi : P.info? e = some i) (hz : i.zero = some z) (h2 : P.underlying t2 = some d2) (hd2 : ∀ k, d2 ≠ .int k) {ats : Array TypeId}
    (ha0 : ats[0]? = some t) (ha1 : ats[1]? = some t2) {x' : Value} {m n c : Nat} {base : Option Addr} {news olds : List Value} (hl : (Builtin.lenOf x').run P w = .ok m w) (hf : (Builtin.firstCells i.size m x').run P w.drew = .ok ⟨news⟩ w.drew)
    (hfo : (Builtin.firstCells i.size n (.slice base n c)).run P w.drew = .ok ⟨olds⟩ w.drew)
    (hroom : ¬ n + m ≤ c) (hsm : small (n + m) i.bytes = true) :
    (Builtin.append_ ats ty #[.slice base n c, x']).run P w = .ok (.slice (some ⟨w.heap.size, 0, none⟩) (n + m) (grownCap w (n + m) c e))
      (w.drew.alloc (.cells ⟨olds ++ news ++ (Builtin.zeroCells z.cells (grownCap w (n + m) c e - (n + m))).toList⟩ e)) := by
  have key := notInt d2 hd2
  simp only [small, decide_eq_true_eq] at hsm
  have hb1 : n + m ≤ 1099511627776 := by
    have := Nat.le_mul_of_pos_right (n + m) (show 0 < i.bytes + 1 by omega)
    omega
  have hb2 : (n + m) * i.bytes ≤ 140737488355328 := by
    have : (n + m) * i.bytes ≤ (n + m) * (i.bytes + 1) := Nat.mul_le_mul_left _ (by omega)
    omega
  have h63' : ¬ (9223372036854775807 < ((n : Int) + (m : Int))) := by omega
  have hfit := growslice_fits (need := n + m) (old := c) (by omega) hb2
  have h48' : ¬ (281474976710656 < Builtin.nextslicecap (n + m) c * i.bytes) := by omega
  simp [Builtin.append_, ha0, ha1, run_underlying ht, run_underlying h2, key, sizeOf, typeInfo, zeroValue, hi, hz, hl, hroom, h63', h48', Question.forced, hf, hfo, newRow, grownCap]
  congr 2
  apply Array.ext'
  simp [List.append_assoc]

theorem heap_put_same (h : Heap) (j : Nat) {x : HObj} (hx : h.get j = x) : h.put j x = h := by
  cases h with
  | mk s g =>
    simp only [Heap.put, Heap.mk.injEq, true_and]
    funext i
    split
    · rename_i q; subst q; exact hx.symm
    · rfl

theorem setL_split : ∀ (vs l : List Value) (i : Nat), i + vs.length ≤ l.length → (setL l i vs).take (i + vs.length) = l.take i ++ vs
  | [], l, i, h => by simp [setL]
  | v :: vs, l, i, h => by
    simp only [List.length_cons] at h ⊢
    rw [setL, show i + (vs.length + 1) = (i + 1) + vs.length by omega, setL_split vs _ (i + 1) (by simp; omega)]
    have : (l.set i v).take (i + 1) = l.take i ++ [v] := by
      rw [List.take_add_one, List.getElem?_set_self (by omega), List.take_set_of_le (by omega)]
      rfl
    rw [this]
    simp
theorem take_row {φ : Map} {cs cs' rest : List Value} (h : VRs φ cs cs') : VRs φ cs ((cs' ++ rest).take cs.length) := by
  rw [List.take_append_of_le_length (by have := h.length; omega)]
  exact h.all

theorem sim_append (hT : TOk P E.T) (hr : Rel w0 φ h w) {ats : Array TypeId} {ty : TypeId} {s x : Value} {s' x' : Value} (hs : VR φ s s') (hx : VR φ x x')
    (e : bi E .append ats.toList [s, x] h K = some r) (hK : ∀ φ' v v' h' w', Grow h h' φ φ' → VR φ' v v' → Rel w0 φ' h' w' → K v h' = some r → (Builtin.append_ ats ty #[s', x']).run P w = .ok v' w' → o.wp P a w next Q) : o.wp P a w next Q := by
  unfold bi at e
  simp only at e
  split at e
  · rename_i t t2 rest hats
    have ha0 : ats[0]? = some t := by rw [← Array.getElem?_toList, hats]; rfl
    have ha1 : ats[1]? = some t2 := by rw [← Array.getElem?_toList, hats]; rfl
    split at e
    · cases e
    · cases e
    · rename_i el p n c hsh hni hnn
      obtain ⟨⟨hz, hne⟩, e1⟩ := ite_some e
      obtain ⟨d, hd, hshd⟩ := (hT.of_sh (t := t) (by rw [hsh]; simp)).u
      rw [hsh] at hshd; simp only [ShOk] at hshd; subst hshd
      obtain ⟨d2, hd2, hshd2⟩ := (hT.of_sh (t := t2) hnn).u
      have hd2n : ∀ k, d2 ≠ .int k := by
        rintro k rfl
        cases q : (E.T t2).sh <;> rw [q] at hshd2 hni hnn <;> simp [ShOk] at hshd2 hni hnn
      have f := hT.of_zero hz
      obtain ⟨i, hi, hsz, hby, hzz⟩ := f.info
      obtain ⟨z, hz1, hz2⟩ := hzz hz
      have hzs : z.cells.size = (E.T el).size := by
        have := congrArg List.length hz2
        simp at this; omega
      have hsz' : i.size = (E.T el).size := hsz
      -- the machine makes a new row
      have grow : ∀ {base : Option Addr} {c' : Nat} {olds olds' cs cs' : List Value} {h2 : Heap}, ¬ n + lenV x ≤ c' → small (n + lenV x) (E.T el).bytes = true → s' = .slice base n c' →
          (Builtin.firstCells (E.T el).size n (.slice base n c')).run P w.drew = .ok ⟨olds'⟩ w.drew → VRs φ olds olds' → olds.length = n * (E.T el).size →
          (Builtin.firstCells (E.T el).size (lenV x) x').run P w.drew = .ok ⟨cs'⟩ w.drew → VRs φ cs cs' → cs.length = lenV x * (E.T el).size → 
          (∀ j, j ≠ h.size → φ j ≠ none → h2.get j = h.get j ∨ h2.get j = .none) → h2.size = h.size + 1 → WF h2 → h2.get h.size = .cells (olds ++ cs) (E.T el).rc false →
          K (.slice (some ⟨h.size, 0, none⟩) (n + lenV x) (n + lenV x)) h2 = some r → o.wp P a w next Q := by
        intro base c' olds olds' cs cs' h2 h3 h4 h5 h6 h7 h8 h9 h10 h11 h12 h13 hwf2 h14 h15
        obtain ⟨_, _, _, _, _, hl⟩ := src_some (P := P) e1 hr hx
        have hrun := run_append_out (P := P) (ty := ty) hd hi hz1 hd2 hd2n ha0 ha1 hl (by rw [hsz]; exact h9) (by rw [hsz]; exact h6) h3 (by rw [hby]; exact h4)
        have hG := grownCap_ge w (n + lenV x) c' el
        rw [← h5] at hrun
        generalize grownCap w (n + lenV x) c' el = G at hrun hG
        have hGe : n + lenV x + (G - (n + lenV x)) = G := by omega
        have hlo := h7.length
        have hlc := h10.length
        obtain ⟨φ', f1, f2, f3, f4⟩ := (Rel.drew hr).alloc h.size h2 (.cells ⟨olds' ++ cs' ++ (Builtin.zeroCells z.cells (G - (n + lenV x))).toList⟩ el) (G - (n + lenV x)) (E.T el).size (G * (E.T el).size) (fresh_none hr (Nat.le_refl _)) h12 (by omega) (by omega) hwf2
          (fun φ' he => by
            rw [h14]
            refine ⟨take_row ((VRs.append h7 h10).mono he), ⟨f.rc.1.symm, fun q => absurd (f.rc.1.symm.trans q) hne⟩, f.tagR (.inl hne), fun _ => ⟨hr.below.size, fun o _ => by simp, ?_⟩⟩
            have : (Builtin.zeroCells z.cells (G - (n + lenV x))).size = (G - (n + lenV x)) * (E.T el).size := by rw [size_zeroCells, hzs]
            simp only [List.size_toArray, List.length_append, Array.length_toList, this, hlo, hlc, h8, h11, ← Nat.add_mul, hGe, Nat.zero_add]
            exact Nat.le_refl _)
        refine hK φ' _ (.slice (some ⟨w.heap.size, 0, none⟩) (n + lenV x) G) h2 _ (.of f1 (by omega) (Nat.le_refl _) f3) ?_ f4 h15 hrun
        have := VR.sl (φ := φ') (off := 0) (n := n + lenV x) (c := n + lenV x) f2 (Nat.le_refl _) (.inr (by show 0 + (n + lenV x + (G - (n + lenV x))) * (E.T el).size ≤ G * (E.T el).size; rw [hGe, Nat.zero_add]; exact Nat.le_refl _))
        rw [show (n + lenV x) + (G - (n + lenV x)) = G from hGe] at this
        exact this
      obtain ⟨cs, cs', hk, hv, hfl⟩ := src_all (P := P) e1 hr hx
      obtain ⟨hf, hl, _⟩ := hfl w rfl
      have hfd := (hfl w.drew rfl).1
      unfold app at hk
      obtain ⟨⟨hlen, hone⟩, hk1⟩ := ite_some hk
      have hlc := hv.length
      split at hk1
      · rename_i hroom
        split at hk1
        · obtain ⟨hm, hk2⟩ := ite_some hk1
          rcases hs.toSl with ⟨_, rfl, rfl, rfl⟩ | ⟨_, _, _, q, _⟩ | ⟨_, _, _, _, _, q, _⟩
          · refine hK φ _ (.slice none 0 0) h w .same .nils hr hk2 ?_
            have := run_append_in (P := P) (ty := ty) hd hi hd2 hd2n ha0 ha1 hl (by rw [hsz]; exact hf) (base := none) (n := 0) (c := 0) (by omega) (w' := w) rfl
            rw [this, hm]
          · cases q
          · cases q
        · rename_i ad
          split at hk1
          · rename_i cs0 e0 hg
            obtain ⟨hb, hk2⟩ := ite_some hk1
            rcases hs.toSl with ⟨q, _⟩ | ⟨j, off, l, q, hj, hnc, hL, rfl⟩ | ⟨j, off, zz, a', c', q, hn0, hc0, hL, rfl⟩
            · cases q
            · cases q
              obtain ⟨hrun, hrel⟩ := hr.store P hj hg hb hone hv
              refine hK φ _ (.slice (some ⟨l.b, l.o + off, none⟩) (n + lenV x) (c + l.x)) _ _ .same (.sl hj hroom hL) hrel hk2 ?_
              exact run_append_in (P := P) (ty := ty) hd hi hd2 hd2n ha0 ha1 hl (by rw [hsz]; exact hf) (by omega) (by simp only [add_none, hsz]; rw [Nat.add_assoc]; exact hrun)
            · subst hn0; subst hc0
              have hm : lenV x = 0 := by omega
              have hcs : cs = [] := List.eq_nil_of_length_eq_zero (by rw [hlen, hm]; simp)
              have hcs' : cs' = [] := List.eq_nil_of_length_eq_zero (by rw [hlc, hcs]; rfl)
              subst hcs; subst hcs'
              rw [heap_put_same h _ (by simpa [setL] using hg)] at hk2
              have hsl : VR φ (.slice (some ad) (0 + lenV x) 0) (.slice (some a') (0 + lenV x) c') := by
                rw [hm, q]; exact .sle hL
              refine hK φ _ _ h w .same hsl hr hk2 ?_
              exact run_append_in (P := P) (ty := ty) hd hi hd2 hd2n ha0 ha1 hl (by rw [hsz]; exact hf) (by omega) (by simp [storeCells])
          · cases hk1
      · rename_i hroom
        obtain ⟨hsm, hk2⟩ := ite_some hk1
        clear hk1 hk
        split at hk2
        · obtain ⟨hn0, hk3⟩ := ite_some hk2
          subst hn0
          rcases hs.toSl with ⟨_, _, rfl, rfl⟩ | ⟨_, _, _, q, _⟩ | ⟨_, _, _, _, _, q, _⟩
          · refine grow (base := none) (olds := []) (olds' := []) (cs := cs) hroom hsm rfl (by simp [Builtin.firstCells]) .nil (by simp) hfd hv hlen (fun j hj _ => .inl (push_old h _ hj)) (by simp [Heap.push]) (hr.wf.push _) (by rw [push_get]; rfl) hk3
          · cases q
          · cases q
        · rename_i ad
          split at hk2
          · rename_i cs0 e0 hg
            obtain ⟨⟨he0, hb⟩, hk3⟩ := ite_some hk2
            subst he0
            have holds : src h (E.T el).size (.slice (some ad) n c) (fun l => some l) = some ((cs0.drop ad.off).take (n * (E.T el).size)) := by
              unfold src
              simp [hg, hb]
            obtain ⟨os, os', ho1, ho2, ho3⟩ := src_all (P := P) holds hr hs
            cases ho1
            have hol : ((cs0.drop ad.off).take (n * (E.T el).size)).length = n * (E.T el).size := by simp; omega
            have hoth : ∀ j, j ≠ h.size → φ j ≠ none → ((h.put ad.block .none).push (.cells ((cs0.drop ad.off).take (n * (E.T el).size) ++ cs) (E.T el).rc false)).get j = h.get j ∨ ((h.put ad.block .none).push (.cells ((cs0.drop ad.off).take (n * (E.T el).size) ++ cs) (E.T el).rc false)).get j = .none := by
              intro j hj _
              rw [push_old _ _ (by simpa [Heap.put] using hj)]
              by_cases q : j = ad.block
              · right; simp [Heap.put, q]
              · left; simp [Heap.put, q]
            have hnew : ((h.put ad.block .none).push (.cells ((cs0.drop ad.off).take (n * (E.T el).size) ++ cs) (E.T el).rc false)).get h.size = .cells ((cs0.drop ad.off).take (n * (E.T el).size) ++ cs) (E.T el).rc false := by
              have := push_get (h.put ad.block .none) (.cells ((cs0.drop ad.off).take (n * (E.T el).size) ++ cs) (E.T el).rc false)
              simpa [Heap.put] using this
            have inpl : ∀ (l : Loc) (k C1 : Nat), φ ad.block = some l → l.e = (E.T el).size → k + C1 * l.e ≤ l.M → n + lenV x ≤ C1 → s' = .slice (some ⟨l.b, l.o + k, none⟩) n C1 →
                (∀ C : Array Value, VRs φ cs0 ((C.toList.drop l.o).take cs0.length) → VRs φ ((cs0.drop ad.off).take (n * (E.T el).size)) ((C.toList.drop (l.o + k)).take (n * (E.T el).size))) → o.wp P a w next Q := by
              intro l k C1 hj hle hM hfit hs' hold
              obtain ⟨C, t', fz, hw, hC, _, htg, hq⟩ := hr.cells hj hg
              obtain ⟨hB, hfz, hLs⟩ := hq rfl
              rw [hle] at hM
              have hsize : l.o + k + (n + lenV x) * (E.T el).size ≤ C.size := by
                have := Nat.mul_le_mul_right (E.T el).size hfit
                omega
              rw [Nat.add_mul] at hsize
              have hrun := run_storeCells_cells (P := P) l.b (l.o + k + n * (E.T el).size) cs' 0 w (fun j hj => by
                simp only [World.cell?, hw]
                simp; omega) (fun j hj => by
                simp only [World.frozen?, hw]
                have := hfz (l.o + k + n * (E.T el).size + 0 + j) (by omega)
                simp only [Bool.and_eq_false_iff, decide_eq_false_iff_not]
                omega) (hv.isOne hone)
              simp only [Nat.add_zero] at hrun
              obtain ⟨C', hC1, hC2⟩ := setCells_heap l.b t' fz cs' (l.o + k + n * (E.T el).size) w C hw
              have hC'l : C'.size = C.size := by
                have := congrArg List.length hC2
                simpa [setL_length] using this
              obtain ⟨φ', f1, f2, f3, f4⟩ := hr.turn h.size ⟨l.b, l.o + k, C1 - (n + lenV x), (E.T el).size, l.M - k⟩ ((h.put ad.block .none).push (.cells ((cs0.drop ad.off).take (n * (E.T el).size) ++ cs) (E.T el).rc false)) (w.setCells l.b (l.o + k + n * (E.T el).size) cs') (.cells C' t' fz)
                (.inl (fresh_none hr (Nat.le_refl _))) (by
                  intro _ m lk hk hlive hne hbk
                  by_cases q : m = ad.block
                  · rw [q] at hlive hne
                    rw [push_old _ _ (by simpa [Heap.put] using hne)] at hlive
                    simp [Heap.put, live] at hlive
                  · have hlv : live (h.get m) := by
                      rw [push_old _ _ (by simpa [Heap.put] using hne)] at hlive
                      simpa [Heap.put, q] using hlive
                    have := (hr.inj m ad.block lk l q hk hj hlv (by rw [hg]; simp [live]) hbk).2
                    rw [hg] at this; simp [ro] at this)
                (by rintro ⟨l0, h0⟩; rw [fresh_none hr (Nat.le_refl _)] at h0; cases h0) (by intro l0 h0; rw [fresh_none hr (Nat.le_refl _)] at h0; cases h0)
                hoth (by simp [Heap.push, Heap.put]) (by simp [Heap.push, Heap.put]) hB (setCells_below hB _ _ _) hC1 (fun b hb _ => setCells_other _ _ hb _ _ _)
                (by
                  intro m lk hk hbk hne
                  left
                  rw [push_old _ _ (by simpa [Heap.put] using hne)]
                  by_cases q : m = ad.block
                  · simp [Heap.put, q]
                  · by_cases q2 : live (h.get m)
                    · have := (hr.inj m ad.block lk l q hk hj q2 (by rw [hg]; simp [live]) hbk).2
                      rw [hg] at this; simp [ro] at this
                    · have q3 : h.get m = .none := Classical.not_not.1 q2
                      simp [Heap.put, q, q3])
                ((hr.wf.put (hr.dom _ l hj) _).push _)
                (by
                  intro φ' he _
                  rw [hnew]
                  refine ⟨?_, ⟨f.rc.1.symm, fun q => absurd (f.rc.1.symm.trans q) hne⟩, ?_, fun _ => ⟨hB, fun o ho => hfz o (by omega), by rw [hC'l]; show l.o + k + (l.M - k) ≤ C.size; omega⟩⟩
                  · rw [hC2, List.length_append, hol, ← hlc, setL_drop, setL_split _ _ _ (by simp; omega)]
                    exact (VRs.append (hold C hC) hv).mono he
                  · rcases htg with q | ⟨q, _⟩
                    · exact .inl q
                    · exact .inr ⟨q, fun q2 => absurd (f.rc.1.symm.trans q2) hne⟩)
              refine hK φ' _ (.slice (some ⟨l.b, l.o + k, none⟩) (n + lenV x) C1) _ _ (.of f1 (by simp [Heap.push, Heap.put]) (Nat.le_refl _) f3) ?_ f4 hk3 ?_
              · have h3 : (n + lenV x) + (C1 - (n + lenV x)) = C1 := by omega
                have := VR.sl (φ := φ') (off := 0) (n := n + lenV x) (c := n + lenV x) f2 (Nat.le_refl _) (.inr (by
                  show 0 + (n + lenV x + (C1 - (n + lenV x))) * (E.T el).size ≤ l.M - k
                  rw [h3]; omega))
                simp only at this
                rw [h3] at this
                exact this
              · rw [hs']
                exact run_append_in (P := P) (ty := ty) hd hi hd2 hd2n ha0 ha1 hl (by rw [hsz]; exact hf) hfit (by simp only [add_none, hsz]; exact hrun)
            rcases hs.toSl with ⟨q, _⟩ | ⟨j, off, l, q, hj, hnc, hL, hs'⟩ | ⟨j, off, zz, a', c', q, hn0, hc0, hL, hs'⟩
            · cases q
            · cases q
              obtain ⟨_, _, _, _, _, ⟨hle0, _⟩, _⟩ := hr.cells hj hg
              have hle := hle0.trans f.rc.1
              by_cases hfit : n + lenV x ≤ c + l.x
              · refine inpl l off (c + l.x) hj hle ?_ hfit hs' ?_
                · rcases hL with q | q
                  · omega
                  · exact q
                · intro C hC
                  have h1 := VRs.take (n * (E.T el).size) (VRs.drop off hC)
                  rw [List.drop_take, List.take_take, List.drop_drop, Nat.min_eq_left (by simp only at hb; omega)] at h1
                  exact h1
              · rw [hs'] at ho3
                exact grow (base := some ⟨l.b, l.o + off, none⟩) (c' := c + l.x) hfit hsm hs' (ho3 w.drew rfl).1 ho2 hol hfd hv hlen hoth (by simp [Heap.push, Heap.put]) ((hr.wf.put (hr.dom j l hj) _).push _) hnew hk3
            · cases q
              subst hn0; subst hc0
              by_cases hfit : 0 + lenV x ≤ c'
              · rcases hL with q | ⟨k, l, hj, hk0, hM⟩
                · omega
                obtain ⟨_, _, _, _, _, ⟨hle0, _⟩, _⟩ := hr.cells hj hg
                have hle := hle0.trans f.rc.1
                refine inpl l k c' hj hle hM hfit (by rw [hs', hk0]) ?_
                intro C hC
                simp
                exact .nil
              · rw [hs'] at ho3
                exact grow (base := some a') (c' := c') hfit hsm hs' (ho3 w.drew rfl).1 ho2 hol hfd hv hlen hoth (by simp [Heap.push, Heap.put]) ((hr.wf.put (hr.wf.lt (by rw [hg]; simp)) _).push _) hnew hk3
          · cases hk2
    · cases e
  · cases e

theorem sim_copy (hT : TOk P E.T) (hr : Rel w0 φ h w) {ats : Array TypeId} {ty : TypeId} {s x : Value} {s' x' : Value} (hs : VR φ s s') (hx : VR φ x x')
    (e : bi E .copy ats.toList [s, x] h K = some r) (hK : ∀ φ' v v' h' w', Grow h h' φ φ' → VR φ' v v' → Rel w0 φ' h' w' → K v h' = some r → (Builtin.copy_ ats ty #[s', x']).run P w = .ok v' w' → o.wp P a w next Q) : o.wp P a w next Q := by
  unfold bi at e
  simp only at e
  split at e
  · rename_i t rest hats
    have ha0 : ats[0]? = some t := by rw [← Array.getElem?_toList, hats]; rfl
    split at e
    · rename_i el p n c hsh
      obtain ⟨d, hd, hshd⟩ := (hT.of_sh (t := t) (by rw [hsh]; simp)).u
      rw [hsh] at hshd; simp only [ShOk] at hshd; subst hshd
      split at e
      · rename_i hok
        have f := hT.fit el hok
        have hsz := f.run_size w
        unfold cpy at e
        obtain ⟨cs, cs', hk, hv, hfl⟩ := src_all (P := P) e hr hx
        obtain ⟨hf, hl, hfew⟩ := hfl w rfl
        have hrun : ∀ (base : Option Addr) (c' : Nat) (news : List Value) (w' : World), s' = .slice base n c' → (Builtin.firstCells (E.T el).size (min (lenV x) n) x').run P w = .ok ⟨news⟩ w →
            ((match base with | some a => storeCells a news | none => pure ()) : Sem Unit).run P w = .ok () w' → (Builtin.copy_ ats ty #[s', x']).run P w = .ok (.int .i64 (min (lenV x) n : Nat)) w' := by
          intro base c' news w' h1 h2 h3
          subst h1
          cases base with
          | none =>
            simp only [Sem.run_pure, Result.ok.injEq, true_and] at h3
            subst h3
            simp [Builtin.copy_, ha0, run_underlying hd, hsz, hl, h2, goInt]
          | some a =>
            simp only at h3
            simp [Builtin.copy_, ha0, run_underlying hd, hsz, hl, h2, h3, goInt]
        have hbase : ∃ base c', s' = .slice base n c' := by
          rcases hs.toSl with ⟨_, rfl, rfl, rfl⟩ | ⟨_, _, _, _, _, _, _, rfl⟩ | ⟨_, _, _, _, _, _, rfl, _, _, rfl⟩ <;> exact ⟨_, _, rfl⟩
        split at hk
        · rename_i hm
          obtain ⟨base, c', hb⟩ := hbase
          refine hK φ _ (.int .i64 0) h w .same (.int _ _) hr hk ?_
          have h0 : (Builtin.firstCells (E.T el).size (min (lenV x) n) x').run P w = .ok ⟨[]⟩ w := by
            have := hfew 0 (Nat.zero_le _) (.inl rfl)
            rw [hm]
            simpa using this
          have := hrun base c' [] w hb h0 (by cases base <;> simp [storeCells])
          rw [hm] at this
          exact this
        · rename_i hm
          obtain ⟨hlen, hk1⟩ := ite_some hk
          obtain ⟨ad, cs0, e0, rfl, hg, hb, hone, hk2⟩ := st_some hk1
          have hfx := hfew (min (lenV x) n) (Nat.min_le_left _ _) (.inr hlen)
          rcases hs.toSl with ⟨q, _⟩ | ⟨j, off, l, q, hj, hnc, hL, hs'⟩ | ⟨j, off, zz, a', c', q, hn0, hc0, _⟩
          · cases q
          · cases q
            obtain ⟨hst, hrel⟩ := hr.store P hj hg hb hone (VRs.take _ hv)
            exact hK φ _ _ _ _ .same (.int _ _) hrel hk2 (hrun _ _ _ _ hs' hfx hst)
          · subst hn0
            exact absurd (Nat.min_eq_right (Nat.zero_le _)) hm
      · cases e
    · cases e
  · cases e
theorem sim_minL : ∀ {l : List Value} {v v' : Value} {l' : List Value} {K : Value → Option ρ}, VR φ v v' → VRs φ l l' → minL v l K = some r → ∃ u u', K u = some r ∧ VR φ u u' ∧ (l'.foldlM Builtin.min2 v').run P w = .ok u' w
  | [], v, v', _, K, hv, .nil, e => ⟨v, v', by simpa [minL] using e, hv, by simp⟩
  | y :: l, v, v', _, K, hv, .cons hy ht, e => by
    cases v <;> cases y <;> simp only [minL] at e <;> try (cases e; done)
    obtain ⟨q, e1⟩ := ite_some e
    subst q
    obtain ⟨u, u', h1, h2, h3⟩ := sim_minL (.int _ _) ht e1
    refine ⟨u, u', h1, h2, ?_⟩
    rw [hv.toInt, hy.toInt]
    simpa [Builtin.min2, mnV] using h3
theorem sim_maxL : ∀ {l : List Value} {v v' : Value} {l' : List Value} {K : Value → Option ρ}, VR φ v v' → VRs φ l l' → maxL v l K = some r → ∃ u u', K u = some r ∧ VR φ u u' ∧ (l'.foldlM Builtin.max2 v').run P w = .ok u' w
  | [], v, v', _, K, hv, .nil, e => ⟨v, v', by simpa [maxL] using e, hv, by simp⟩
  | y :: l, v, v', _, K, hv, .cons hy ht, e => by
    cases v <;> cases y <;> simp only [maxL] at e <;> try (cases e; done)
    obtain ⟨q, e1⟩ := ite_some e
    subst q
    obtain ⟨u, u', h1, h2, h3⟩ := sim_maxL (.int _ _) ht e1
    refine ⟨u, u', h1, h2, ?_⟩
    rw [hv.toInt, hy.toInt]
    simpa [Builtin.max2, mxV] using h3
end
end Ab
end Go.Proofs.YtaaacaejpchbpaaGreat
