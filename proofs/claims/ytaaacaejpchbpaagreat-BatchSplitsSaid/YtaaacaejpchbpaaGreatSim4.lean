/- Each operation of the abstract heap is met by the machine's: slicing, making, building, built-in functions, calls. No condition. -/
import Derived.Test.YtaaacaejpchbpaaGreatSim3
set_option linter.unusedVariables false
set_option linter.unusedSimpArgs false
namespace Go.Proofs.YtaaacaejpchbpaaGreat
namespace Ab
open Go Go.RowKit
section
variable {P : Program} {E : Env} {w0 w : World} {φ : Map} {h : Heap} {fr : Fr} {a : Act} {o : Oper} {next : Act → World → Prop} {Q : Exit → Act → World → Prop} {ρ : Type} {K : Value → Heap → Option ρ} {r : ρ}

theorem evO_sim (hf : FrRel φ fr a.tmps) {x : Option Operand} {K : Option Value → Option ρ} (e : evO fr x K = some r) :
    ∃ ov, K ov = some r ∧ (ov = none → x = none) ∧ (∀ v, ov = some v → ∃ o, x = some o ∧ VR φ v (a.eval o)) := by
  unfold evO at e
  split at e
  · exact ⟨none, e, fun _ => rfl, by simp⟩
  · obtain ⟨v, h1, h2⟩ := ev_sim hf e
    exact ⟨some v, h2, by simp, fun u hu => by cases hu; exact ⟨_, rfl, h1⟩⟩

theorem opt_some {x : Option Value} {most dflt : Nat} {K : Nat → Option ρ} (e : slc.opt x most dflt K = some r) :
    ∃ b, K b = some r ∧ ((x = none ∧ b = dflt) ∨ ∃ k i, x = some (.int k i) ∧ 0 ≤ i ∧ i ≤ most ∧ b = i.toNat) := by
  unfold slc.opt at e
  split at e
  · exact ⟨_, e, .inl ⟨rfl, rfl⟩⟩
  · obtain ⟨h1, h2, h3⟩ := bnd_some e
    exact ⟨_, h3, .inr ⟨_, _, rfl, h1, h2, rfl⟩⟩
  · cases e

theorem fxE_some {p : Option Addr} {sz : Nat} {K : Option ρ} (e : fxE h p sz K = some r) : (∀ q, p = some q → ∃ cs e' ro, h.get q.block = .cells cs e' ro ∧ (e' = sz ∨ e' % 65536 = 0)) ∧ K = some r := by
  unfold fxE at e
  split at e
  · exact ⟨by simp, e⟩
  · split at e
    · rename_i q hq
      refine ⟨fun q' h' => ?_, e⟩
      cases h'
      unfold rowB at hq
      split at hq
      · rename_i cs e' ro hg
        exact ⟨cs, e', ro, hg, by simpa [isV] using hq⟩
      · cases hq
    · cases e
theorem fx0_some {q : Addr} {K : Option ρ} (e : fx0 h q K = some r) : ∃ cs e0, h.get q.block = .cells cs e0 false ∧ e0 % 65536 = 0 ∧ K = some r := by
  unfold fx0 at e
  split at e
  · split at e
    · rename_i hq; exact ⟨_, _, by assumption, by simpa [isV] using hq, e⟩
    · cases e
  · cases e
/-- The bounds of a slice expression, as the machine reckons them. -/
theorem run_bounds {lo hi : Option Operand} {lov hiv : Option Value} (isS : Bool) (len cap : Nat) (hlo : (lov = none → lo = none) ∧ ∀ v, lov = some v → ∃ o, lo = some o ∧ VR φ v (a.eval o))
    (hhi : (hiv = none → hi = none) ∧ ∀ v, hiv = some v → ∃ o, hi = some o ∧ VR φ v (a.eval o)) {b l most : Nat} (hm : most ≤ cap) (hb : (hiv = none ∧ b = len) ∨ ∃ k i, hiv = some (.int k i) ∧ 0 ≤ i ∧ i ≤ (most : Int) ∧ b = i.toNat)
    (hl : (lov = none ∧ l = 0) ∨ ∃ k i, lov = some (.int k i) ∧ 0 ≤ i ∧ i ≤ (b : Int) ∧ l = i.toNat) (w : World) :
    (Instr.sliceBounds isS len cap (lo.map a.eval) (hi.map a.eval) none).run P w = .ok (l, b, cap) w := by
  have e1 : hi.map a.eval = none ∧ b = len ∨ ∃ k i, hi.map a.eval = some (.int k i) ∧ 0 ≤ i ∧ i ≤ (cap : Int) ∧ b = i.toNat := by
    rcases hb with ⟨q, rfl⟩ | ⟨k, i, q, h0, h1, rfl⟩
    · exact .inl ⟨by rw [hhi.1 q]; rfl, rfl⟩
    · obtain ⟨o, rfl, hv⟩ := hhi.2 _ q
      exact .inr ⟨k, i, by simp [hv.toInt], h0, by omega, rfl⟩
  have e2 : lo.map a.eval = none ∧ l = 0 ∨ ∃ k i, lo.map a.eval = some (.int k i) ∧ 0 ≤ i ∧ i ≤ (b : Int) ∧ l = i.toNat := by
    rcases hl with ⟨q, rfl⟩ | ⟨k, i, q, h0, h1, rfl⟩
    · exact .inl ⟨by rw [hlo.1 q]; rfl, rfl⟩
    · obtain ⟨o, rfl, hv⟩ := hlo.2 _ q
      exact .inr ⟨k, i, by simp [hv.toInt], h0, h1, rfl⟩
  rcases e1 with ⟨q1, rfl⟩ | ⟨k1, i1, q1, h0, h1, rfl⟩ <;> rcases e2 with ⟨q2, rfl⟩ | ⟨k2, i2, q2, h2, h3, rfl⟩ <;> rw [q1, q2] <;>
    simp_all [Instr.sliceBounds, Instr.sliceBound, asIntOf]

theorem sim_slice (hT : TOk P E.T) (hf : FrRel φ fr a.tmps) (hr : Rel w0 φ h w) {t : Nat} {x : Operand} {lo hi mx : Option Operand} (ho : o.op = .slice t x lo hi mx)
    (hK : Nx w0 φ h a o next K r) (e : hop E o fr h K = some r) : o.wp P a w next Q := by
  unfold hop at e
  simp only [ho] at e
  obtain ⟨v, hv, e1⟩ := ev_sim hf e
  obtain ⟨lov, e2, hlo⟩ := evO_sim hf e1
  obtain ⟨hiv, e3, hhi⟩ := evO_sim hf e2
  obtain ⟨mxv, e4, hmx⟩ := evO_sim hf e3
  unfold slc at e4
  split at e4
  · cases e4
  · have hmx0 := hmx.1 rfl
    subst hmx0
    have fin : ∀ v v', K v h = some r → VR φ v v' → (Instr.sliceAt t (a.eval x) (lo.map a.eval) (hi.map a.eval) none).run P w = .ok v' w → o.wp P a w next Q := by
      intro v v' h1 h2 h3
      refine wp_value (v := v') (w' := w) ?_ (hK φ _ _ _ _ .same h2 hr h1)
      unfold execOp
      simp only [ho]
      exact run_val h3
    split at e4
    · rename_i s hs
      obtain ⟨d, hd, hsh⟩ := (hT.of_sh (t := t) (by rw [hs]; simp)).u
      rw [hs] at hsh; simp only [ShOk] at hsh; subst hsh
      obtain ⟨b, e5, hb⟩ := opt_some e4
      obtain ⟨l, e6, hl⟩ := opt_some e5
      refine fin _ _ e6 (.str _) ?_
      rw [hv.toStr]
      have := run_bounds (P := P) (isS := false) s.size s.size hlo hhi (Nat.le_refl _) hb hl w
      simp [Instr.sliceAt, run_underlying hd, Instr.slice, this]
    · rename_i el p n c hs
      obtain ⟨d, hd, hsh⟩ := (hT.of_sh (t := t) (by rw [hs]; simp)).u
      rw [hs] at hsh; simp only [ShOk] at hsh; subst hsh
      split at e4
      · rename_i hok
        obtain ⟨hrow, e4'⟩ := fxE_some e4
        obtain ⟨b, e5, hb⟩ := opt_some e4'
        obtain ⟨l, e6, hl⟩ := opt_some e5
        have hsz := (hT.fit el hok).run_size w
        have hbc : n ≤ c → b ≤ c := by
          intro q
          rcases hb with ⟨_, rfl⟩ | ⟨_, _, _, _, _, rfl⟩ <;> omega
        have hlb : l ≤ b := by
          rcases hl with ⟨_, rfl⟩ | ⟨_, _, _, _, _, rfl⟩ <;> omega
        rcases hv.toSl with ⟨rfl, rfl, rfl, h2⟩ | ⟨j, off, lc, rfl, hi', hnc, hL, h2⟩ | ⟨j, off, z, a', c', rfl, rfl, rfl, hL, h2⟩
        · have hb0 := hbc (Nat.le_refl _)
          have hb1 : b = 0 := by omega
          have hl1 : l = 0 := by omega
          subst hb1; subst hl1
          refine fin _ (.slice none 0 0) e6 (by simpa [slp] using .nils) ?_
          rw [h2]
          have := run_bounds (P := P) (isS := true) 0 0 hlo hhi (Nat.le_refl _) hb hl w
          simp [Instr.sliceAt, run_underlying hd, Instr.slice, this, hsz]
        · have hb0 := hbc hnc
          have hrun := run_bounds (P := P) (isS := true) n (c + lc.x) hlo hhi (by omega : c ≤ c + lc.x) hb hl w
          have hm : (Instr.sliceAt t (a.eval x) (lo.map a.eval) (hi.map a.eval) none).run P w = .ok (.slice (if c + lc.x = l then some ⟨lc.b, lc.o + off, none⟩ else some ⟨lc.b, lc.o + off + l * (E.T el).size, none⟩) (b - l) (c + lc.x - l)) w := by
            rw [h2]
            simp [Instr.sliceAt, run_underlying hd, Instr.slice, hrun, hsz, add_none]
          refine fin _ _ e6 ?_ hm
          have hsh' : l ≤ c → lc.x = 0 ∨ off + l * (E.T el).size + (c - l + lc.x) * lc.e ≤ lc.M := by
            intro hlc
            obtain ⟨cs, e', ro, hg, he⟩ := hrow _ rfl
            have hrc := (hT.fit el hok).rc.1
            obtain ⟨_, _, _, _, _, ⟨hle, hlx⟩, _⟩ := hr.cells hi' hg
            rcases hL with q | q
            · exact .inl q
            · rcases he with q2 | q2
              · right
                rw [hle, q2, hrc] at q ⊢
                have : (c + lc.x) = l + (c - l + lc.x) := by omega
                rw [this, Nat.add_mul] at q
                omega
              · exact .inl (hlx q2)
          by_cases hl0 : l = 0
          · subst hl0
            have : (if c + lc.x = 0 then some (⟨lc.b, lc.o + off, none⟩ : Addr) else some ⟨lc.b, lc.o + off + 0 * (E.T el).size, none⟩) = some ⟨lc.b, lc.o + off, none⟩ := by split <;> simp
            rw [this]
            simp only [slp, Option.map, if_true, Nat.sub_zero]
            exact .sl hi' hb0 hL
          · by_cases hcl : c = l
            · have : b - l = 0 := by omega
              rw [this]
              have h3 : slp (some (⟨j, off, none⟩ : Addr)) c l (E.T el).size = some ⟨j, off, some 0⟩ := by simp [slp, hl0, hcl]
              rw [h3, hcl, Nat.sub_self]
              split
              · refine .sle (.inl (by omega))
              · refine .sle ?_
                rcases hsh' (by omega) with q | q
                · exact .inl (by omega)
                · right
                  refine ⟨off + l * (E.T el).size, lc, hi', by rw [Nat.add_assoc], ?_⟩
                  have : c + lc.x - l = c - l + lc.x := by omega
                  rw [hcl] at this q
                  rw [Nat.sub_self] at q
                  rw [show l + lc.x - l = 0 + lc.x by omega]
                  exact q
            · have h3 : slp (some (⟨j, off, none⟩ : Addr)) c l (E.T el).size = some ⟨j, off + l * (E.T el).size, none⟩ := by simp [slp, hl0, hcl, add_none]
              rw [h3, if_neg (by omega), show c + lc.x - l = (c - l) + lc.x by omega]
              rw [Nat.add_assoc]
              exact .sl hi' (by omega) (hsh' (by omega))
        · have hb0 := hbc (Nat.le_refl _)
          have hb1 : b = 0 := by omega
          have hl1 : l = 0 := by omega
          subst hb1; subst hl1
          have hrun := run_bounds (P := P) (isS := true) 0 c' hlo hhi (Nat.zero_le _) hb hl w
          refine fin _ (.slice (some a') 0 c') e6 (by simpa [slp] using .sle hL) ?_
          rw [h2]
          by_cases hc0 : c' = 0
          · subst hc0
            simp [Instr.sliceAt, run_underlying hd, Instr.slice, hrun, hsz]
          · simp [Instr.sliceAt, run_underlying hd, Instr.slice, hrun, hsz, hc0, Addr.add]
      · cases e4
    · rename_i n el p hs
      obtain ⟨d, hd, hsh⟩ := (hT.of_sh (t := t) (by rw [hs]; simp)).u
      rw [hs] at hsh; simp only [ShOk] at hsh; subst hsh
      split at e4
      · rename_i hok
        obtain ⟨q, rfl, e5'⟩ := nn_some e4
        obtain ⟨cs, e0, hg, hv0, e5⟩ := fx0_some e5'
        obtain ⟨b, e6, hb⟩ := opt_some e5
        obtain ⟨l, e7, hl⟩ := opt_some e6
        have hsz := (hT.fit el hok).run_size w
        have hbc : b ≤ n := by
          rcases hb with ⟨_, rfl⟩ | ⟨_, _, _, _, _, rfl⟩ <;> omega
        have hlb : l ≤ b := by
          rcases hl with ⟨_, rfl⟩ | ⟨_, _, _, _, _, rfl⟩ <;> omega
        rcases hv.toPtr with ⟨hh, _⟩ | ⟨j, off, lc, hh, hi', h2⟩
        · cases hh
        · cases hh
          have hrun := run_bounds (P := P) (isS := false) n n hlo hhi (Nat.le_refl _) hb hl w
          have hm : (Instr.sliceAt t (a.eval x) (lo.map a.eval) (hi.map a.eval) none).run P w = .ok (.slice (some (if n = l then ⟨lc.b, lc.o + off, none⟩ else ⟨lc.b, lc.o + off + l * (E.T el).size, none⟩)) (b - l) (n - l)) w := by
            rw [h2]
            simp [Instr.sliceAt, run_underlying hd, Instr.sureAddr, hrun, hsz, add_none]
          refine fin _ _ e7 ?_ hm
          obtain ⟨C, tt, fz, _, _, ⟨_, hx0'⟩, _⟩ := hr.cells hi' hg
          have hx0 := hx0' hv0
          by_cases hl0 : l = 0
          · subst hl0
            have : (if n = 0 then (⟨lc.b, lc.o + off, none⟩ : Addr) else ⟨lc.b, lc.o + off + 0 * (E.T el).size, none⟩) = ⟨lc.b, lc.o + off, none⟩ := by split <;> simp
            rw [this]
            simp only [slp, Option.map, if_true, Nat.sub_zero]
            have := VR.sl (φ := φ) (off := off) (n := b) (c := n) hi' hbc (.inl hx0)
            rwa [hx0, Nat.add_zero] at this
          · by_cases hcl : n = l
            · have : b - l = 0 := by omega
              rw [this]
              have h3 : slp (some (⟨j, off, none⟩ : Addr)) n l (E.T el).size = some ⟨j, off, some 0⟩ := by simp [slp, hl0, hcl]
              rw [h3, hcl, Nat.sub_self]
              exact .sle (.inl rfl)
            · have h3 : slp (some (⟨j, off, none⟩ : Addr)) n l (E.T el).size = some ⟨j, off + l * (E.T el).size, none⟩ := by simp [slp, hl0, hcl, add_none]
              rw [h3, if_neg (by omega), Nat.add_assoc]
              have := VR.sl (φ := φ) (off := off + l * (E.T el).size) (n := b - l) (c := n - l) hi' (by omega) (.inl hx0)
              rwa [hx0, Nat.add_zero] at this
      · cases e4
    · cases e4
end
end Ab
end Go.Proofs.YtaaacaejpchbpaaGreat
