/- A region that draws its order: the machine's steps. No condition. -/
import Derived.Test.YtaaacaejpchbpaaGreatDrawn
set_option linter.unusedVariables false
set_option linter.unusedSimpArgs false
namespace Go.Proofs.YtaaacaejpchbpaaGreat
namespace Ab
open Go Go.RowKit
section
variable {ops : Array Oper} {fr0 : Fr} {L : Nat → Bool} {P : Program} {w0 w : World} {E : Env} {N : Nat} {c : List Nat} {h0 h : Heap} {φ0 φ : Map} {log : List (Nat × Lg)} {dn : Dn} {is : List Nat} {fr : Fr} {a : Act} {Q : Exit → Act → World → Prop} {ρ : Type} {r : ρ} {o : Oper} {i : Nat}

theorem looks_tmp {t : Nat} (h : Operand.tmp t ∈ o.op.operands) : t ∈ o.looksAt ops :=
  List.mem_append_left _ (List.mem_filterMap.2 ⟨.tmp t, by simpa using h, rfl⟩)
theorem looks_guard {j g : Nat} {want : Bool} (hg : o.guard = some (j, want)) (hj : (ops.toList[j]?).bind (·.dst) = some g) : g ∈ o.looksAt ops := by
  refine List.mem_append_right _ ?_
  have hj' : (ops[j]?).bind (·.dst) = some g := by simpa using hj
  simp [hg, hj']
theorem agree_ops {frM frC : Fr} (h : ∀ s ∈ o.looksAt ops, frM s = frC s) : ∀ x ∈ o.op.operands, Agree frM frC x := by
  intro x hx
  cases x with
  | tmp t => exact h t (looks_tmp hx)
  | _ => trivial
theorem wanted_runs {frM frC : Fr} (h : ∀ s ∈ o.looksAt ops, frM s = frC s) (hf : FrRel φ frM a.tmps) (hk : Runs ops frC o) : Region.wanted o (yielded ops a.tmps) = true := by
  rcases hk with q | ⟨j, want, g, hg, hj, hb⟩
  · simp [Region.wanted, q]
  · rw [guard_bool hg hj hf (by rw [h g (looks_guard hg hj)]; exact hb)]
    simp
theorem wanted_skips {frM frC : Fr} (h : ∀ s ∈ o.looksAt ops, frM s = frC s) (hf : FrRel φ frM a.tmps) (hk : Skips ops frC o) : Region.wanted o (yielded ops a.tmps) = false := by
  obtain ⟨j, want, g, hg, hj, hb⟩ := hk
  rw [← h g (looks_guard hg hj)] at hb
  rcases hb with ⟨b, hb, hne⟩ | ⟨c, hb⟩
  · rw [guard_bool hg hj hf hb]
    simpa using hne
  · exact guard_tuple hg hj hf hb
theorem agree_head (hO : Order ops c) (hs : c = (dn.map (·.1)).reverse ++ i :: is) (hc : Closed ops L) (ho : ops[i]? = some o) (hr : Ready ops L o) {s : Nat} (hl : s ∈ o.looksAt ops) : MF ops fr0 L dn s = CF ops fr0 dn s := by
  refine MF_all fun y hy hL => ?_
  obtain ⟨m1, m2, rfl⟩ := List.append_of_mem hy
  have hs2 : c = (m2.map (·.1)).reverse ++ y.1 :: ((m1.map (·.1)).reverse ++ i :: is) := by rw [hs]; simp
  obtain ⟨p, hp⟩ := hO.at_ _ _ _ hs2
  rcases hp.ap i (by simp) with q | ⟨o', q1, q2⟩
  · have := ready_bef hc ho hr q
    rw [this] at hL; cases hL
  · rw [ho] at q1; cases q1
    intro hdst
    simp only [dstOf, hp.op, Option.bind_some] at hdst
    exact (Oper.apart_spec q2).1 s hdst hl
theorem Closed.set (hc : Closed ops L) (ho : ops[i]? = some o) (hr : Ready ops L o) : Closed ops (Lset L i) := by
  intro j hj p hp e he hb
  have mono : ∀ k, L k = true → Lset L i k = true := fun k hk => by simp only [Lset]; split <;> simp_all
  by_cases q : j = i
  · subst q
    rw [ho] at hp; cases hp
    exact mono _ (hr e he hb)
  · exact mono _ (hc j (by simpa [Lset, q] using hj) p hp e he hb)

/-- The machine comes to what the canonical order has behind it. -/
theorem DRel.late (hE : EOk P w0 E) (hO : Order ops c) (hN : ∀ o ∈ ops.toList, ∀ d, o.dst = some d → d < N) (d : DRel w0 E N ops c fr0 h0 φ0 log dn is fr h L a w φ) {l1 l2 : Dn} {x : Nat × Value × Nat} (hd : dn = l1 ++ x :: l2)
    (hx : L x.1 = false) (ho : ops[x.1]? = some o) (hr : Ready ops L o) {K : Act → World → Prop} (hK : ∀ φ' a' w', DRel w0 E N ops c fr0 h0 φ0 log dn is fr h (Lset L x.1) a' w' φ' → K a' w') : wpOp P ops Q x.1 K a w := by
  have hag : ∀ s ∈ o.looksAt ops, MF ops fr0 L dn s = CF ops fr0 l2 s := fun s hs => agree_late hO d.split hd d.closed ho hr hx hs
  have hs1 : c = (l2.map (·.1)).reverse ++ x.1 :: ((l1.map (·.1)).reverse ++ is) := by rw [d.split, hd]; simp
  obtain ⟨p, hp⟩ := hO.at_ _ _ _ hs1
  have hpo : p = o := by have := hp.op; rw [ho] at this; cases this; rfl
  subst hpo
  have hn2 : ∀ y ∈ l2, y.1 ≠ x.1 := fun y hy q => hp.new (by simp; exact ⟨y.2.1, y.2.2, by rw [← q]; exact hy⟩)
  have hn1 : ∀ y ∈ l1, y.1 ≠ x.1 := by
    intro y hy q
    obtain ⟨m1, m2, rfl⟩ := List.append_of_mem hy
    obtain ⟨p', hp'⟩ := hO.at_ ((x :: l2).reverse.map (·.1) ++ (m2.map (·.1)).reverse) y.1 ((m1.map (·.1)).reverse ++ is) (by rw [hs1]; simp)
    exact hp'.new (by simp [q])
  have hmf : MF ops fr0 (Lset L x.1) dn = (MF ops fr0 L dn).put p.dst x.2.1 := by
    have := MF_set (ops := ops) (fr0 := fr0) hx hn2 hn1 (fun y hy hL dd q1 q2 => by
      obtain ⟨p', hp'⟩ := hO.mem (j := y.1) (by rw [hs1]; simp; exact .inr (.inr (.inl ⟨_, _, hy⟩)))
      rcases hp.ap y.1 (by simp; exact .inl ⟨_, _, hy⟩) with q | ⟨p2, q3, q4⟩
      · have := listed_bef d.closed hp' hL q
        rw [this] at hx; cases hx
      · simp only [dstOf, q3, Option.bind_some] at q1
        simp only [dstOf, ho, Option.bind_some] at q2
        exact (Oper.apart_spec q4).2.1 dd q2 q1)
    rw [hd, this]
    simp [dstOf, ho]
  have hmem : p ∈ ops.toList := by
    have : ops.toList[x.1]? = some p := by simpa using ho
    exact List.mem_of_getElem? this
  have build : ∀ (φ' : Map) (v' : Value) (w' : World), Ext φ φ' → Grow h0 h φ0 φ' → VR φ' x.2.1 v' → Rel w0 φ' h w' →
      (∀ l1' x' l2', dn = l1' ++ x' :: l2' → x'.1 ≠ x.1 → x'.2.2 < h.size → φ x'.2.2 = none → (∀ y ∈ l1', x'.2.2 < y.2.2) → φ' x'.2.2 = none) → K (a.put p.dst v') w' := by
    intro φ' v' w' he hg hv hrel hkeep
    refine hK φ' _ _ ⟨d.split, d.frame, fun j hj => ?_, d.closed.set ho hr, ?_, hg, fun m1 y m2 hm hy => ?_⟩
    · by_cases q : j = x.1
      · exact ⟨x, by rw [hd]; simp, q.symm⟩
      · exact d.sub j (by simpa [Lset, q] using hj)
    · rw [hmf]
      exact d.s.put he hv (hN p hmem) hrel
    · have hyx : y.1 ≠ x.1 := by
        intro q; rw [q] at hy; simp [Lset] at hy
      have hLy : L y.1 = false := by simpa [Lset, hyx] using hy
      obtain ⟨o', g1, g2⟩ := d.recs m1 y m2 hm hLy
      refine ⟨o', g1, ?_⟩
      rcases g2 with g | ⟨g1, g2, e, g3, g4⟩
      · exact .inl g
      · refine .inr ⟨g1, g2, e, g3, ?_⟩
        rcases g4 with g | ⟨a1, a2, a3, a4, a5, a6⟩
        · exact .inl g
        · exact .inr ⟨a1, a2, a3, hkeep m1 y m2 hm hyx a3 a4 a5, a5, a6⟩
  obtain ⟨o', g1, g2⟩ := d.recs l1 x l2 hd hx
  rw [ho] at g1; cases g1
  unfold wpOp
  simp only [ho]
  rcases g2 with ⟨hsk, hv⟩ | ⟨hrun, hl, e, hlog, g4⟩
  · rw [wanted_skips hag d.s.f hsk]
    simp only [Bool.false_eq_true, if_false]
    exact build φ undef w (Ext.refl _) d.grow (by rw [hv]; exact VR.undef φ) d.s.r (fun _ _ _ _ _ _ q _ => q)
  · rw [wanted_runs hag d.s.f hrun]
    simp only [if_true]
    left
    rcases g4 with ⟨R, b1, b2, b3, b4⟩ | ⟨a1, a2, a3, a4, a5, cs, esz, mk, a6, a7, a8, a9⟩
    · have hop : hop E p (MF ops fr0 L dn) h (fun v h => some (v, h)) = some (x.2.1, h) := by
        rw [hop_congr (agree_ops hag), b2 h b1]
      refine hop_sim (r := (x.2.1, h)) (w0 := w0) hE.t hE.q hE.m hE.s d.s.f d.s.r ?_ hop
      intro φ' v v' h' w' hg hv hrel hk
      simp only [Option.some.injEq, Prod.mk.injEq] at hk
      obtain ⟨rfl, rfl⟩ := hk
      exact build φ' v' w' hg.ext (d.grow.trans hg) hv hrel (fun _ y _ _ _ hy q _ => hg.keep _ hy q)
    · have hh : ∀ hX : Heap, hop E p (MF ops fr0 L dn) hX (fun v h => some (v, h)) = some (mk hX.size, hX.push (.cells cs esz false)) := fun hX => by
        rw [hop_congr (agree_ops hag), a8]
      obtain ⟨C, t, fz, xx, LL, w1, v', n1, n2, n3, n4, n5, n6, n8, n7⟩ := new_sim (w := w) hE.t d.s.f a1 hh
      have hr1 : Rel w0 φ h w1 := by
        rcases n2 with rfl | rfl
        · exact d.s.r
        · exact Rel.drew d.s.r
      have hsz : w1.heap.size = w.heap.size := by rcases n2 with rfl | rfl <;> rfl
      obtain ⟨φ', f1, f2, f3, f4⟩ := hr1.alloc x.2.2 h (.cells C t fz) xx (esz % 65536) LL a4 (fun j hj _ => .inl rfl) (Nat.le_refl _) a3 hr1.wf (fun φ' he => by
        rw [a7]
        exact ⟨n3.mono he, ⟨rfl, n6⟩, n8, fun _ => ⟨hr1.below.size, n4, by simpa using n5⟩⟩)
      refine wp_value n1 (build φ' v' _ f1 ?_ (by rw [a6]; exact n7 φ' _ (by rw [← hsz]; exact f2)) f4 ?_)
      · exact ⟨d.grow.ext.trans f1, d.grow.size, fun k hk q => by rw [f3 k (by omega)]; exact d.grow.keep k hk q⟩
      · intro m1 y m2 hm hyx hy q hlt
        rw [f3 _ ?_]
        · exact q
        · rw [hd] at hm
          rcases List.append_eq_append_iff.1 hm with ⟨z, q1, q2⟩ | ⟨z, q1, q2⟩
          · cases z with
            | nil => simp at q2; exact absurd (by rw [q2.1]) hyx
            | cons u z =>
              simp at q2
              have := hlt x (by rw [q1]; simp [q2.1])
              omega
          · cases z with
            | nil => simp at q2; exact absurd (by rw [q2.1]) hyx
            | cons u z =>
              simp at q2
              have := a5 y (by rw [q1]; simp [q2.1])
              omega

theorem chkAll_some {b : Nat} {h : Heap} {K : Option ρ} : ∀ {log : List (Nat × Lg)}, chkAll b h K log = some r → K = some r ∧ ∀ x ∈ log, b.testBit x.1 = true ∨ x.2.ok h = true
  | [], e => ⟨e, by simp⟩
  | (j, l) :: log, e => by
    have step : ∀ (hl : b.testBit j = true ∨ l.ok h = true), chkAll b h K log = some r → K = some r ∧ ∀ x ∈ (j, l) :: log, b.testBit x.1 = true ∨ x.2.ok h = true := by
      intro hl e1
      obtain ⟨h1, h2⟩ := chkAll_some e1
      refine ⟨h1, fun x hx => ?_⟩
      simp only [List.mem_cons] at hx
      rcases hx with rfl | hx
      · exact hl
      · exact h2 x hx
    have other : (match b.testBit j with | true => chkAll b h K log | false => chk l h (chkAll b h K log)) = some r → K = some r ∧ ∀ x ∈ (j, l) :: log, b.testBit x.1 = true ∨ x.2.ok h = true := by
      intro e
      cases hb : b.testBit j
      · rw [hb] at e
        simp only [chk] at e
        cases hq : l.ok h
        · rw [hq] at e; cases e
        · rw [hq] at e; exact step (.inr hq) e
      · rw [hb] at e
        exact step (.inl hb) e
    cases l with
    | yes => exact step (.inr rfl) e
    | _ => exact other e

/-- The machine comes to the heavy operation that stands first. -/
theorem DRel.heavy (hE : EOk P w0 E) (hO : Order ops c) (hN : ∀ o ∈ ops.toList, ∀ d, o.dst = some d → d < N) (d : DRel w0 E N ops c fr0 h0 φ0 log dn (i :: is) fr h L a w φ)
    (ho : ops[i]? = some o) (hr : Ready ops L o) (hrun : Runs ops fr o) {T : Fr → Heap → Option ρ} (e : (hop E o fr h fun v h' => chkAll ((bef ops.toList).getD i 0) h' (T (fr.put o.dst v) h') log) = some r)
    {K : Act → World → Prop} (hK : ∀ v φ' h' a' w', T (fr.put o.dst v) h' = some r → DRel w0 E N ops c fr0 h0 φ0 log ((i, v, h.size) :: dn) is (fr.put o.dst v) h' (Lset L i) a' w' φ' → K a' w') : wpOp P ops Q i K a w := by
  obtain ⟨hL, hn⟩ := d.fresh hO
  have hag : ∀ s ∈ o.looksAt ops, MF ops fr0 L dn s = fr s := fun s hs => by rw [d.frame]; exact agree_head hO d.split d.closed ho hr hs
  have hmem : o ∈ ops.toList := by
    have : ops.toList[i]? = some o := by simpa using ho
    exact List.mem_of_getElem? this
  unfold wpOp
  simp only [ho]
  rw [wanted_runs hag d.s.f hrun]
  simp only [if_true]
  left
  rw [← hop_congr (agree_ops hag)] at e
  refine hop_sim (r := r) (w0 := w0) hE.t hE.q hE.m hE.s d.s.f d.s.r ?_ e
  intro φ' v v' h' w' hg hv hrel hk
  obtain ⟨hT, hchk⟩ := chkAll_some hk
  refine hK v φ' h' _ w' hT ⟨by rw [d.split]; simp, ?_, fun j hj => ?_, d.closed.set ho hr, ?_, d.grow.trans hg, fun l1 x l2 hm hx => ?_⟩
  · simp [CF, dstOf, ho, d.frame]
  · by_cases q : j = i
    · exact ⟨(i, v, h.size), by simp, q.symm⟩
    · obtain ⟨x, h1, h2⟩ := d.sub j (by simpa [Lset, q] using hj)
      exact ⟨x, by simp [h1], h2⟩
  · have : MF ops fr0 (Lset L i) ((i, v, h.size) :: dn) = (MF ops fr0 L dn).put o.dst v := by
      simp only [MF]
      have h1 : Lset L i i = true := by simp [Lset]
      rw [h1]
      simp only
      rw [MF_congr (L := Lset L i) (L' := L) fun y hy => by simp [Lset, hn y hy]]
      simp [dstOf, ho]
    rw [this]
    exact d.s.put hg.ext hv (hN o hmem) hrel
  · rcases dn_cons hm with ⟨rfl, rfl, rfl⟩ | ⟨l1', rfl, h2⟩
    · simp [Lset] at hx
    · have hxi : x.1 ≠ i := by intro q; rw [q] at hx; simp [Lset] at hx
      have hLx : L x.1 = false := by simpa [Lset, hxi] using hx
      obtain ⟨o', g1, g2⟩ := d.recs l1' x l2 h2 hLx
      refine ⟨o', g1, ?_⟩
      rcases g2 with g | ⟨g1, g2, e', g3, g4⟩
      · exact .inl g
      · have hok : e'.ok h' = true := by
          rcases hchk _ g3 with q | q
          · have := ready_bef d.closed ho hr q
            rw [this] at hLx; cases hLx
          · exact q
        refine .inr ⟨g1, g2, e', g3, ?_⟩
        rcases g4 with ⟨R, b1, b2, b3, b4⟩ | ⟨a1, a2, a3, a4, a5, cs, esz, mk, a6, a7, a8, a9⟩
        · exact .inl ⟨R, b4 _ hok, b2, b3, b4⟩
        · refine .inr ⟨a1, a2, Nat.lt_of_lt_of_le a3 hg.size, hg.keep _ a3 a4, fun y hy => ?_, cs, esz, mk, a6, a9 _ hok, a8, a9⟩
          simp only [List.mem_cons] at hy
          rcases hy with rfl | hy
          · exact a3
          · exact a5 y hy

theorem fr_set_same {fr : Fr} {g : Nat} {v : Value} (hg : fr g = some v) : fr.set g v = fr := by
  funext s
  simp only [Fr.set]
  split
  · rename_i q; rw [q, hg]
  · rfl
/-- One step of the canonical order. -/
theorem hopsD_cons {bs : List Nat} {log : List (Nat × Lg)} {fr : Fr} {h : Heap} {K : Fr → Heap → Option ρ} (e : hopsD E ops.toList bs (i :: is) log fr h K = some r) :
    ∃ o, ops[i]? = some o ∧ ((Skips ops fr o ∧ hopsD E ops.toList bs is log (fr.skip o.dst) h K = some r) ∨
      (Runs ops fr o ∧ hopsD.hopD E ops.toList bs i o fr h log (fun fr h log => hopsD E ops.toList bs is log fr h K) = some r)) := by
  unfold hopsD at e
  split at e
  · cases e
  · rename_i o ho
    refine ⟨o, by simpa using ho, ?_⟩
    split at e
    · rename_i hg
      exact .inr ⟨.inl hg, e⟩
    · rename_i j want hg
      split at e
      · cases e
      · rename_i g hj
        split at e
        · rename_i b hb
          rcases cond_some e with ⟨rfl, e1⟩ | ⟨rfl, e1⟩
          · rw [fr_set_same hb] at e1
            cases want
            · exact .inl ⟨⟨j, _, g, hg, hj, .inl ⟨_, hb, by simp⟩⟩, e1⟩
            · exact .inr ⟨.inr ⟨j, _, g, hg, hj, hb⟩, e1⟩
          · rw [fr_set_same hb] at e1
            cases want
            · exact .inr ⟨.inr ⟨j, _, g, hg, hj, hb⟩, e1⟩
            · exact .inl ⟨⟨j, _, g, hg, hj, .inl ⟨_, hb, by simp⟩⟩, e1⟩
        · rename_i cc hb
          exact .inl ⟨⟨j, _, g, hg, hj, .inr ⟨_, hb⟩⟩, e⟩
        · cases e

/-- The canonical order goes on to the next heavy operation, or to its end. -/
theorem advance (hO : Order ops c) {K : Fr → Heap → Option ρ} : ∀ {is : List Nat} {log : List (Nat × Lg)} {dn : Dn} {fr : Fr} {h : Heap}, DRel w0 E N ops c fr0 h0 φ0 log dn is fr h L a w φ →
    hopsD E ops.toList (bef ops.toList) is log fr h K = some r →
    ∃ is' log' dn' fr' h', DRel w0 E N ops c fr0 h0 φ0 log' dn' is' fr' h' L a w φ ∧ hopsD E ops.toList (bef ops.toList) is' log' fr' h' K = some r ∧ ((is' = [] ∧ K fr' h' = some r) ∨
      ∃ i rest o, is' = i :: rest ∧ ops[i]? = some o ∧ heavy o = true ∧ Runs ops fr' o ∧ (hop E o fr' h' fun v h2 => chkAll ((bef ops.toList).getD i 0) h2 (hopsD E ops.toList (bef ops.toList) rest log' (fr'.put o.dst v) h2 K) log') = some r)
  | [], log, dn, fr, h, d, e => ⟨[], log, dn, fr, h, d, e, .inl ⟨rfl, e⟩⟩
  | i :: is, log, dn, fr, h, d, e => by
    obtain ⟨o, ho, e1⟩ := hopsD_cons e
    rcases e1 with ⟨hk, e1⟩ | ⟨hk, e1⟩
    · exact advance hO (d.skip hO ho hk) e1
    · unfold hopsD.hopD at e1
      cases hh : Ab.heavy o
      · simp only [hh] at e1
        obtain ⟨v, e', h', e2, d2⟩ := d.light hO ho hk hh (T := fun e v h' => hopsD E ops.toList (bef ops.toList) is ((i, e) :: log) (fr.put o.dst v) h' K) e1
        exact advance hO d2 e2
      · simp only [hh] at e1
        exact ⟨i :: is, log, dn, fr, h, d, e, .inr ⟨i, is, o, rfl, ho, hh, hk, e1⟩⟩

theorem filter_less {p q : Nat → Bool} {j : Nat} : ∀ {l : List Nat}, (∀ x, q x = true → p x = true) → j ∈ l → p j = true → q j = false → (l.filter q).length < (l.filter p).length
  | [], _, hj, _, _ => by simp at hj
  | x :: l, h, hj, hp, hq => by
    have le : ∀ l : List Nat, (l.filter q).length ≤ (l.filter p).length := by
      intro l
      induction l with
      | nil => simp
      | cons y l ih =>
        simp only [List.filter_cons]
        cases hy : q y
        · cases p y <;> simp <;> omega
        · simp [h y hy]; exact ih
    by_cases hxj : x = j
    · subst hxj
      have := le l
      simp [List.filter_cons, hp, hq]; omega
    · have ih := filter_less (l := l) h (by simp at hj; exact hj.resolve_left (fun q => hxj q.symm)) hp hq
      simp only [List.filter_cons]
      cases hy : q x
      · cases p x <;> simp <;> omega
      · simp [h x hy]; exact ih

def Left (ops : Array Oper) (L : Nat → Bool) : Nat := ((List.range ops.size).filter fun j => !L j).length

theorem getD_set {listed : Array Bool} {j : Nat} (hj : j < listed.size) : (fun k => (listed.setIfInBounds j true).getD k false) = Lset (fun k => listed.getD k false) j := by
  funext k
  simp only [Lset]
  split
  · rename_i q; subst q
    simp [hj]
  · rename_i q
    exact getD_set_ne false (fun e => q e.symm)

theorem getD_in {listed : Array Bool} {j : Nat} (hj : j < listed.size) : listed.getD j true = listed.getD j false := by
  simp [hj]
theorem drawn_main (hE : EOk P w0 E) (hO : Order ops c) (hN : ∀ o ∈ ops.toList, ∀ d, o.dst = some d → d < N) {K : Fr → Heap → Option ρ}
    (hK : ∀ φ' fr' h' a' w', Grow h0 h' φ0 φ' → At w0 N φ' fr' h' a' w' → K fr' h' = some r → Q .normal a' w') :
    ∀ (fuel : Nat) (is : List Nat) (log : List (Nat × Lg)) (dn : Dn) (fr : Fr) (h : Heap) (listed : Array Bool) (a : Act) (w : World) (φ : Map), DRel w0 E N ops c fr0 h0 φ0 log dn is fr h (fun k => listed.getD k false) a w φ →
    listed.size = ops.size → Left ops (fun k => listed.getD k false) ≤ fuel → hopsD E ops.toList (bef ops.toList) is log fr h K = some r → wpAny P .any ops Q fuel listed a w := by
  intro fuel
  have fin : ∀ (is : List Nat) (log : List (Nat × Lg)) (dn : Dn) (fr : Fr) (h : Heap) (listed : Array Bool) (a : Act) (w : World) (φ : Map), DRel w0 E N ops c fr0 h0 φ0 log dn is fr h (fun k => listed.getD k false) a w φ →
    listed.size = ops.size → hopsD E ops.toList (bef ops.toList) is log fr h K = some r → Region.ready .any ops listed = [] → Q .normal a w := by
    intro is log dn fr h listed a w φ d hsz e hready
    have hall : ∀ j, j ∈ c → listed.getD j false = true := by
      intro j hj
      have key : ∀ (pre rest : List Nat), c = pre ++ rest → ∀ k ∈ pre, listed.getD k false = true := by
        refine snoc_ind (p := fun pre => ∀ rest : List Nat, c = pre ++ rest → ∀ k ∈ pre, listed.getD k false = true) (fun rest _ k hk => by simp at hk) fun pre i ih => ?_
        · intro rest hc k hk
          have ih' := ih (i :: rest) (by rw [hc]; simp)
          simp only [List.mem_append, List.mem_singleton] at hk
          rcases hk with hk | rfl
          · exact ih' k hk
          · cases hq : listed.getD k false with
            | true => rfl
            | false =>
              exfalso
              obtain ⟨o, ho⟩ := hO.at_ pre k rest (by rw [hc]; simp)
              have hlt : k < ops.size := (Array.getElem?_eq_some_iff.1 ho.op).1
              have : k ∈ Region.ready .any ops listed := by
                rw [mem_ready]
                refine ⟨?_, o, ho.op, fun e he hb => ih' _ (ho.dep e he hb)⟩
                rw [getD_in (by omega)]; exact hq
              rw [hready] at this
              simp at this
      exact key c [] (by simp) j hj
    obtain ⟨is', log', dn', fr', h', d', e0, e'⟩ := advance hO d e
    rcases e' with ⟨rfl, e'⟩ | ⟨i, rest, o, rfl, ho, _⟩
    · refine hK φ fr' h' a w d'.grow ?_ e'
      have hs := d'.s
      have : MF ops fr0 (fun k => listed.getD k false) dn' = fr' := by
        rw [d'.frame]
        funext s
        refine MF_all fun x hx hL => ?_
        have := hall x.1 (by rw [d'.split]; simp; exact ⟨x.2.1, x.2.2, hx⟩)
        rw [this] at hL; cases hL
      rw [this] at hs
      exact hs
    · have := (d'.fresh hO).1
      rw [hall i (by rw [d'.split]; simp)] at this
      cases this
  induction fuel with
  | zero =>
    intro is log dn fr h listed a w φ d hsz hleft e
    have hready : Region.ready .any ops listed = [] := by
      rw [List.eq_nil_iff_forall_not_mem]
      intro j hj
      obtain ⟨h1, o, ho, _⟩ := mem_ready.1 hj
      have hlt : j < ops.size := (Array.getElem?_eq_some_iff.1 ho).1
      have h0 : (List.range ops.size).filter (fun j => !listed.getD j false) = [] := List.eq_nil_of_length_eq_zero (Nat.le_zero.1 hleft)
      have : j ∈ (List.range ops.size).filter (fun j => !listed.getD j false) := by
        rw [List.mem_filter]
        refine ⟨by simpa using hlt, ?_⟩
        rw [getD_in (by omega)] at h1
        rw [h1]; rfl
      rw [h0] at this
      exact absurd this (by simp)
    exact ⟨hready, fin is log dn fr h listed a w φ d hsz e hready⟩
  | succ fuel ih =>
    intro is log dn fr h listed a w φ d hsz hleft e
    refine ⟨fin is log dn fr h listed a w φ d hsz e, fun j hj => ?_⟩
    obtain ⟨h1, o, ho, hr⟩ := mem_ready.1 hj
    have hlt : j < ops.size := (Array.getElem?_eq_some_iff.1 ho).1
    have hLj : listed.getD j false = false := by
      rw [getD_in (by omega)] at h1
      exact h1
    have hset := getD_set (listed := listed) (j := j) (by omega)
    have hleft' : Left ops (fun k => (listed.setIfInBounds j true).getD k false) ≤ fuel := by
      have := filter_less (p := fun k => !listed.getD k false) (q := fun k => !(listed.setIfInBounds j true).getD k false) (j := j) (l := List.range ops.size) (fun x hx => by
        have h2 : (listed.setIfInBounds j true).getD x false = Lset (fun k => listed.getD k false) j x := congrFun hset x
        rw [h2] at hx
        simp only [Lset] at hx
        split at hx
        · simp at hx
        · exact hx) (by simpa using hlt) (by rw [hLj]; rfl) (by
        have h2 : (listed.setIfInBounds j true).getD j false = Lset (fun k => listed.getD k false) j j := congrFun hset j
        rw [h2]; simp [Lset])
      exact Nat.le_of_lt_succ (Nat.lt_of_lt_of_le this hleft)
    obtain ⟨is', log', dn', fr', h', d', e0, e'⟩ := advance hO d e
    by_cases hin : ∃ x ∈ dn', x.1 = j
    · obtain ⟨x, hx, rfl⟩ := hin
      obtain ⟨l1, l2, hd⟩ := List.append_of_mem hx
      refine d'.late hE hO hN hd hLj ho hr fun φ' a' w' d2 => ?_
      rw [← hset] at d2
      exact ih is' log' dn' fr' h' _ a' w' φ' d2 (by simpa using hsz) hleft' e0
    · have hjc := hO.all j hlt
      rw [d'.split] at hjc
      simp only [List.mem_append, List.mem_reverse, List.mem_map] at hjc
      rcases hjc with ⟨x, hx, q⟩ | hjc
      · exact absurd ⟨x, hx, q⟩ hin
      · rcases e' with ⟨rfl, e'⟩ | ⟨i, rest, o', rfl, ho', hh, hk, e'⟩
        · simp at hjc
        · have hij : j = i := by
            simp only [List.mem_cons] at hjc
            rcases hjc with q | q
            · exact q
            · exfalso
              obtain ⟨p, hp⟩ := hO.at_ _ _ _ d'.split
              have hpo : p = o' := by have := hp.op; rw [ho'] at this; cases this; rfl
              subst hpo
              have := ready_bef d'.closed ho hr (hp.hv hh j q)
              rw [(d'.fresh hO).1] at this
              cases this
          subst hij
          rw [ho] at ho'; cases ho'
          refine d'.heavy hE hO hN ho hr hk (T := fun fr h2 => hopsD E ops.toList (bef ops.toList) rest log' fr h2 K) e' fun v φ' h2 a' w' e2 d2 => ?_
          rw [← hset] at d2
          exact ih rest log' _ _ h2 _ a' w' φ' d2 (by simpa using hsz) hleft' e2
end
end Ab
end Go.Proofs.YtaaacaejpchbpaaGreat
