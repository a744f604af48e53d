/- A region that draws its order: the walk. No condition. -/
import Derived.Test.YtaaacaejpchbpaaGreatOrder
set_option linter.unusedVariables false
set_option linter.unusedSimpArgs false
namespace Go.Proofs.YtaaacaejpchbpaaGreat
namespace Ab
open Go Go.RowKit

abbrev Dn := List (Nat × Value × Nat)
def dstOf (ops : Array Oper) (j : Nat) : Option Nat := (ops[j]?).bind (·.dst)
def CF (ops : Array Oper) (fr0 : Fr) : Dn → Fr
  | [] => fr0
  | x :: dn => (CF ops fr0 dn).put (dstOf ops x.1) x.2.1
def MF (ops : Array Oper) (fr0 : Fr) (L : Nat → Bool) : Dn → Fr
  | [] => fr0
  | x :: dn => match L x.1 with | true => (MF ops fr0 L dn).put (dstOf ops x.1) x.2.1 | false => MF ops fr0 L dn
def Lset (L : Nat → Bool) (j : Nat) : Nat → Bool := fun k => if k = j then true else L k

theorem put_ne {fr : Fr} {d : Option Nat} {v : Value} {s : Nat} (h : d ≠ some s) : (fr.put d v) s = fr s := by
  cases d with
  | none => rfl
  | some d =>
    simp only [Fr.put, Fr.set]
    rw [if_neg (fun q => h (by rw [q]))]
theorem put_eq {fr : Fr} {v : Value} {s : Nat} : (fr.put (some s) v) s = some v := by simp [Fr.put, Fr.set]
theorem put_comm {fr : Fr} {d d' : Option Nat} {v v' : Value} (h : ∀ x, d = some x → d' ≠ some x) : (fr.put d v).put d' v' = (fr.put d' v').put d v := by
  funext s
  by_cases q : d = some s
  · subst q
    rw [put_ne (h s rfl), put_eq, put_eq]
  · by_cases q' : d' = some s
    · subst q'
      rw [put_eq, put_ne q, put_eq]
    · rw [put_ne q', put_ne q, put_ne q, put_ne q']

variable {ops : Array Oper} {fr0 : Fr} {L : Nat → Bool}
theorem MF_skip {s : Nat} : ∀ {l1 l2 : Dn}, (∀ x ∈ l1, L x.1 = true → dstOf ops x.1 ≠ some s) → MF ops fr0 L (l1 ++ l2) s = MF ops fr0 L l2 s
  | [], l2, h => rfl
  | x :: l1, l2, h => by
    have ih := MF_skip (l1 := l1) (l2 := l2) fun y hy => h y (by simp [hy])
    simp only [List.cons_append, MF]
    cases hL : L x.1
    · exact ih
    · simp only
      rw [put_ne (h x (by simp) hL)]
      exact ih
theorem MF_all {s : Nat} : ∀ {l2 : Dn}, (∀ x ∈ l2, L x.1 = false → dstOf ops x.1 ≠ some s) → MF ops fr0 L l2 s = CF ops fr0 l2 s
  | [], h => rfl
  | x :: l2, h => by
    have ih := MF_all (l2 := l2) fun y hy => h y (by simp [hy])
    simp only [MF, CF]
    cases hL : L x.1
    · simp only
      rw [put_ne (h x (by simp) hL)]
      exact ih
    · simp only
      by_cases q : dstOf ops x.1 = some s
      · rw [q, put_eq, put_eq]
      · rw [put_ne q, put_ne q]
        exact ih
theorem MF_congr {L' : Nat → Bool} : ∀ {l : Dn}, (∀ x ∈ l, L x.1 = L' x.1) → MF ops fr0 L l = MF ops fr0 L' l
  | [], h => rfl
  | x :: l, h => by
    simp only [MF, MF_congr (l := l) fun y hy => h y (by simp [hy]), h x (by simp)]
theorem MF_set {x : Nat × Value × Nat} {l2 : Dn} (hx : L x.1 = false) (h2 : ∀ y ∈ l2, y.1 ≠ x.1) : ∀ {l1 : Dn}, (∀ y ∈ l1, y.1 ≠ x.1) →
    (∀ y ∈ l1, L y.1 = true → ∀ d, dstOf ops y.1 = some d → dstOf ops x.1 ≠ some d) → MF ops fr0 (Lset L x.1) (l1 ++ x :: l2) = (MF ops fr0 L (l1 ++ x :: l2)).put (dstOf ops x.1) x.2.1
  | [], h1, hd => by
    simp only [List.nil_append, MF, hx]
    have : Lset L x.1 x.1 = true := by simp [Lset]
    rw [this]
    simp only
    rw [MF_congr (L := Lset L x.1) (L' := L) fun y hy => by simp [Lset, h2 y hy]]
  | y :: l1, h1, hd => by
    have ih := MF_set hx h2 (l1 := l1) (fun z hz => h1 z (by simp [hz])) (fun z hz => hd z (by simp [hz]))
    have hy : Lset L x.1 y.1 = L y.1 := by simp [Lset, h1 y (by simp)]
    simp only [List.cons_append, MF, hy]
    cases hL : L y.1
    · exact ih
    · simp only
      rw [ih]
      exact put_comm fun d q q2 => hd y (by simp) hL d q2 q

def Skips (ops : Array Oper) (fr : Fr) (o : Oper) : Prop := ∃ j want g, o.guard = some (j, want) ∧ (ops.toList[j]?).bind (·.dst) = some g ∧ ((∃ b, fr g = some (.bool b) ∧ b ≠ want) ∨ ∃ c, fr g = some (.tuple c))
def Runs (ops : Array Oper) (fr : Fr) (o : Oper) : Prop := o.guard = none ∨ ∃ j want g, o.guard = some (j, want) ∧ (ops.toList[j]?).bind (·.dst) = some g ∧ fr g = some (.bool want)

structure Place (ops : Array Oper) (pre : List Nat) (i : Nat) (post : List Nat) (o : Oper) : Prop where
  op : ops[i]? = some o
  new : i ∉ pre
  dep : ∀ e ∈ o.after, Region.binds .any e = true → e.on ∈ pre
  hv : heavy o = true → ∀ j ∈ post, ((bef ops.toList).getD j 0).testBit i = true
  ap : ∀ j ∈ post, ((bef ops.toList).getD j 0).testBit i = true ∨ ∃ p, ops[j]? = some p ∧ o.apart ops p = true
  gd : ∀ g want, o.guard = some (g, want) → ((bef ops.toList).getD i 0).testBit g = true
structure Order (ops : Array Oper) (c : List Nat) : Prop where
  at_ : ∀ pre i post, c = pre ++ i :: post → ∃ o, Place ops pre i post o
  all : ∀ j, j < ops.size → j ∈ c
theorem Order.mem {c : List Nat} (hO : Order ops c) {j : Nat} (hj : j ∈ c) : ∃ o, ops[j]? = some o := by
  obtain ⟨pre, post, rfl⟩ := List.append_of_mem hj
  obtain ⟨o, ho⟩ := hO.at_ _ _ _ rfl
  exact ⟨o, ho.op⟩
theorem order_of (h : okD ops.toList = true) : Order ops (canon ops.toList (bef ops.toList) ops.toList.length 0 (List.range ops.toList.length)) := by
  simp only [okD, Bool.and_eq_true] at h
  refine ⟨fun pre i post hc => ?_, fun j hj => ?_⟩
  · obtain ⟨o, h1, _, h3, h4, h5, h6, h7⟩ := okFrom_at _ 0 [] (by simp) h.2 pre i post hc
    exact ⟨o, by simpa using h1, h3, fun e he hb => (h4 e he hb).resolve_left (by simp), h5, fun j hj => by
      rcases h6 j hj with q | ⟨p, q1, q2⟩
      · exact .inl q
      · exact .inr ⟨p, by simpa using q1, q2⟩, h7⟩
  · have := List.all_eq_true.1 h.1 j (by simpa using hj)
    simpa using this

def Closed (ops : Array Oper) (L : Nat → Bool) : Prop := ∀ j, L j = true → ∀ o, ops[j]? = some o → ∀ e ∈ o.after, Region.binds .any e = true → L e.on = true
def Ready (ops : Array Oper) (L : Nat → Bool) (o : Oper) : Prop := ∀ e ∈ o.after, Region.binds .any e = true → L e.on = true
theorem ready_bef {j : Nat} {o : Oper} (hc : Closed ops L) (ho : ops[j]? = some o) (hr : Ready ops L o) {i : Nat} (hi : ((bef ops.toList).getD j 0).testBit i = true) : L i = true :=
  bef_closed (ops := ops.toList) (L := L) (fun j hj o ho e he hb => hc j hj o (by simpa using ho) e he hb) (j + 1) j (by omega) o (by simpa using ho) hr i hi
theorem listed_bef {j : Nat} {o : Oper} (hc : Closed ops L) (ho : ops[j]? = some o) (hj : L j = true) {i : Nat} (hi : ((bef ops.toList).getD j 0).testBit i = true) : L i = true :=
  ready_bef hc ho (hc j hj o ho) hi

/-- The machine's frame agrees with the canonical one at what a ready operation looks at. -/
theorem agree_late {c is : List Nat} {dn l1 l2 : Dn} {x : Nat × Value × Nat} {o : Oper} (hO : Order ops c) (hs : c = (dn.map (·.1)).reverse ++ is) (hd : dn = l1 ++ x :: l2)
    (hc : Closed ops L) (ho : ops[x.1]? = some o) (hr : Ready ops L o) (hx : L x.1 = false) {s : Nat} (hl : s ∈ o.looksAt ops) : MF ops fr0 L dn s = CF ops fr0 l2 s := by
  have hs1 : c = (l2.map (·.1)).reverse ++ x.1 :: ((l1.map (·.1)).reverse ++ is) := by rw [hs, hd]; simp
  subst hd
  rw [MF_skip (l1 := l1) (l2 := x :: l2) (fun y hy hL => ?_)]
  · simp only [MF, hx]
    refine MF_all fun y hy hL => ?_
    obtain ⟨m1, m2, rfl⟩ := List.append_of_mem hy
    have hs2 : c = (m2.map (·.1)).reverse ++ y.1 :: ((m1.map (·.1)).reverse ++ x.1 :: ((l1.map (·.1)).reverse ++ is)) := by rw [hs1]; simp
    obtain ⟨p, hp⟩ := hO.at_ _ _ _ hs2
    rcases hp.ap x.1 (by simp) with q | ⟨o', q1, q2⟩
    · have := ready_bef hc ho hr q
      rw [this] at hL; cases hL
    · rw [ho] at q1; cases q1
      intro hdst
      simp only [dstOf, hp.op, Option.bind_some] at hdst
      exact (Oper.apart_spec q2).1 s hdst hl
  · obtain ⟨p, hp⟩ := hO.at_ _ _ _ hs1
    have hpo : p = o := by have := hp.op; rw [ho] at this; cases this; rfl
    subst hpo
    rcases hp.ap y.1 (by simp; exact .inl ⟨_, _, hy⟩) with q | ⟨p', q1, q2⟩
    · obtain ⟨p', hp'⟩ := hO.mem (j := y.1) (by rw [hs1]; simp; exact .inr (.inr (.inl ⟨_, _, hy⟩)))
      have := listed_bef hc hp' hL q
      rw [this] at hx; cases hx
    · intro hdst
      simp only [dstOf, q1, Option.bind_some] at hdst
      exact (Oper.apart_spec q2).2.2 s hdst hl

theorem Rel.push {w0 w : World} {φ : Map} {h : Heap} (r : Rel w0 φ h w) (o : HObj) : Rel w0 φ (h.push o) w := by
  have get : ∀ i l, φ i = some l → (h.push o).get i = h.get i := fun i l hi => by
    have := r.dom i l hi
    simp [Heap.push, show i ≠ h.size by omega]
  refine ⟨r.wf.push o, r.below, fun i l hi => ?_, fun i l hi => ?_, fun i j li lj hij hi hj h1 h2 hb => ?_⟩
  · have := r.dom i l hi
    simp [Heap.push]; omega
  · rw [get i l hi]; exact r.obj i l hi
  · rw [get i li hi] at h1 ⊢
    rw [get j lj hj] at h2 ⊢
    exact r.inj i j li lj hij hi hj h1 h2 hb
theorem push_le {h : Heap} (hw : WF h) (o : HObj) (i : Nat) (hi : h.get i ≠ .none) : (h.push o).get i = h.get i := by
  have := hw.lt hi
  simp [Heap.push, show i ≠ h.size by omega]

/-- What is known of an operation that the canonical order has behind it and the machine not yet. -/
def Rec (E : Env) (ops : Array Oper) (fr0 : Fr) (h0 : Heap) (log : List (Nat × Lg)) (h : Heap) (φ : Map) (l1 : Dn) (x : Nat × Value × Nat) (l2 : Dn) : Prop :=
  ∃ o, ops[x.1]? = some o ∧ ((Skips ops (CF ops fr0 l2) o ∧ x.2.1 = undef) ∨ (Runs ops (CF ops fr0 l2) o ∧ heavy o = false ∧ ∃ e, (x.1, e) ∈ log ∧
    ((∃ R : Heap → Prop, R h ∧ (∀ h2, R h2 → ∀ (ρ2 : Type) (K2 : Value → Heap → Option ρ2), hop E o (CF ops fr0 l2) h2 K2 = K2 x.2.1 h2) ∧ (∀ h1 h2, R h1 → (∀ i, h1.get i ≠ .none → h2.get i = h1.get i) → R h2) ∧ (∀ h2, e.ok h2 = true → R h2)) ∨
     (newOp o = true ∧ h0.size ≤ x.2.2 ∧ x.2.2 < h.size ∧ φ x.2.2 = none ∧ (∀ y ∈ l1, x.2.2 < y.2.2) ∧ ∃ (cs : List Value) (esz : Nat) (mk : Nat → Value), x.2.1 = mk x.2.2 ∧ h.get x.2.2 = .cells cs esz false ∧
       (∀ (hX : Heap) (ρ2 : Type) (K2 : Value → Heap → Option ρ2), hop E o (CF ops fr0 l2) hX K2 = K2 (mk hX.size) (hX.push (.cells cs esz false))) ∧ (∀ h2, e.ok h2 = true → h2.get x.2.2 = .cells cs esz false)))))

structure DRel (w0 : World) (E : Env) (N : Nat) (ops : Array Oper) (c : List Nat) (fr0 : Fr) (h0 : Heap) (φ0 : Map) (log : List (Nat × Lg)) (dn : Dn) (is : List Nat) (fr : Fr) (h : Heap) (L : Nat → Bool) (a : Act) (w : World) (φ : Map) : Prop where
  split : c = (dn.map (·.1)).reverse ++ is
  frame : fr = CF ops fr0 dn
  sub : ∀ j, L j = true → ∃ x ∈ dn, x.1 = j
  closed : Closed ops L
  s : At w0 N φ (MF ops fr0 L dn) h a w
  grow : Grow h0 h φ0 φ
  recs : ∀ l1 x l2, dn = l1 ++ x :: l2 → L x.1 = false → Rec E ops fr0 h0 log h φ l1 x l2

section
variable {P : Program} {w0 w : World} {E : Env} {N : Nat} {c : List Nat} {h0 h : Heap} {φ0 φ : Map} {log : List (Nat × Lg)} {dn : Dn} {is : List Nat} {fr : Fr} {a : Act} {Q : Exit → Act → World → Prop} {ρ : Type} {r : ρ} {o : Oper} {i : Nat}

theorem DRel.fresh (hO : Order ops c) (d : DRel w0 E N ops c fr0 h0 φ0 log dn (i :: is) fr h L a w φ) : L i = false ∧ ∀ x ∈ dn, x.1 ≠ i := by
  obtain ⟨o, ho⟩ := hO.at_ _ _ _ d.split
  have hn : ∀ x ∈ dn, x.1 ≠ i := fun x hx q => ho.new (by simp; exact ⟨x.2.1, x.2.2, by rw [← q]; exact hx⟩)
  refine ⟨?_, hn⟩
  cases q : L i with
  | false => rfl
  | true =>
    obtain ⟨x, hx, h1⟩ := d.sub i q
    exact absurd h1 (hn x hx)
theorem dn_cons {x y : Nat × Value × Nat} {dn l1 l2 : Dn} (h : y :: dn = l1 ++ x :: l2) : (l1 = [] ∧ x = y ∧ l2 = dn) ∨ ∃ l1', l1 = y :: l1' ∧ dn = l1' ++ x :: l2 := by
  cases l1 with
  | nil => simp at h; exact .inl ⟨rfl, h.1.symm, h.2.symm⟩
  | cons z l1 => simp at h; exact .inr ⟨l1, by rw [h.1], h.2⟩

/-- Past an operation that is not wanted. -/
theorem DRel.skip (hO : Order ops c) (d : DRel w0 E N ops c fr0 h0 φ0 log dn (i :: is) fr h L a w φ) (ho : ops[i]? = some o) (hk : Skips ops fr o) :
    DRel w0 E N ops c fr0 h0 φ0 log ((i, undef, h.size) :: dn) is (fr.skip o.dst) h L a w φ := by
  obtain ⟨hL, hn⟩ := d.fresh hO
  refine ⟨by rw [d.split]; simp, ?_, fun j hj => ?_, d.closed, ?_, d.grow, fun l1 x l2 hd hx => ?_⟩
  · simp [CF, dstOf, ho, d.frame, Fr.skip]
  · obtain ⟨x, h1, h2⟩ := d.sub j hj
    exact ⟨x, by simp [h1], h2⟩
  · have : MF ops fr0 L ((i, undef, h.size) :: dn) = MF ops fr0 L dn := by simp [MF, hL]
    rw [this]; exact d.s
  · rcases dn_cons hd with ⟨rfl, rfl, rfl⟩ | ⟨l1', rfl, h2⟩
    · exact ⟨o, ho, .inl ⟨by rw [← d.frame]; exact hk, rfl⟩⟩
    · obtain ⟨o', g1, g2⟩ := d.recs l1' x l2 h2 hx
      refine ⟨o', g1, ?_⟩
      rcases g2 with g | ⟨g1, g2, e, g3, g4⟩
      · exact .inl g
      · refine .inr ⟨g1, g2, e, g3, ?_⟩
        rcases g4 with g | ⟨a1, a2, a3, a4, a5, a6⟩
        · exact .inl g
        · refine .inr ⟨a1, a2, a3, a4, fun y hy => ?_, a6⟩
          simp only [List.mem_cons] at hy
          rcases hy with rfl | hy
          · exact a3
          · exact a5 y hy

/-- Past a light operation. -/
theorem DRel.light (hO : Order ops c) (d : DRel w0 E N ops c fr0 h0 φ0 log dn (i :: is) fr h L a w φ) (ho : ops[i]? = some o) (hk : Runs ops fr o) (hl : heavy o = false) {T : Lg → Value → Heap → Option ρ}
    (e : (hop E o fr h fun v h' => logOf E o fr v h h' fun e => T e v h') = some r) :
    ∃ v e h', T e v h' = some r ∧ DRel w0 E N ops c fr0 h0 φ0 ((i, e) :: log) ((i, v, h.size) :: dn) is (fr.put o.dst v) h' L a w φ := by
  obtain ⟨hL, hn⟩ := d.fresh hO
  have build : ∀ (v : Value) (e : Lg) (h' : Heap), (∀ j, h.get j ≠ .none → h'.get j = h.get j) → h.size ≤ h'.size → Rel w0 φ h' w → Rec E ops fr0 h0 ((i, e) :: log) h' φ [] (i, v, h.size) dn → 
      DRel w0 E N ops c fr0 h0 φ0 ((i, e) :: log) ((i, v, h.size) :: dn) is (fr.put o.dst v) h' L a w φ := by
    intro v e h' hle hsz hrel hrec
    refine ⟨by rw [d.split]; simp, ?_, fun j hj => ?_, d.closed, ?_, d.grow.trans (.same hsz), fun l1 x l2 hd hx => ?_⟩
    · simp [CF, dstOf, ho, d.frame]
    · obtain ⟨x, h1, h2⟩ := d.sub j hj
      exact ⟨x, by simp [h1], h2⟩
    · have : MF ops fr0 L ((i, v, h.size) :: dn) = MF ops fr0 L dn := by simp [MF, hL]
      rw [this]; exact ⟨d.s.f, d.s.n, d.s.d, hrel⟩
    · rcases dn_cons hd with ⟨rfl, rfl, rfl⟩ | ⟨l1', rfl, h2⟩
      · exact hrec
      · obtain ⟨o', g1, g2⟩ := d.recs l1' x l2 h2 hx
        refine ⟨o', g1, ?_⟩
        rcases g2 with g | ⟨g1, g2, e', g3, g4⟩
        · exact .inl g
        · refine .inr ⟨g1, g2, e', by simp [g3], ?_⟩
          rcases g4 with ⟨R, b1, b2, b3, b4⟩ | ⟨a1, a2, a3, a4, a5, cs, esz, mk, a6, a7, a8⟩
          · exact .inl ⟨R, b3 _ _ b1 hle, b2, b3, b4⟩
          · refine .inr ⟨a1, a2, by omega, a4, fun y hy => ?_, cs, esz, mk, a6, by rw [hle _ (by rw [a7]; simp), a7], a8⟩
            simp only [List.mem_cons] at hy
            rcases hy with rfl | hy
            · exact a3
            · exact a5 y hy
  rcases light_cases hl e with ⟨v, R, h1, h2, h3, h4, h5⟩ | ⟨hnew, cs, esz, mk, h1, h2, h3⟩
  · obtain ⟨e, h6, h7⟩ := h5 _ _ _ h1
    refine ⟨v, e, h, h6, build v e h (fun _ _ => rfl) (Nat.le_refl _) d.s.r ⟨o, ho, .inr ⟨by rw [← d.frame]; exact hk, hl, e, by simp, .inl ⟨R, h2, ?_, h4, h7⟩⟩⟩⟩
    rw [← d.frame]; exact h3
  · obtain ⟨e, h6, h7⟩ := h3 _ _ _ h1
    have hfresh : φ h.size = none := fresh_none d.s.r (Nat.le_refl _)
    refine ⟨mk h.size, e, h.push (.cells cs esz false), h6, build _ e _ (push_le d.s.r.wf _) (by simp [Heap.push]) (d.s.r.push _) ⟨o, ho, .inr ⟨by rw [← d.frame]; exact hk, hl, e, by simp, .inr ⟨hnew, d.grow.size, by simp [Heap.push], hfresh, by simp, cs, esz, mk, rfl, push_get _ _, ?_, h7⟩⟩⟩⟩
    rw [← d.frame]; exact h2
end
end Ab
end Go.Proofs.YtaaacaejpchbpaaGreat
