/- Each operation of the abstract heap is met by the machine's: memory and making. No condition. -/
import Derived.Test.YtaaacaejpchbpaaGreatInv
set_option linter.unusedVariables false
set_option linter.unusedSimpArgs false
namespace Go.Proofs.YtaaacaejpchbpaaGreat
namespace Ab
open Go Go.RowKit

def ShOk (d : TypeDesc) : Sh → Prop
  | .int k => d = .int k
  | .bool => d = .bool
  | .str => d = .string
  | .ptr => ∃ e, d = .pointer e
  | .slice e => d = .slice e
  | .array n e => d = .array n e
  | .struct fs => ∃ F : Array Field, d = .struct F ∧ F.toList.map (fun f => (f.offset, f.type)) = fs
  | .map k e => d = .map k e
  | .iface => ∃ m, d = .interface m
  | .tuple ts => d = .tuple ⟨ts⟩
  | .fn => ∃ p q b, d = .func p q b
  | .other => match d with | .unsafePointer | .float _ | .complex _ | .chan .. => True | _ => False
  | .no => False

/-- The table's row of a type says what the program's does. -/
structure Fits (P : Program) (r : TyR) (t : Nat) : Prop where
  info : ∃ i, P.info? t = some i ∧ i.size = r.size ∧ i.bytes = r.bytes ∧ (r.zero.length = r.size → ∃ z, i.zero = some z ∧ z.cells.toList = r.zero)
  u : ∃ d, P.underlying t = some d ∧ ShOk d r.sh
  zok : r.zero.all okA = true
  pos : r.isAgg = true → r.size ≠ 0
  one : r.isAgg = false → r.size = 1
  rc : r.rc % 65536 = r.size ∧ (r.rc / 65536 = 0 ∨ t + 1 = r.rc / 65536)
  vc : r.vc % 65536 = 0 ∧ (r.vc / 65536 = 0 ∨ t + 1 = r.vc / 65536)
  flds : ∀ fs, r.sh = .struct fs → ∀ f ∈ fs, (P.info? f.2).isSome = true

theorem okA_VR (φ : Map) {v : Value} (h : okA v = true) : VR φ v v := by
  unfold okA at h
  split at h <;> first | constructor | cases h
theorem okL_VR (φ : Map) : ∀ {l : List Value}, l.all okA = true → VRs φ l l
  | [], _ => .nil
  | v :: l, h => by simp at h; exact .cons (okA_VR φ h.1) (okL_VR φ (by simpa using h.2))
theorem okC_VR (φ : Map) {v : Value} (h : okC v = true) : VR φ v v := by
  unfold okC at h
  split at h
  · exact .agg (okL_VR φ h)
  · exact okA_VR φ h
theorem VRs.of_get {φ : Map} : ∀ {l l' : List Value}, l'.length = l.length → (∀ (i : Nat) v, l[i]? = some v → ∃ v', l'[i]? = some v' ∧ VR φ v v') → VRs φ l l'
  | [], [], _, _ => .nil
  | v :: l, v' :: l', hl, h => by
    obtain ⟨u, hu, hv⟩ := h 0 v rfl
    simp at hu; subst hu
    exact .cons hv (VRs.of_get (by simpa using hl) fun i x hx => by simpa using h (i + 1) x (by simpa using hx))
theorem VR.cells {φ : Map} {v v' : Value} (h : VR φ v v') : VRs φ v.cells.toList v'.cells.toList := by
  cases h with
  | agg h => exact h
  | bool b => exact .cons (.bool b) .nil
  | int k n => exact .cons (.int k n) .nil
  | str s => exact .cons (.str s) .nil
  | nilp => exact .cons .nilp .nil
  | ptr h => exact .cons (.ptr h) .nil
  | nils => exact .cons .nils .nil
  | sl a b c => exact .cons (.sl a b c) .nil
  | sle h => exact .cons (.sle h) .nil
  | nilm => exact .cons .nilm .nil
  | map h => exact .cons (.map h) .nil
  | nilf => exact .cons .nilf .nil
  | func a b => exact .cons (.func a b) .nil
  | nili => exact .cons .nili .nil
  | iface h => exact .cons (.iface h) .nil
  | tuple h => exact .cons (.tuple h) .nil

theorem add_none (b o n : Nat) : (⟨b, o, none⟩ : Addr).add n = ⟨b, o + n, none⟩ := by unfold Addr.add; split <;> simp_all

section
variable {P : Program}
theorem Fits.run_under {r : TyR} {t : Nat} (f : Fits P r t) (w : World) : ∃ d, (underlying t).run P w = .ok d w ∧ ShOk d r.sh := by
  obtain ⟨d, h, s⟩ := f.u
  exact ⟨d, run_underlying h w, s⟩
theorem Fits.run_isAgg {r : TyR} {t : Nat} (f : Fits P r t) (w : World) : (isAgg t).run P w = .ok r.isAgg w := by
  obtain ⟨d, h, s⟩ := f.u
  unfold isAgg
  rw [Sem.run_bind, run_underlying h w]
  simp only [Result.andThen_ok]
  unfold TyR.isAgg
  cases hs : r.sh <;> rw [hs] at s <;> simp only [ShOk] at s
  case struct fs => obtain ⟨F, rfl, _⟩ := s; rfl
  case ptr => obtain ⟨F, rfl⟩ := s; rfl
  case iface => obtain ⟨F, rfl⟩ := s; rfl
  case fn => obtain ⟨p, q, b, rfl⟩ := s; rfl
  case other => cases d <;> simp_all
  all_goals (subst s; rfl)
theorem Fits.run_info {r : TyR} {t : Nat} (f : Fits P r t) (w : World) : ∃ i, (typeInfo t).run P w = .ok i w ∧ i.size = r.size ∧ i.bytes = r.bytes ∧ (r.zero.length = r.size → ∃ z, i.zero = some z ∧ z.cells.toList = r.zero) := by
  obtain ⟨i, h, a⟩ := f.info
  refine ⟨i, ?_, a⟩
  simp [typeInfo, program, Sem.run, h]
theorem Fits.run_size {r : TyR} {t : Nat} (f : Fits P r t) (w : World) : (sizeOf t).run P w = .ok r.size w := by
  obtain ⟨i, h, a, _⟩ := f.run_info w
  simp [sizeOf, h, a]
theorem Fits.run_zero {r : TyR} {t : Nat} (f : Fits P r t) (hz : r.zero.length = r.size) (w : World) : ∃ z, (zeroValue t).run P w = .ok z w ∧ z.cells.toList = r.zero := by
  obtain ⟨i, h, _, _, a⟩ := f.run_info w
  obtain ⟨z, h1, h2⟩ := a hz
  exact ⟨z, by simp [zeroValue, h, h1], h2⟩

theorem Rel.load {w0 w : World} {φ : Map} {h : Heap} (r : Rel w0 φ h w) {ty : TyR} {t : Nat} (f : Fits P ty t) {i off : Nat} {sp : Option Nat} {l : Loc} (hi : φ i = some l) {v : Value}
    (hl : LdOk ty h ⟨i, off, sp⟩ v) : ∃ v', (loadVar t ⟨l.b, l.o + off, none⟩).run P w = .ok v' w ∧ VR φ v v' := by
  rcases hl with ⟨ha, cs, rfl, hlen, hc⟩ | ⟨ha, hc, _⟩
  · have hcell : ∀ j, j < ty.size → ∃ v', w.cell? ⟨l.b, l.o + off + j, none⟩ = some v' ∧ VR φ (cs.getD j undef) v' := fun j hj => by
      have hj' : cs[j]? = some (cs.getD j undef) := by simp [List.getD, List.getElem?_eq_getElem (show j < cs.length by omega)]
      rw [Nat.add_assoc]
      exact r.cell hi (hc j _ hj')
    have hrun := run_loadCells (P := P) w ⟨l.b, l.o + off, none⟩ ty.size (fun j => (w.cell? ⟨l.b, l.o + off + j, none⟩).getD undef) (fun j hj => by
      obtain ⟨v', h1, _⟩ := hcell j hj
      rw [add_none, h1]; rfl)
    refine ⟨.agg ((List.range ty.size).map fun j => (w.cell? ⟨l.b, l.o + off + j, none⟩).getD undef).toArray, ?_, ?_⟩
    · simp only [loadVar, Sem.run_bind, f.run_isAgg w, Result.andThen_ok, ha, if_true, f.run_size w, hrun]
      rfl
    · refine .agg (VRs.of_get (by simp [hlen]) fun j v hv => ?_)
      have hj : j < cs.length := by
        rcases Nat.lt_or_ge j cs.length with q | q
        · exact q
        · simp [List.getElem?_eq_none q] at hv
      obtain ⟨v', h1, h2⟩ := hcell j (by omega)
      refine ⟨v', ?_, ?_⟩
      · simp [List.getElem?_range (show j < ty.size by omega), h1]
      · have : cs.getD j undef = v := by simp [List.getD, hv]
        rwa [this] at h2
  · obtain ⟨v', h1, h2⟩ := r.cell hi hc
    refine ⟨v', ?_, h2⟩
    simp only [Nat.add_zero] at h1
    simp [loadVar, f.run_isAgg w, ha, h1]

theorem ev_sim {ρ : Type} {r : ρ} {φ : Map} {fr : Fr} {a : Act} (hf : FrRel φ fr a.tmps) {x : Operand} {K : Value → Option ρ} (h : ev fr x K = some r) : ∃ v, VR φ v (a.eval x) ∧ K v = some r := by
  unfold ev at h
  cases x with
  | tmp t =>
    simp only at h
    split at h
    · rename_i v hv
      obtain ⟨v', h1, h2⟩ := hf t v hv
      refine ⟨v, ?_, h⟩
      simp only [Act.eval, Array.getD_eq_getD_getElem?, h1, Option.getD_some]
      exact h2
    · cases h
  | const v =>
    simp only at h
    split at h
    · rename_i hc; exact ⟨v, okC_VR φ hc, h⟩
    · cases h
  | func f => exact ⟨_, .func .nil .nil, h⟩
  | global g => cases h
theorem evL_sim {ρ : Type} {r : ρ} {φ : Map} {fr : Fr} {a : Act} (hf : FrRel φ fr a.tmps) : ∀ {xs : List Operand} {K : List Value → Option ρ}, evL fr xs K = some r →
    ∃ vs, VRs φ vs (xs.map a.eval) ∧ K vs = some r
  | [], K, h => ⟨[], .nil, h⟩
  | x :: xs, K, h => by
    obtain ⟨v, h1, h2⟩ := ev_sim hf h
    obtain ⟨vs, h3, h4⟩ := evL_sim hf (K := fun r => K (v :: r)) h2
    exact ⟨v :: vs, .cons h1 h3, h4⟩

/-- What follows an operation. -/
def Nx (w0 : World) (φ : Map) (h : Heap) (a : Act) (o : Oper) (next : Act → World → Prop) {ρ : Type} (K : Value → Heap → Option ρ) (r : ρ) : Prop :=
  ∀ φ' v v' h' w', Grow h h' φ φ' → VR φ' v v' → Rel w0 φ' h' w' → K v h' = some r → next (a.put o.dst v') w'

theorem wp_value {o : Oper} {a : Act} {w w' : World} {next : Act → World → Prop} {Q : Exit → Act → World → Prop} {v : Value} (h : (execOp a.eval o).run P w = .ok (.value v) w') (hn : next (a.put o.dst v) w') : o.wp P a w next Q := by
  unfold Oper.wp; rw [h]; exact hn
theorem run_val {s : Sem Value} {w w' : World} {v : Value} (h : s.run P w = .ok v w') : (do pure (.value (← s)) : Sem Next).run P w = .ok (.value v) w' := by
  simp [h]

structure TOk (P : Program) (T : Nat → TyR) : Prop where
  fit : ∀ t, (T t).ok = true → Fits P (T t) t
  no : ∀ t, (T t).ok = false → (T t).ks = [] ∧ (T t).sh = .no ∧ (T t).zero.length ≠ (T t).size ∧ (T t).vc = 0
theorem TOk.of_zero {T : Nat → TyR} (h : TOk P T) {t : Nat} (hz : (T t).zero.length = (T t).size) : Fits P (T t) t := by
  refine h.fit t ?_
  cases q : (T t).ok with
  | true => rfl
  | false => exact absurd hz (h.no t q).2.2.1
theorem TOk.of_sh {T : Nat → TyR} (h : TOk P T) {t : Nat} (hs : (T t).sh ≠ .no) : Fits P (T t) t := by
  refine h.fit t ?_
  unfold TyR.ok
  split
  · rename_i q; exact absurd q hs
  · rfl

variable {E : Env} {w0 w : World} {φ : Map} {h : Heap} {fr : Fr} {a : Act} {o : Oper} {next : Act → World → Prop} {Q : Exit → Act → World → Prop} {ρ : Type} {K : Value → Heap → Option ρ} {r : ρ}

theorem VR.toPtr {φ : Map} {p : Option Addr} {v' : Value} (h : VR φ (.pointer p) v') : (p = none ∧ v' = .pointer none) ∨ ∃ i off l, p = some ⟨i, off, none⟩ ∧ φ i = some l ∧ v' = .pointer (some ⟨l.b, l.o + off, none⟩) := by
  cases h with
  | nilp => exact .inl ⟨rfl, rfl⟩
  | ptr h => exact .inr ⟨_, _, _, rfl, h, rfl⟩

theorem TOk.ld {T : Nat → TyR} (hT : TOk P T) {t : Nat} {p : Option Addr} {K : Value → Option ρ} (e : ldTy (T t) h p K = some r) : Fits P (T t) t ∧ ∃ a v, p = some a ∧ LdOk (T t) h a v ∧ K v = some r := by
  cases hs : (T t).ok with
  | true => exact ⟨hT.fit t hs, ldTy_some e (hT.fit t hs).pos⟩
  | false =>
    have hag : (T t).isAgg = false := by simp [TyR.isAgg, (hT.no t hs).2.1]
    obtain ⟨a, v, _, hl, _⟩ := ldTy_some e (by simp [hag])
    rcases hl with ⟨q, _⟩ | ⟨_, _, q⟩
    · rw [hag] at q; cases q
    · exact absurd (hT.no t hs).1 q

theorem sim_load (hT : TOk P E.T) (hf : FrRel φ fr a.tmps) (hr : Rel w0 φ h w) {t : Nat} {x : Operand} (ho : o.op = .load t x)
    (hK : Nx w0 φ h a o next K r) (e : hop E o fr h K = some r) : o.wp P a w next Q := by
  unfold hop at e
  simp only [ho] at e
  obtain ⟨v, hv, e1⟩ := ev_sim hf e
  obtain ⟨p, rfl, e2⟩ := cP_some e1
  obtain ⟨f, a', v, rfl, hl, e3⟩ := hT.ld e2
  rcases hv.toPtr with ⟨h1, _⟩ | ⟨i, off, l, h1, hi, h2⟩
  · cases h1
  · cases h1
    obtain ⟨v', h3, h4⟩ := hr.load f hi hl
    refine wp_value (v := v') (w' := w) ?_ (hK φ v v' h w .same h4 hr e3)
    unfold execOp
    simp only [ho, h2]
    exact run_val (by simp [Instr.loadAt, Instr.sureAddr, h3])

theorem VR.undef (φ : Map) : VR φ undef undef := .tuple .nil

theorem sim_store (hT : TOk P E.T) (hf : FrRel φ fr a.tmps) (hr : Rel w0 φ h w) {t : Nat} {x y : Operand} (ho : o.op = .store t x y)
    (hK : Nx w0 φ h a o next K r) (e : hop E o fr h K = some r) : o.wp P a w next Q := by
  unfold hop at e
  simp only [ho] at e
  obtain ⟨v, hv, e1⟩ := ev_sim hf e
  obtain ⟨p, rfl, e2⟩ := cP_some e1
  obtain ⟨u, hu, e3⟩ := ev_sim hf e2
  obtain ⟨⟨hok, hlen⟩, e4⟩ := ite_some e3
  obtain ⟨a', cs, es, rfl, hg, hb, h1, e5⟩ := st_some e4
  have f := hT.fit t hok
  rcases hv.toPtr with ⟨hh, _⟩ | ⟨i, off, l, hh, hi, h2⟩
  · cases hh
  · cases hh
    obtain ⟨hrun, hrel⟩ := hr.store P hi hg hb h1 hu.cells
    have hsz : (a.eval y).cells.size = (E.T t).size := by
      have := hu.cells.length
      simp at this hlen
      omega
    have : (execOp a.eval o).run P w = .ok .skip (w.setCells l.b (l.o + off) (a.eval y).cells.toList) := by
      unfold execOp
      simp only [ho, h2]
      simp [Instr.storeAt, Instr.sureAddr, storeVar, f.run_size w, hsz, hrun]
    unfold Oper.wp
    rw [this]
    exact hK φ undef undef _ _ .same (VR.undef φ) hrel e5

theorem fresh_none {i : Nat} (hr : Rel w0 φ h w) (hi : h.size ≤ i) : φ i = none := by
  cases q : φ i with
  | none => rfl
  | some l => have := hr.dom i l q; omega
theorem push_get (h : Heap) (o : HObj) : (h.push o).get h.size = o := by simp [Heap.push]
theorem push_old (h : Heap) (o : HObj) {j : Nat} (hj : j ≠ h.size) : (h.push o).get j = h.get j := by simp [Heap.push, hj]

/-- A new object behind a new block: the abstract heap pushes, the machine lays a block. -/
theorem Rel.fresh (hr : Rel w0 φ h w) (cs : List Value) (e : Nat) (C : Array Value) (t : TypeId) (x M : Nat) (hv : VRs φ cs (C.toList.take cs.length)) (hM : M ≤ C.size) (hX : e % 65536 = 0 → x = 0) (hG : Tag e t C.size cs.length 0) :
    ∃ φ', Grow h (h.push (.cells cs e false)) φ φ' ∧ φ' h.size = some ⟨w.heap.size, 0, x, e % 65536, M⟩ ∧ Rel w0 φ' (h.push (.cells cs e false)) { w with heap := w.heap.push (.cells C t) } := by
  obtain ⟨φ', h1, h2, h3, h4⟩ := hr.alloc h.size (h.push (.cells cs e false)) (.cells C t) x (e % 65536) M (fresh_none hr (Nat.le_refl _)) (fun j hj _ => .inl (push_old h _ hj)) (by simp [Heap.push]) (by simp [Heap.push]) (hr.wf.push _)
    (fun φ' he => by
      rw [push_get]
      exact ⟨hv.mono he, ⟨rfl, hX⟩, hG, fun _ => ⟨hr.below.size, fun o _ => by simp, by simpa using hM⟩⟩)
  exact ⟨φ', .of h1 (by simp [Heap.push]) (Nat.le_refl _) h3, h2, h4⟩
theorem run_newRow (w : World) (t : TypeId) (C : Array Value) : (newRow t C).run P w = .ok ⟨w.heap.size, 0, none⟩ { w with heap := w.heap.push (.cells C t) } := by
  simp [newRow, newObj, Sem.run]

theorem VRs.all {φ : Map} {cs : List Value} {C : List Value} (h : VRs φ cs C) : VRs φ cs (C.take cs.length) := by
  rw [List.take_of_length_le (by have := h.length; omega)]; exact h

theorem Fits.tagV {r : TyR} {t s n : Nat} (f : Fits P r t) (h : s = n) : Tag r.vc t s n 0 := by
  rcases f.vc.2 with q | q
  · exact .inl q
  · exact .inr ⟨q, fun _ => ⟨rfl, h⟩⟩
theorem TOk.tagV {T : Nat → TyR} (hT : TOk P T) {t s n : Nat} (h : s = n) : Tag (T t).vc t s n 0 := by
  cases q : (T t).ok with
  | true => exact (hT.fit t q).tagV h
  | false => left; rw [(hT.no t q).2.2.2]
theorem Fits.tagR {r : TyR} {t s n o : Nat} (f : Fits P r t) (h : r.size ≠ 0 ∨ (o = 0 ∧ s = n)) : Tag r.rc t s n o := by
  rcases f.rc.2 with q | q
  · exact .inl q
  · exact .inr ⟨q, fun h0 => by rcases h with h | h; (exact absurd (f.rc.1.symm.trans h0) h); exact h⟩

theorem sim_alloc (hT : TOk P E.T) (hr : Rel w0 φ h w) {t : Nat} (ho : o.op = .alloc t)
    (hK : Nx w0 φ h a o next K r) (e : hop E o fr h K = some r) : o.wp P a w next Q := by
  unfold hop at e
  simp only [ho] at e
  obtain ⟨⟨hok, hz⟩, e1⟩ := ite_some e
  have f := hT.fit t hok
  obtain ⟨z, hz1, hz2⟩ := f.run_zero hz w
  obtain ⟨φ', h1, h2, h3⟩ := hr.fresh (E.T t).zero (E.T t).vc z.cells t 0 0 (by rw [hz2]; exact (okL_VR φ f.zok).all) (by simp) (fun _ => rfl) (f.tagV (by rw [← hz2]; simp))
  refine wp_value (v := .pointer (some ⟨w.heap.size, 0, none⟩)) ?_ (hK φ' _ _ _ _ h1 (.ptr h2) h3 e1)
  unfold execOp
  simp only [ho]
  exact run_val (by simp [Instr.alloc, hz1, newVar, run_newRow])

theorem sim_box (hT : TOk P E.T) (hf : FrRel φ fr a.tmps) (hr : Rel w0 φ h w) {t : Nat} {x : Operand} (ho : o.op = .box t x)
    (hK : Nx w0 φ h a o next K r) (e : hop E o fr h K = some r) : o.wp P a w next Q := by
  unfold hop at e
  simp only [ho] at e
  obtain ⟨v, hv, e1⟩ := ev_sim hf e
  obtain ⟨φ', h1, h2, h3⟩ := hr.fresh v.cells.toList (E.T t).vc (a.eval x).cells t 0 0 hv.cells.all (by simp) (fun _ => rfl) (hT.tagV (by have := hv.cells.length; simpa using this))
  refine wp_value (v := .pointer (some ⟨w.heap.size, 0, none⟩)) ?_ (hK φ' _ _ _ _ h1 (.ptr h2) h3 e1)
  unfold execOp
  simp only [ho]
  exact run_val (by simp [Instr.box, newVar, run_newRow])

theorem sim_move (hf : FrRel φ fr a.tmps) (hr : Rel w0 φ h w) {x : Operand} (ho : o.op = .move x ∨ o.op = .assign x)
    (hK : Nx w0 φ h a o next K r) (e : hop E o fr h K = some r) : o.wp P a w next Q := by
  unfold hop at e
  have hx : (execOp a.eval o).run P w = .ok (.value (a.eval x)) w := by
    unfold execOp
    rcases ho with ho | ho <;> simp [ho]
  rcases ho with ho | ho <;> (simp only [ho] at e; obtain ⟨v, hv, e1⟩ := ev_sim hf e; exact wp_value hx (hK φ _ _ _ _ .same hv hr e1))

theorem VR.toBool {b : Bool} {v' : Value} (h : VR φ (.bool b) v') : v' = .bool b := by cases h; rfl
theorem VR.toInt {k : IntKind} {n : Int} {v' : Value} (h : VR φ (.int k n) v') : v' = .int k n := by cases h; rfl
theorem VR.toStr {s : ByteArray} {v' : Value} (h : VR φ (.string s) v') : v' = .string s := by cases h; rfl
theorem VR.toAgg {c : Array Value} {v' : Value} (h : VR φ (.agg c) v') : ∃ c', v' = .agg c' ∧ VRs φ c.toList c'.toList := by cases h; exact ⟨_, rfl, by assumption⟩
theorem VR.toTuple {c : Array Value} {v' : Value} (h : VR φ (.tuple c) v') : ∃ c', v' = .tuple c' ∧ VRs φ c.toList c'.toList := by cases h; exact ⟨_, rfl, by assumption⟩
theorem VR.toIface {t : TypeId} {c v' : Value} (h : VR φ (.iface t c) v') : ∃ c', v' = .iface t c' ∧ VR φ c c' := by cases h; exact ⟨_, rfl, by assumption⟩
theorem VR.toFunc {f : Fn} {x y : Array Value} {v' : Value} (h : VR φ (.func f x y) v') : ∃ x' y', v' = .func f x' y' ∧ VRs φ x.toList x'.toList ∧ VRs φ y.toList y'.toList := by cases h; exact ⟨_, _, rfl, by assumption, by assumption⟩

theorem sim_pick (hf : FrRel φ fr a.tmps) (hr : Rel w0 φ h w) {c x y : Operand} (ho : o.op = .pick c x y)
    (hK : Nx w0 φ h a o next K r) (e : hop E o fr h K = some r) : o.wp P a w next Q := by
  unfold hop at e
  simp only [ho] at e
  obtain ⟨v, hv, e1⟩ := ev_sim hf e
  obtain ⟨b, rfl, e2⟩ := cB_some e1
  have hc := hv.toBool
  rcases cond_some e2 with ⟨rfl, e3⟩ | ⟨rfl, e3⟩ <;> obtain ⟨u, hu, e4⟩ := ev_sim hf e3
  · refine wp_value (v := a.eval x) (w' := w) ?_ (hK φ _ _ _ _ .same hu hr e4)
    unfold execOp
    simp [ho, hc, asBool]
  · refine wp_value (v := a.eval y) (w' := w) ?_ (hK φ _ _ _ _ .same hu hr e4)
    unfold execOp
    simp [ho, hc, asBool]

theorem sim_nil (hf : FrRel φ fr a.tmps) (hr : Rel w0 φ h w) {x : Operand} (ho : o.op = .nilCheck x)
    (hK : Nx w0 φ h a o next K r) (e : hop E o fr h K = some r) : o.wp P a w next Q := by
  unfold hop at e
  simp only [ho] at e
  obtain ⟨v, hv, e1⟩ := ev_sim hf e
  split at e1
  · rename_i p
    obtain ⟨a', rfl, e2⟩ := nn_some e1
    rcases hv.toPtr with ⟨hh, _⟩ | ⟨i, off, l, hh, hi, h2⟩
    · cases hh
    · refine wp_value (v := a.eval x) (w' := w) ?_ (hK φ _ _ _ _ .same hv hr e2)
      unfold execOp
      simp [ho, h2]
  · obtain ⟨hc, e2⟩ := cnn_some e1
    rcases hc with ⟨t, u, rfl⟩ | ⟨f, x1, y1, rfl⟩
    · obtain ⟨c', hc, _⟩ := hv.toIface
      refine wp_value (v := a.eval x) (w' := w) ?_ (hK φ _ _ _ _ .same hv hr e2)
      unfold execOp
      simp [ho, hc]
    · obtain ⟨x', y', hc, _, _⟩ := hv.toFunc
      refine wp_value (v := a.eval x) (w' := w) ?_ (hK φ _ _ _ _ .same hv hr e2)
      unfold execOp
      simp [ho, hc]
end
end Ab
end Go.Proofs.YtaaacaejpchbpaaGreat
