/- How the abstract heap stands to the machine's memory: the relation of values and of worlds, and what each step on memory does to it. No condition. -/
import Derived.Test.YtaaacaejpchbpaaGreatAb
import Derived.Below
import Derived.Laws.IdiomCopy
import Derived.Laws.Rows
import Derived.Laws.Sem
import Derived.Laws.Cells
set_option linter.unusedVariables false
set_option linter.unusedSimpArgs false
namespace Go.Proofs.YtaaacaejpchbpaaGreat
namespace Ab
open Go Go.RowKit

/-- Where an object lies: its block, from which cell on, how many elements more the machine's row may take, how many cells an element has, and how many cells there are from there on. -/
structure Loc where
  b : Nat
  o : Nat
  x : Nat
  e : Nat
  M : Nat
abbrev Map := Nat → Option Loc
def Ext (φ φ' : Map) : Prop := ∀ i l, φ i = some l → φ' i = some l
theorem Ext.refl (φ : Map) : Ext φ φ := fun _ _ h => h
/-- What a step does to the map and the heap's size. -/
structure Grow (h h' : Heap) (φ φ' : Map) : Prop where
  ext : Ext φ φ'
  size : h.size ≤ h'.size
  keep : ∀ i, i < h.size → φ i = none → φ' i = none
theorem Grow.same {h h' : Heap} {φ : Map} (hs : h.size ≤ h'.size := by exact Nat.le_refl _) : Grow h h' φ φ := ⟨fun _ _ h => h, hs, fun _ _ q => q⟩
theorem Ext.trans {a b c : Map} (h : Ext a b) (k : Ext b c) : Ext a c := fun i l e => k i l (h i l e)

theorem Grow.trans {h h' h2 : Heap} {a b c : Map} (x : Grow h h' a b) (y : Grow h' h2 b c) : Grow h h2 a c :=
  ⟨x.ext.trans y.ext, Nat.le_trans x.size y.size, fun i hi q => y.keep i (Nat.lt_of_lt_of_le hi x.size) (x.keep i hi q)⟩
theorem Grow.of {h h' : Heap} {a b : Map} {i : Nat} (e : Ext a b) (hs : h.size ≤ h'.size) (hi : h.size ≤ i) (hj : ∀ j, j ≠ i → b j = a j) : Grow h h' a b :=
  ⟨e, hs, fun j hl q => by rw [hj j (by omega)]; exact q⟩

mutual
inductive VR (φ : Map) : Value → Value → Prop
  | bool (b : Bool) : VR φ (.bool b) (.bool b)
  | int (k : IntKind) (n : Int) : VR φ (.int k n) (.int k n)
  | str (s : ByteArray) : VR φ (.string s) (.string s)
  | nilp : VR φ (.pointer none) (.pointer none)
  | ptr {i off : Nat} {l : Loc} : φ i = some l → VR φ (.pointer (some ⟨i, off, none⟩)) (.pointer (some ⟨l.b, l.o + off, none⟩))
  | nils : VR φ (.slice none 0 0) (.slice none 0 0)
  | sl {i off n c : Nat} {l : Loc} : φ i = some l → n ≤ c → (l.x = 0 ∨ off + (c + l.x) * l.e ≤ l.M) → VR φ (.slice (some ⟨i, off, none⟩) n c) (.slice (some ⟨l.b, l.o + off, none⟩) n (c + l.x))
  | sle {i off z : Nat} {a : Addr} {c : Nat} : (c = 0 ∨ ∃ k l, φ i = some l ∧ a = ⟨l.b, l.o + k, none⟩ ∧ k + c * l.e ≤ l.M) → VR φ (.slice (some ⟨i, off, some z⟩) 0 0) (.slice (some a) 0 c)
  | nilm : VR φ (.map none) (.map none)
  | map {i : Nat} {l : Loc} : φ i = some l → VR φ (.map (some i)) (.map (some l.b))
  | nilf : VR φ .nilFunc .nilFunc
  | func {fn : Fn} {a b a' b' : Array Value} : VRs φ a.toList a'.toList → VRs φ b.toList b'.toList → VR φ (.func fn a b) (.func fn a' b')
  | nili : VR φ .nilIface .nilIface
  | iface {t : TypeId} {v v' : Value} : VR φ v v' → VR φ (.iface t v) (.iface t v')
  | agg {a a' : Array Value} : VRs φ a.toList a'.toList → VR φ (.agg a) (.agg a')
  | tuple {a a' : Array Value} : VRs φ a.toList a'.toList → VR φ (.tuple a) (.tuple a')
inductive VRs (φ : Map) : List Value → List Value → Prop
  | nil : VRs φ [] []
  | cons {v v' : Value} {l l' : List Value} : VR φ v v' → VRs φ l l' → VRs φ (v :: l) (v' :: l')
end

mutual
theorem VR.mono {φ φ' : Map} (e : Ext φ φ') : ∀ {v v' : Value}, VR φ v v' → VR φ' v v'
  | _, _, .bool b => .bool b
  | _, _, .int k n => .int k n
  | _, _, .str s => .str s
  | _, _, .nilp => .nilp
  | _, _, .ptr h => .ptr (e _ _ h)
  | _, _, .nils => .nils
  | _, _, .sl h a b => .sl (e _ _ h) a b
  | _, _, .sle h => .sle (h.imp id fun ⟨k, l, a, b⟩ => ⟨k, l, e _ _ a, b⟩)
  | _, _, .nilm => .nilm
  | _, _, .map h => .map (e _ _ h)
  | _, _, .nilf => .nilf
  | _, _, .func a b => .func (VRs.mono e a) (VRs.mono e b)
  | _, _, .nili => .nili
  | _, _, .iface h => .iface (VR.mono e h)
  | _, _, .agg h => .agg (VRs.mono e h)
  | _, _, .tuple h => .tuple (VRs.mono e h)
theorem VRs.mono {φ φ' : Map} (e : Ext φ φ') : ∀ {v v' : List Value}, VRs φ v v' → VRs φ' v v'
  | _, _, .nil => .nil
  | _, _, .cons h t => .cons (VR.mono e h) (VRs.mono e t)
end

theorem VRs.length {φ : Map} : ∀ {l l' : List Value}, VRs φ l l' → l'.length = l.length
  | _, _, .nil => rfl
  | _, _, .cons _ t => by simp [VRs.length t]
theorem VRs.get {φ : Map} : ∀ {l l' : List Value} (i : Nat) {v : Value}, VRs φ l l' → l[i]? = some v → ∃ v', l'[i]? = some v' ∧ VR φ v v'
  | _, _, i, v, .nil, h => by simp at h
  | _, _, 0, v, .cons a t, h => ⟨_, rfl, by simp at h; exact h ▸ a⟩
  | _, _, i + 1, v, .cons a t, h => by simpa using VRs.get i t (by simpa using h)
theorem VRs.append {φ : Map} : ∀ {l l' m m' : List Value}, VRs φ l l' → VRs φ m m' → VRs φ (l ++ m) (l' ++ m')
  | _, _, _, _, .nil, h => h
  | _, _, _, _, .cons a t, h => .cons a (VRs.append t h)
theorem VRs.drop {φ : Map} : ∀ (n : Nat) {l l' : List Value}, VRs φ l l' → VRs φ (l.drop n) (l'.drop n)
  | 0, _, _, h => h
  | n + 1, _, _, .nil => by simpa using .nil
  | n + 1, _, _, .cons _ t => by simpa using VRs.drop n t
theorem VRs.take {φ : Map} : ∀ (n : Nat) {l l' : List Value}, VRs φ l l' → VRs φ (l.take n) (l'.take n)
  | 0, _, _, h => by simpa using .nil
  | n + 1, _, _, .nil => by simpa using .nil
  | n + 1, _, _, .cons a t => by simpa using .cons a (VRs.take n t)
theorem VRs.set {φ : Map} : ∀ {l l' : List Value} (i : Nat) {v v' : Value}, VRs φ l l' → VR φ v v' → VRs φ (l.set i v) (l'.set i v')
  | _, _, _, _, _, .nil, _ => by simpa using .nil
  | _, _, 0, _, _, .cons a t, h => by simpa using .cons h t
  | _, _, i + 1, _, _, .cons a t, h => by simpa using .cons a (VRs.set i t h)
theorem VRs.setL {φ : Map} : ∀ {vs vs' : List Value} {l l' : List Value} (i : Nat), VRs φ l l' → VRs φ vs vs' → VRs φ (setL l i vs) (Ab.setL l' i vs')
  | _, _, _, _, _, h, .nil => by simpa [Ab.setL] using h
  | _, _, _, _, i, h, .cons a t => by simpa [Ab.setL] using VRs.setL (i + 1) (VRs.set i h a) t
theorem setL_length : ∀ (vs l : List Value) (i : Nat), (setL l i vs).length = l.length
  | [], l, i => rfl
  | v :: vs, l, i => by simp [setL, setL_length vs]
theorem setL_take : ∀ (vs l : List Value) (i m : Nat), i + vs.length ≤ m → (setL l i vs).take m = setL (l.take m) i vs
  | [], l, i, m, h => rfl
  | v :: vs, l, i, m, h => by
    simp only [setL]
    rw [setL_take vs _ _ m (by simp at h; omega), List.take_set]
theorem setL_drop : ∀ (vs l : List Value) (k i : Nat), (setL l (k + i) vs).drop k = setL (l.drop k) i vs
  | [], l, k, i => rfl
  | v :: vs, l, k, i => by
    simp only [setL]
    rw [show k + i + 1 = k + (i + 1) by omega, setL_drop vs _ k (i + 1), List.drop_set, if_neg (by omega), show k + i - k = i by omega]
theorem VRs.rep {φ : Map} {z z' : List Value} (h : VRs φ z z') : ∀ n, VRs φ (repL n z) (repL n z')
  | 0 => .nil
  | n + 1 => VRs.append h (VRs.rep h n)

/-- The frame: each slot that is known holds the machine's value. -/
def FrRel (φ : Map) (fr : Fr) (t : Array Value) : Prop := ∀ s v, fr s = some v → ∃ v', t[s]? = some v' ∧ VR φ v v'
theorem FrRel.mono {φ φ' : Map} (e : Ext φ φ') {fr : Fr} {t : Array Value} (h : FrRel φ fr t) : FrRel φ' fr t := fun s v hs => by
  obtain ⟨v', a, b⟩ := h s v hs; exact ⟨v', a, b.mono e⟩

def live (o : HObj) : Prop := o ≠ .none
def ro (o : HObj) : Prop := ∃ cs e, o = .cells cs e true

/-- What a code tells of a block's type. -/
def Tag (e t : Nat) (size n o : Nat) : Prop := e / 65536 = 0 ∨ (t + 1 = e / 65536 ∧ (e % 65536 = 0 → o = 0 ∧ size = n))
/-- What an object of the abstract heap says of the block that bears it. -/
def ObjRel (w0 : World) (φ : Map) (l : Loc) : HObj → Obj → Prop
  | .none, _ => True
  | .cells cs e r, .cells C t fz => VRs φ cs ((C.toList.drop l.o).take cs.length) ∧ (l.e = e % 65536 ∧ (e % 65536 = 0 → l.x = 0)) ∧ Tag e t C.size cs.length l.o ∧
    (r = false → w0.heap.size ≤ l.b ∧ (∀ o, o < C.size → ¬ (fz.1 ≤ o ∧ o < fz.2)) ∧ l.o + l.M ≤ C.size)
  | .map es, .map E _ => VRs φ (es.map (·.1)) (E.toList.map (·.key)) ∧ VRs φ (es.map (·.2)) (E.toList.map (·.val)) ∧ w0.heap.size ≤ l.b
  | _, _ => False

theorem ObjRel.mono {w0 : World} {φ φ' : Map} {l : Loc} {o : HObj} {O : Obj} (e : Ext φ φ') (h : ObjRel w0 φ l o O) : ObjRel w0 φ' l o O := by
  cases o with
  | none => trivial
  | cells cs es r => cases O <;> first | exact h.elim | exact ⟨h.1.mono e, h.2⟩
  | map es => cases O <;> first | exact h.elim | exact ⟨h.1.mono e, h.2.1.mono e, h.2.2⟩

def WF (h : Heap) : Prop := ∀ i, h.size ≤ i → h.get i = .none
theorem WF.push {h : Heap} (x : WF h) (o : HObj) : WF (h.push o) := by
  intro i hi
  simp only [Heap.push] at hi ⊢
  rw [if_neg (by omega)]
  exact x i (by omega)
theorem WF.put {h : Heap} (x : WF h) {j : Nat} (hj : j < h.size) (o : HObj) : WF (h.put j o) := by
  intro i hi
  simp only [Heap.put] at hi ⊢
  rw [if_neg (by omega)]
  exact x i hi
theorem WF.lt {h : Heap} (x : WF h) {j : Nat} (hj : h.get j ≠ .none) : j < h.size := by
  rcases Nat.lt_or_ge j h.size with q | q
  · exact q
  · exact absurd (x j q) hj
structure Rel (w0 : World) (φ : Map) (h : Heap) (w : World) : Prop where
  wf : WF h
  below : Below w0.heap.size w0 w
  dom : ∀ i l, φ i = some l → i < h.size
  obj : ∀ i l, φ i = some l → ∃ O, w.heap[l.b]? = some O ∧ ObjRel w0 φ l (h.get i) O
  inj : ∀ i j li lj, i ≠ j → φ i = some li → φ j = some lj → live (h.get i) → live (h.get j) → li.b = lj.b → ro (h.get i) ∧ ro (h.get j)

theorem Rel.drew {w0 w : World} {φ : Map} {h : Heap} (r : Rel w0 φ h w) : Rel w0 φ h { w with drawn := w.drawn + 1 } :=
  ⟨r.wf, ⟨r.below.os, r.below.tape, r.below.output, r.below.size, r.below.block⟩, r.dom, r.obj, r.inj⟩
theorem Rel.lt {w0 w : World} {φ : Map} {h : Heap} (r : Rel w0 φ h w) {i : Nat} {l : Loc} (hi : φ i = some l) : l.b < w.heap.size := by
  obtain ⟨O, hw, _⟩ := r.obj i l hi
  rcases Nat.lt_or_ge l.b w.heap.size with q | q
  · exact q
  · simp [Array.getElem?_eq_none q] at hw
theorem Rel.cells {w0 w : World} {φ : Map} {h : Heap} (r : Rel w0 φ h w) {i : Nat} {l : Loc} {cs : List Value} {e : Nat} {q : Bool} (hi : φ i = some l) (hg : h.get i = .cells cs e q) :
    ∃ C t fz, w.heap[l.b]? = some (.cells C t fz) ∧ VRs φ cs ((C.toList.drop l.o).take cs.length) ∧ (l.e = e % 65536 ∧ (e % 65536 = 0 → l.x = 0)) ∧ Tag e t C.size cs.length l.o ∧ (q = false → w0.heap.size ≤ l.b ∧ (∀ o, o < C.size → ¬ (fz.1 ≤ o ∧ o < fz.2)) ∧ l.o + l.M ≤ C.size) := by
  obtain ⟨O, hw, ho⟩ := r.obj i l hi
  rw [hg] at ho
  cases O <;> first | exact ho.elim | exact ⟨_, _, _, hw, ho⟩

theorem take_len {φ : Map} {cs : List Value} {C : Array Value} {o : Nat} (h : VRs φ cs ((C.toList.drop o).take cs.length)) : cs.length = 0 ∨ o + cs.length ≤ C.size := by
  have := h.length
  simp at this
  omega

/-- A cell that is read. -/
theorem Rel.cell {w0 w : World} {φ : Map} {h : Heap} (r : Rel w0 φ h w) {i off j : Nat} {l : Loc} {sp : Option Nat} (hi : φ i = some l) {v : Value} (hc : cellAt h ⟨i, off, sp⟩ j = some v) :
    ∃ v', w.cell? ⟨l.b, l.o + (off + j), none⟩ = some v' ∧ VR φ v v' := by
  unfold cellAt at hc
  split at hc
  · rename_i cs e q hg
    obtain ⟨C, t, fz, hw, hv, _⟩ := r.cells hi hg
    obtain ⟨v', h1, h2⟩ := hv.get (off + j) hc
    refine ⟨v', ?_, h2⟩
    have hlt : off + j < cs.length := by
      rcases Nat.lt_or_ge (off + j) cs.length with q | q
      · exact q
      · simp [List.getElem?_eq_none q] at hc
    rw [List.getElem?_take_of_lt hlt, List.getElem?_drop] at h1
    simp only [World.cell?, hw]
    simpa using h1
  · simp at hc

/-- One block of the call's own is turned (or made), and one object with it; others may die. -/
theorem Rel.turn {w0 w : World} {φ : Map} {h : Heap} (r : Rel w0 φ h w) (i : Nat) (l : Loc) (h' : Heap) (w' : World) (O : Obj)
    (hi : φ i = none ∨ ∃ l0, φ i = some l0 ∧ l0.b = l.b) (hib : φ i = none → ∀ j lj, φ j = some lj → live (h'.get j) → j ≠ i → lj.b ≠ l.b)
    (hlive : (∃ l0, φ i = some l0) → live (h.get i) ∧ ¬ ro (h.get i)) (hl : ∀ l0, φ i = some l0 → l0 = l)
    (hoth : ∀ j, j ≠ i → φ j ≠ none → h'.get j = h.get j ∨ h'.get j = .none) (hsz : h.size ≤ h'.size) (hlt : i < h'.size)
    (hB : w0.heap.size ≤ l.b) (hW : Below w0.heap.size w w') (hO : w'.heap[l.b]? = some O)
    (hblk : ∀ b, b ≠ l.b → b < w.heap.size → w'.heap[b]? = w.heap[b]?) (hex : ∀ j lj, φ j = some lj → lj.b = l.b → j ≠ i → h'.get j = .none ∨ False)
    (hwf : WF h') (hrel : ∀ φ', Ext φ φ' → φ' i = some l → ObjRel w0 φ' l (h'.get i) O) :
    ∃ φ', Ext φ φ' ∧ φ' i = some l ∧ (∀ j, j ≠ i → φ' j = φ j) ∧ Rel w0 φ' h' w' := by
  refine ⟨fun j => if j = i then some l else φ j, ?_, by simp, fun j hj => by simp [hj], ?_⟩
  · intro j lj hj
    by_cases q : j = i
    · subst q; simp [hl lj hj]
    · simpa [q] using hj
  · have he : Ext φ (fun j => if j = i then some l else φ j) := by
      intro j lj hj
      by_cases q : j = i
      · subst q; simp [hl lj hj]
      · simpa [q] using hj
    refine ⟨hwf, r.below.trans hW, ?_, ?_, ?_⟩
    · intro j lj hj
      by_cases q : j = i
      · omega
      · have := r.dom j lj (by simpa [q] using hj)
        omega
    · intro j lj hj
      by_cases q : j = i
      · subst q
        simp at hj; subst hj
        exact ⟨O, hO, hrel _ he (by simp)⟩
      · have hj' : φ j = some lj := by simpa [q] using hj
        by_cases hb : lj.b = l.b
        · rcases hex j lj hj' hb q with hq | hq
          · rw [hq]; exact ⟨O, by rw [hb]; exact hO, trivial⟩
          · exact hq.elim
        · obtain ⟨O', hw, ho⟩ := r.obj j lj hj'
          refine ⟨O', by rw [hblk _ hb (r.lt hj')]; exact hw, ?_⟩
          rcases hoth j q (by simp [hj']) with hq | hq
          · rw [hq]; exact ho.mono he
          · rw [hq]; trivial
    · intro a b la lb hab ha hb hla hlb hbk
      by_cases qa : a = i
      · subst qa
        have hba : b ≠ a := fun e => hab e.symm
        have hb' : φ b = some lb := by simpa [hba] using hb
        simp at ha; subst ha
        rcases hex b lb hb' hbk.symm (fun e => hab e.symm) with hq | hq
        · exact absurd hq hlb
        · exact hq.elim
      · by_cases qb : b = i
        · subst qb
          have ha' : φ a = some la := by simpa [qa] using ha
          simp at hb; subst hb
          rcases hex a la ha' hbk qa with hq | hq
          · exact absurd hq hla
          · exact hq.elim
        · have ha' : φ a = some la := by simpa [qa] using ha
          have hb' : φ b = some lb := by simpa [qb] using hb
          rcases hoth a qa (by simp [ha']) with hq | hq
          · rcases hoth b qb (by simp [hb']) with hp | hp
            · rw [hq] at hla ⊢
              rw [hp] at hlb ⊢
              exact r.inj a b la lb hab ha' hb' hla hlb hbk
            · exact absurd hp hlb
          · exact absurd hq hla

/-- A new object, and a new block. -/
theorem Rel.alloc {w0 w : World} {φ : Map} {h : Heap} (r : Rel w0 φ h w) (i : Nat) (h' : Heap) (O : Obj) (x e M : Nat) (hn : φ i = none)
    (hoth : ∀ j, j ≠ i → φ j ≠ none → h'.get j = h.get j ∨ h'.get j = .none) (hsz : h.size ≤ h'.size) (hlt : i < h'.size) (hwf : WF h')
    (hrel : ∀ φ', Ext φ φ' → ObjRel w0 φ' ⟨w.heap.size, 0, x, e, M⟩ (h'.get i) O) :
    ∃ φ', Ext φ φ' ∧ φ' i = some ⟨w.heap.size, 0, x, e, M⟩ ∧ (∀ j, j ≠ i → φ' j = φ j) ∧ Rel w0 φ' h' { w with heap := w.heap.push O } := by
  refine r.turn i ⟨w.heap.size, 0, x, e, M⟩ h' _ O (.inl hn) ?_ ?_ ?_ hoth hsz hlt r.below.size ?_ (by simp) ?_ ?_ hwf (fun φ' e _ => hrel φ' e)
  · intro _ j lj hj _ _
    have := r.lt hj
    simp; omega
  · rintro ⟨l0, h0⟩; rw [hn] at h0; cases h0
  · intro l0 h0; rw [hn] at h0; cases h0
  · exact ⟨rfl, rfl, rfl, by simp, fun k hk => by
      have := r.below.size
      simp only [Array.getElem?_push]; rw [if_neg (by omega)]⟩
  · intro b hb hlt'
    simp only [Array.getElem?_push]; rw [if_neg (by simp at hb; omega)]
  · intro j lj hj hb
    have := r.lt hj
    simp at hb; omega

/- stores -/
theorem setCells_heap (b : Nat) (t : TypeId) (fz : Nat × Nat) : ∀ (vs : List Value) (o : Nat) (w : World) (C : Array Value), w.heap[b]? = some (.cells C t fz) →
    ∃ C' : Array Value, (w.setCells b o vs).heap[b]? = some (.cells C' t fz) ∧ C'.toList = setL C.toList o vs
  | [], o, w, C, h => ⟨C, h, rfl⟩
  | v :: vs, o, w, C, h => by
    have h1 : (w.setCell ⟨b, o, none⟩ v).heap[b]? = some (.cells (C.setIfInBounds o v) t fz) := by
      simp [World.setCell, Array.getElem?_modify, h]
    obtain ⟨C', h2, h3⟩ := setCells_heap b t fz vs (o + 1) _ _ h1
    exact ⟨C', h2, by rw [h3]; simp [setL]⟩
theorem setCells_other (b k : Nat) (hk : k ≠ b) : ∀ (vs : List Value) (o : Nat) (w : World), (w.setCells b o vs).heap[k]? = w.heap[k]?
  | [], o, w => rfl
  | v :: vs, o, w => by
    rw [World.setCells, setCells_other b k hk vs, Below.heap_setCell _ _ _ _ (by simpa using hk)]
theorem setCells_size (b : Nat) : ∀ (vs : List Value) (o : Nat) (w : World), (w.setCells b o vs).heap.size = w.heap.size
  | [], o, w => rfl
  | v :: vs, o, w => by rw [World.setCells, setCells_size b vs]; simp [World.setCell]
theorem setCells_same (b : Nat) : ∀ (vs : List Value) (o : Nat) (w : World), (w.setCells b o vs).os = w.os ∧ (w.setCells b o vs).tape = w.tape ∧ (w.setCells b o vs).output = w.output ∧ (w.setCells b o vs).drawn = w.drawn
  | [], o, w => ⟨rfl, rfl, rfl, rfl⟩
  | v :: vs, o, w => by rw [World.setCells]; exact setCells_same b vs _ _
theorem setCells_below {B b : Nat} (h : B ≤ b) (vs : List Value) (o : Nat) (w : World) : Below B w (w.setCells b o vs) :=
  ⟨(setCells_same b vs o w).1, (setCells_same b vs o w).2.1, (setCells_same b vs o w).2.2.1, by rw [setCells_size]; exact Nat.le_refl _, fun k hk => setCells_other b k (by omega) vs o w⟩

theorem VR.isOne {φ : Map} {v v' : Value} (h : VR φ v v') (ho : Ab.one v = true) : v'.oneCell' = true := by
  cases h <;> first | rfl | simp [Ab.one] at ho
theorem VRs.isOne {φ : Map} : ∀ {l l' : List Value}, VRs φ l l' → l.all Ab.one = true → ∀ v ∈ l', v.oneCell' = true
  | _, _, .nil, _, v, hv => by simp at hv
  | _, _, .cons a t, h, v, hv => by
    simp at h
    rcases List.mem_cons.1 hv with rfl | hv
    · exact VR.isOne a h.1
    · exact VRs.isOne t (by simpa using h.2) v hv

theorem Rel.store {w0 w : World} {φ : Map} {h : Heap} (r : Rel w0 φ h w) (P : Program) {i o e : Nat} {l : Loc} {cs vs vs' : List Value} (hi : φ i = some l) (hg : h.get i = .cells cs e false)
    (hb : o + vs.length ≤ cs.length) (h1 : vs.all Ab.one = true) (hv : VRs φ vs vs') :
    (storeCells ⟨l.b, l.o + o, none⟩ vs').run P w = .ok () (w.setCells l.b (l.o + o) vs') ∧ Rel w0 φ (h.put i (.cells (setL cs o vs) e false)) (w.setCells l.b (l.o + o) vs') := by
  by_cases hnil : vs = []
  · subst hnil
    cases hv
    refine ⟨by simp [storeCells]; rfl, ?_⟩
    have : h.put i (.cells (setL cs o []) e false) = h := by
      cases h with
      | mk s g =>
        simp only [Heap.put, setL, Heap.mk.injEq, true_and]
        funext k
        split
        · rename_i q; subst q; exact hg.symm
        · rfl
    rw [this]
    exact r
  have hpos : 0 < vs.length := by cases vs with | nil => exact absurd rfl hnil | cons => simp
  obtain ⟨C, t, fz, hw, hC, hX, htg, hr⟩ := r.cells hi hg
  obtain ⟨hB, hf, hM⟩ := hr rfl
  have hlen := hv.length
  have hcl := take_len hC
  refine ⟨?_, ?_⟩
  · have := run_storeCells_cells (P := P) l.b (l.o + o) vs' 0 w (fun j hj => by
      simp only [World.cell?, hw]
      simp; omega) (fun j hj => by
      simp only [World.frozen?, hw]
      have := hf (l.o + o + 0 + j) (by omega)
      simp only [Bool.and_eq_false_iff, decide_eq_false_iff_not]
      omega) (hv.isOne h1)
    simpa using this
  · obtain ⟨C', h2, h3⟩ := setCells_heap l.b t fz vs' (l.o + o) w C hw
    have hC'l : C'.size = C.size := by
      have := congrArg List.length h3
      simpa [setL_length] using this
    obtain ⟨φ', he, hi', hoth, hrel⟩ := r.turn i l (h.put i (.cells (setL cs o vs) e false)) (w.setCells l.b (l.o + o) vs') (.cells C' t fz) (.inr ⟨l, hi, rfl⟩) (by rw [hi]; intro q; cases q)
      (fun _ => by rw [hg]; exact ⟨by simp [live], by simp [ro]⟩) (fun l0 h0 => by rw [hi] at h0; cases h0; rfl)
      (fun j hj _ => .inl (by simp [Heap.put, hj])) (Nat.le_refl _) (r.dom i l hi) hB (setCells_below hB _ _ _) h2 (fun b hb _ => setCells_other _ _ hb _ _ _)
      (fun j lj hj hb hne => by
        by_cases q : live (h.get j)
        · have := (r.inj i j l lj (fun e => hne e.symm) hi hj (by rw [hg]; simp [live]) q hb.symm).1
          rw [hg] at this; simp [ro] at this
        · left
          have : h.get j = .none := Classical.not_not.1 q
          simp [Heap.put, hne, this])
      (r.wf.put (r.dom i l hi) _)
      (fun φ' he _ => by
        simp only [Heap.put, if_true, ObjRel]
        refine ⟨?_, hX, by rw [setL_length, hC'l]; exact htg, fun _ => ⟨hB, fun o ho => hf o (by omega), by omega⟩⟩
        rw [h3, setL_length, setL_drop, setL_take _ _ _ _ (by omega)]
        exact VRs.setL o (hC.mono he) (hv.mono he))
    have : φ' = φ := funext fun j => by
      by_cases q : j = i
      · subst q; rw [hi', hi]
      · exact hoth j q
    rw [this] at hrel
    exact hrel
end Ab
end Go.Proofs.YtaaacaejpchbpaaGreat
