/-
  BatchSplits: whatever records, and whatever number of bytes: the law returns true, and the input reads as it did. No condition.
-/
import Derived.Test.YtaaacaejpchbpaaGreatRows
import Derived.Test.YtaaacaejpchbpaaGreatLaw
import Derived.Test.YtaaacaejpchbpaaGreatClosed
import Derived.ProofKit
import Derived.SizedLaws
import Derived.JoinedOf
set_option linter.unusedVariables false
namespace Go.Proofs.YtaaacaejpchbpaaGreat
open Go.ChangeShapes Go.WideShapes Go.ChangeAt Go.RowKit
open Ab

theorem Tryz.own : ownKnob Tryz.prog.godebug = none := by kernel_rfl
theorem Tryz.laidOut : laidOutB Tryz.prog = true := by kernel_rfl
theorem Tryz.cells9 : Tryz.prog.cellsOf 9 = 1 := by kernel_rfl
theorem Tryz.bytes9 : Tryz.prog.bytesOf 9 = 16 := by kernel_rfl
theorem enter7 (args : Array Value) (w : World) : (callFunc 7 args).run Tryz.prog w = .ok (.enter 7 args) w := by
  simp [callFunc, Tryz.func7, Tryz.f7]

/-- The call, over an abstract heap that holds what came in. -/
theorem call_of {W : World} {φ : Map} {h : Heap} {args : List Value} {args' : Array Value} (ha : VRs φ args args'.toList) (hr : Rel W φ h W) {h' : Heap} {k : Nat} (e : run (BT pr3) k 7 1 args h = some (.bool true, h')) :
    Calls Tryz.prog 7 args' W fun e W' => e = .returned (.bool true) ∧ Below W.heap.size W W' := by
  rcases (run_sim (pok pr3_ok) k).1 7 args args' h φ W (.bool true) h' ha hr e with ⟨_, h2⟩ | ⟨v', w', φ', h1, _⟩
  · refine h2.mono ?_
    rintro e' w' ⟨v', φ', rfl, _, hv, hw⟩
    exact ⟨by rw [hv.toBool], hw.below⟩
  · rw [enter7] at h1
    cases h1

theorem nil_call (W : World) (y : Int) : Calls Tryz.prog 7 #[.slice none 0 0, .int .i64 y] W fun e W' => e = .returned (.bool true) ∧ Below W.heap.size W W' := by
  obtain ⟨h', e⟩ := batchSplits_ok (h := nil0) (n := 0) (L := []) (x0 := none) (x0c := 0) y ⟨rfl, .inl rfl⟩
  exact call_of (φ := fun _ => none) (.cons .nils (.cons (.int _ _) .nil)) (nil_rel W) e

theorem zero_call (W : World) (a : Addr) (cap : Nat) (hc : cap = 0 ∨ (a.spot = none ∧ a.block < W.heap.size)) (y : Int) : Calls Tryz.prog 7 #[.slice (some a) 0 cap, .int .i64 y] W fun e W' => e = .returned (.bool true) ∧ Below W.heap.size W W' := by
  rcases hc with rfl | ⟨h1, h2⟩
  · obtain ⟨h', e⟩ := batchSplits_ok (h := nil0) (n := 0) (L := []) (x0 := some ⟨0, 0, some 0⟩) (x0c := 0) y ⟨rfl, .inl rfl⟩
    exact call_of (φ := fun _ => none) (.cons (.sle (.inl rfl)) (.cons (.int _ _) .nil)) (nil_rel W) e
  · obtain ⟨b, off, spot⟩ := a
    simp only at h1 h2
    subst h1
    obtain ⟨h', e⟩ := batchSplits_ok (h := ⟨1, fun _ => .none⟩) (n := 0) (L := []) (x0 := some ⟨0, 0, some 0⟩) (x0c := 0) y ⟨rfl, .inl rfl⟩
    let l : Ab.Loc := ⟨b, off, 0, 1, cap⟩
    let φ : Map := fun i => if i = 0 then some l else none
    have hφ : φ 0 = some l := rfl
    have hrel : Rel W φ ⟨1, fun _ => .none⟩ W := by
      refine ⟨fun _ _ => rfl, Below.refl _ _, fun i l' hi => ?_, fun i l' hi => ?_, fun i j li lj _ _ _ hl => absurd rfl hl⟩
      · by_cases q : i = 0
        · subst q; exact Nat.zero_lt_one
        · simp [φ, q] at hi
      · by_cases q : i = 0
        · subst q
          rw [hφ] at hi; cases hi
          exact ⟨W.heap[b], Array.getElem?_eq_getElem h2, trivial⟩
        · simp [φ, q] at hi
    exact call_of (.cons (.sle (.inr ⟨0, l, hφ, rfl, by show 0 + cap * 1 ≤ cap; omega⟩)) (.cons (.int _ _) .nil)) hrel e

/-- One object: texts that came in. -/
def argHeap (L : List ByteArray) : Heap := ⟨1, fun i => if i = 0 then .cells (L.map .string) 1 true else .none⟩
theorem arg_call (W : World) (b off len cap : Nat) (L : List ByteArray) (y : Int) (hl : len = L.length) (hc : len ≤ cap) (hb : b < W.heap.size) (hne : L ≠ []) (hcell : ∀ i s, L[i]? = some s → W.cell? ⟨b, off + i, none⟩ = some (.string s)) :
    Calls Tryz.prog 7 #[.slice (some ⟨b, off, none⟩) len cap, .int .i64 y] W fun e W' => e = .returned (.bool true) ∧ Below W.heap.size W W' := by
  obtain ⟨h', e⟩ := batchSplits_ok (h := argHeap L) (n := len) (L := L) (x0 := some ⟨0, 0, none⟩) (x0c := len) y ⟨hl, .inr ⟨0, 1, rfl, Nat.zero_lt_one, rfl⟩⟩
  obtain ⟨s0, hs0⟩ := get_lt (L := L) (i := 0) (List.length_pos_iff.2 hne)
  obtain ⟨C, t, fz, hw⟩ : ∃ C t fz, W.heap[b]? = some (.cells C t fz) := by
    have := hcell 0 s0 hs0
    unfold World.cell? at this
    split at this
    · rename_i C t fz hw; exact ⟨C, t, fz, hw⟩
    · cases this
  have hget : ∀ i s, L[i]? = some s → C[off + i]? = some (.string s) := by
    intro i s hi
    have := hcell i s hi
    simp only [World.cell?, hw] at this
    simpa using this
  have hCl : off + L.length ≤ C.size := by
    obtain ⟨s, hs⟩ := get_lt (L := L) (i := L.length - 1) (by have := List.length_pos_iff.2 hne; omega)
    have := (Array.getElem?_eq_some_iff.1 (hget _ _ hs)).1
    have := List.length_pos_iff.2 hne
    omega
  let l : Ab.Loc := ⟨b, off, cap - len, 1, cap⟩
  let φ : Map := fun i => if i = 0 then some l else none
  have hφ : φ 0 = some l := rfl
  have hrel : Rel W φ (argHeap L) W := by
    refine ⟨fun i hi => ?_, Below.refl _ _, fun i l' hi => ?_, fun i l' hi => ?_, fun i j li lj hij hi hj _ _ _ => ?_⟩
    · have : i ≠ 0 := by have : 1 ≤ i := hi; omega
      simp [argHeap, this]
    · by_cases q : i = 0
      · subst q; exact Nat.zero_lt_one
      · simp [φ, q] at hi
    · by_cases q : i = 0
      · subst q
        rw [hφ] at hi; cases hi
        refine ⟨_, hw, ?_⟩
        show ObjRel W φ l (.cells (L.map .string) 1 true) _
        refine ⟨?_, ⟨rfl, fun q => by cases q⟩, .inl rfl, fun q => by cases q⟩
        refine VRs.of_get ?_ fun i v hv => ?_
        · simp only [List.length_take, List.length_drop, List.length_map, Array.length_toList]
          show min L.length (C.size - off) = L.length
          omega
        · simp only [List.getElem?_map, Option.map_eq_some_iff] at hv
          obtain ⟨s, hs, rfl⟩ := hv
          refine ⟨.string s, ?_, .str s⟩
          have hi := (List.getElem?_eq_some_iff.1 hs).1
          rw [List.getElem?_take_of_lt (by simpa using hi), List.getElem?_drop]
          simpa using hget i s hs
      · simp [φ, q] at hi
    · by_cases q : i = 0
      · by_cases q2 : j = 0
        · omega
        · simp [φ, q2] at hj
      · simp [φ, q] at hi
  have hsl : VR φ (.slice (some ⟨0, 0, none⟩) len len) (.slice (some ⟨b, off, none⟩) len cap) := by
    have := VR.sl (φ := φ) (i := 0) (off := 0) (n := len) (c := len) hφ (Nat.le_refl _) (.inr (by show 0 + (len + (cap - len)) * 1 ≤ cap; omega))
    simpa [l, show len + (cap - len) = cap by omega] using this
  exact call_of (.cons hsl (.cons (.int _ _) .nil)) hrel e

set_option maxRecDepth 100000 in
theorem f_lifted (os : Os) (started : os.Started) (H : Type) (enc : TypeId × Value → H) :
    ReturnsInHanded {} Tryz.checked os 7 .any (Rows.batchSplitsSpec.pre6 enc Tryz.prog Tryz.f7 Rows.batchSplitsRow.domain false) (Rows.batchSplitsSpec.post enc Tryz.prog Tryz.f7 false true false false) := by
  refine returnsInHanded_of_change (C := Tryz.checked) Tryz.own started (by kernel_rfl) Tryz.func7
    (ChangeSpec.witness6 (enc := enc) (C := Tryz.checked) false ⟨#[], #[.slice none 0 0, .int .i64 0], []⟩ 8 (by kernel_rfl) (by kernel_rfl) (by kernel_rfl) (by kernel_rfl)) ?_
  intro W base args ds gs before hval0 hW _ _
  have hval : ∀ (j : Nat) t v, Tryz.f7.params[j]? = some t → args[j]? = some v → Value.okWide Tryz.prog W .any base t v := hval0
  have hW' := hW
  obtain ⟨p, q, hA0, hV, rfl, _, _⟩ := hW
  have hA : DataW.TrodAll enc Tryz.prog W 0 (fun _ => true) true Tryz.f7.params.toList args.toList ds p := hA0
  rw [Tryz.params7] at hA hval
  obtain ⟨v0, v1, d0, d1, p0, p1, rfl, rfl, rfl, h0, h1⟩ := trodAll_two hA
  obtain ⟨rfl, rfl⟩ := trodVars_none hV
  obtain ⟨y, rfl, rfl, rfl, wy⟩ := open_int Tryz.underlying3 (hval 1 3 v1 rfl rfl) h1
  obtain ⟨a0, len, cap, rfl⟩ := okWide_slice Tryz.underlying22 (hval 0 22 v0 rfl rfl)
  have h0k := h0
  obtain ⟨fuel, hf⟩ := h0
  clear hA0 hval0
  simp only [List.append_nil] at hW'
  have hlt : ∀ x ∈ p0, x.block < W.heap.size := fun x hx => by simpa using hW'.lt x (by simp [hx])
  have fin : ∀ (W' : World), Below W.heap.size W W' → Rows.batchSplitsSpec.post enc Tryz.checked.prog Tryz.f7 false true false false W #[.slice a0 len cap, .int .i64 y] (.bool true) W' := by
    intro W' hnx
    refine ⟨_, _, _, [] ++ [], p0 ++ [], [], hW', ?_, ?_, rfl, hnx.frame _, fun h => by cases h⟩
    · exact trodAll_mk1 (shut_bool Tryz.underlying4 true)
    · exact trodAll_mk2 (Below.trod Tryz.laidOut (by kernel_rfl) (of_decide_eq_true (by kernel_rfl)) h0k hnx hlt) (shut_int Tryz.underlying3 wy)
  rcases open_strings Tryz.underlying22 Tryz.underlying9 Tryz.cells9 hf with ⟨hcs, hx⟩ | ⟨a, len', cap', ss, hcs, _, hl, hm, hz, hx, hcell, hws⟩
  · simp [Value.cells] at hcs
    obtain ⟨rfl, rfl, rfl⟩ := hcs
    refine (nil_call W y).mono fun e W' ⟨he, hw⟩ => ?_
    subst he
    exact ⟨_, rfl, fin _ hw⟩
  · simp [Value.cells] at hcs
    obtain ⟨rfl, rfl, rfl⟩ := hcs
    simp only [if_true] at hz
    by_cases hl0 : len = 0
    · subst hl0
      refine (zero_call W a cap ?_ y).mono fun e W' ⟨he, hw⟩ => ?_
      · by_cases hc : cap = 0
        · exact .inl hc
        · right
          have h1 := hcell 0 (by omega)
          have h2 := World.cell?_spot h1
          refine ⟨by simpa [Addr.add] using h2, ?_⟩
          rcases Nat.lt_or_ge a.block W.heap.size with q | q
          · exact q
          · have : (a.add 0).block = a.block := by simp [Addr.add]
            simp [World.cell?, this, Array.getElem?_eq_none q] at h1
      · subst he
        exact ⟨_, rfl, fin _ hw⟩
    · obtain ⟨b, off, spot⟩ := a
      have h1 := hcell 0 (by omega)
      have hspot : spot = none := by simpa [Addr.add] using World.cell?_spot h1
      subst hspot
      have hbW : b < W.heap.size := by
        rcases Nat.lt_or_ge b W.heap.size with q | q
        · exact q
        · simp [World.cell?, Addr.add, Array.getElem?_eq_none q] at h1
      refine (arg_call W b off len cap (ss.take len) y (by simp; omega) hl hbW (by intro q; have := congrArg List.length q; rw [List.length_take, List.length_nil] at this; omega) (fun i s hi => ?_)).mono fun e W' ⟨he, hw⟩ => ?_
      · have hil : i < len := by
          have := (List.getElem?_eq_some_iff.1 hi).1
          simp at this; omega
        rw [List.getElem?_take_of_lt hil] at hi
        have h2 := hcell i (by omega)
        rw [Ab.adr] at h2
        rw [h2]
        simp [List.getD, hi]
      · subst he
        exact ⟨_, rfl, fin _ hw⟩

theorem and2 {a b : Bool} (h : a = true) (k : b = true) : (a && b) = true := by rw [h, k]; rfl
set_option maxRecDepth 100000 in
theorem cf_batchSplitsRow_all : joinedFacts Tryz.checked.prog 7 Tryz.f7 Rows.batchSplitsSpec Rows.batchSplitsRow = true := by
  unfold joinedFacts
  exact (and2 (and2 (and2 (and2 (and2 (and2 (and2 (and2 (and2 (and2 (and2 (and2 (and2 (and2 (and2 (and2 (and2 (and2 (and2 (and2 (and2 (and2 (and2 (and2 (and2 (and2 (and2 (and2 (and2 (and2 (and2 cf_batchSplitsRow_0 cf_batchSplitsRow_1) cf_batchSplitsRow_2) cf_batchSplitsRow_3) cf_batchSplitsRow_4) cf_batchSplitsRow_5) cf_batchSplitsRow_6) cf_batchSplitsRow_7) cf_batchSplitsRow_8) cf_batchSplitsRow_9) cf_batchSplitsRow_10) cf_batchSplitsRow_11) cf_batchSplitsRow_12) cf_batchSplitsRow_13) cf_batchSplitsRow_14) cf_batchSplitsRow_15) cf_batchSplitsRow_16) cf_batchSplitsRow_17) cf_batchSplitsRow_18) cf_batchSplitsRow_19) cf_batchSplitsRow_20) cf_batchSplitsRow_21) cf_batchSplitsRow_22) cf_batchSplitsRow_23) cf_batchSplitsRow_24) cf_batchSplitsRow_25) cf_batchSplitsRow_26) cf_batchSplitsRow_27) cf_batchSplitsRow_28) cf_batchSplitsRow_29) cf_batchSplitsRow_30) cf_batchSplitsRow_31)

theorem batchSplits_holds : Rows.BatchSplitsSaid :=
  OpenClaim.holds_of_wide 7 Tryz.f7 rfl rfl rfl rfl rfl rfl rfl ⟨rfl, rfl, rfl, rfl, rfl⟩ rfl rfl rfl rfl rfl (by kernel_rfl) Tryz.func7 cf_batchSplitsRow_all
    (of_decide_eq_true (by kernel_rfl)) (by unfold Func.isWrapper; first | (rw [if_pos (by decide +kernel)]; kernel_rfl) | (rw [if_neg (by decide +kernel)]; exact ⟨rfl, rfl⟩))
    (fun os started H enc _ => f_lifted os started H enc)
end Go.Proofs.YtaaacaejpchbpaaGreat
