/- The methods of strings.Builder over the abstract heap, and that the machine meets them. No condition. -/
import Derived.Test.YtaaacaejpchbpaaGreatBld2
import Derived.Test.YtaaacaejpchbpaaGreatRun
set_option linter.unusedVariables false
set_option linter.unusedSimpArgs false
namespace Go.Proofs.YtaaacaejpchbpaaGreat
namespace Ab
open Go Go.RowKit

def bCode : Nat := 11075584
def rCode : Nat := 393217
def unitV : Value := .tuple ⟨[]⟩
def pCopyCheck (args : List Value) (h : Heap) : Out :=
  match args with
  | [.pointer (some ⟨b, 0, none⟩)] =>
    match h.get b with
    | .cells [p, v] e false =>
      match Nat.beq e bCode, p with
      | true, .pointer none => some (unitV, h.put b (.cells [.pointer (some ⟨b, 0, none⟩), v] e false))
      | true, .pointer (some ⟨a, 0, none⟩) => match Nat.beq a b with | true => some (unitV, h) | false => none
      | _, _ => none
    | _ => none
  | _ => none
def pString (args : List Value) (h : Heap) : Out :=
  match args with
  | [.pointer (some ⟨b, 0, none⟩)] =>
    match h.get b with
    | .cells [_, .slice p n c] e false =>
      match Nat.beq e bCode, p with
      | true, none => if n = 0 then some (.string ⟨#[]⟩, h) else none
      | true, some a =>
        match h.get a.block with
        | .cells cs e2 false => if e2 = rCode ∧ n ≠ 0 ∧ n ≤ c ∧ a.off + n ≤ cs.length ∧ n ≤ 281474976710656 then
            (match byteL ((cs.drop a.off).take n) [] with
            | some l => some (.string ⟨l.toArray⟩, h.put a.block (.cells cs e2 true))
            | none => none) else none
        | _ => none
      | _, _ => none
    | _ => none
  | _ => none
def pGrow (args : List Value) (h : Heap) : Out :=
  match args with
  | [.pointer (some ⟨b, 0, none⟩), .int .i64 n] =>
    match h.get b with
    | .cells [.pointer none, .slice none 0 0] e false =>
      if e = bCode ∧ 0 < n ∧ n ≤ 1099511627776 then some (unitV, (h.put b (.cells [.pointer (some ⟨b, 0, none⟩), .slice (some ⟨h.size, 0, none⟩) 0 0] e false)).push (.cells [] rCode false)) else none
    | _ => none
  | _ => none

section
variable {w0 w : World} {φ : Map} {h : Heap}

theorem enter162 (args : Array Value) (w : World) : (callFunc 162 args).run Tryz.prog w = .ok (.enter 162 args) w := by
  simp [callFunc, Tryz.func162, Tryz.f162]
theorem enter116 (args : Array Value) (w : World) : (callFunc 116 args).run Tryz.prog w = .ok (.enter 116 args) w := by
  simp [callFunc, Tryz.func116, Tryz.f116]
theorem enter114 (args : Array Value) (w : World) : (callFunc 114 args).run Tryz.prog w = .ok (.enter 114 args) w := by
  simp [callFunc, Tryz.func114, Tryz.f114]

/-- A builder of the abstract heap lies alone in a block of the machine's. -/
theorem Rel.builder (r : Rel w0 φ h w) {b : Nat} {l : Loc} {p v : Value} (hi : φ b = some l) (hg : h.get b = .cells [p, v] bCode false) :
    ∃ p' v' fz, w.heap[l.b]? = some (.cells #[p', v'] 168 fz) ∧ VR φ p p' ∧ VR φ v v' ∧ l.o = 0 ∧ w0.heap.size ≤ l.b ∧ (∀ o, o < 2 → ¬ (fz.1 ≤ o ∧ o < fz.2)) := by
  obtain ⟨C, t, fz, hw, hC, hX, htg, hr⟩ := r.cells hi hg
  obtain ⟨hB, hf, hM⟩ := hr rfl
  rcases htg with q | ⟨ht, hq⟩
  · exact absurd q (by decide)
  · obtain ⟨ho, hs⟩ := hq (by decide)
    have ht' : t = 168 := by
      rw [show bCode / 65536 = 169 from by decide] at ht
      exact Nat.succ.inj ht
    subst ht'
    obtain ⟨L⟩ := C
    rw [ho] at hC
    match L, hs, hC with
    | [p', v'], _, .cons h1 (.cons h2 .nil) => exact ⟨p', v', fz, hw, h1, h2, ho, hB, by simpa using hf⟩

theorem cell_of {w : World} {b : Nat} {cs : Array Value} {T : TypeId} {fr : Nat × Nat} (hb : w.heap[b]? = some (.cells cs T fr)) (j : Nat) : w.cell? ⟨b, j, none⟩ = cs[j]? := Lib.cell_of_heap hb j
theorem frozen_of {w : World} {b : Nat} {cs : Array Value} {T : TypeId} {fr : Nat × Nat} (hb : w.heap[b]? = some (.cells cs T fr)) (j : Nat) (hj : ¬ (fr.1 ≤ j ∧ j < fr.2)) : w.frozen? ⟨b, j, none⟩ = false := by
  simp only [World.frozen?, hb, Bool.and_eq_false_iff, decide_eq_false_iff_not]
  omega

theorem met_copyCheck (args : List Value) (args' : Array Value) (v : Value) (h' : Heap) (ha : VRs φ args args'.toList) (r : Rel w0 φ h w) (e : pCopyCheck args h = some (v, h')) : Met Tryz.prog w0 φ h 162 args' w v h' := by
  unfold pCopyCheck at e
  split at e
  · rename_i b
    obtain ⟨x', rfl, hx⟩ := ha.one
    rcases hx.toPtr with ⟨q, _⟩ | ⟨i, off, l, q, hi, rfl⟩
    · cases q
    cases q
    split at e
    · rename_i p u e0 hg
      split at e
      · rename_i _ _ he
        have he' : e0 = bCode := Nat.eq_of_beq_eq_true he
        subst he'
        cases e
        obtain ⟨p', v', fz, hw, h1, h2, ho, hB, hf⟩ := r.builder hi hg
        obtain rfl : p' = .pointer none := by cases h1; rfl
        left
        refine ⟨enter162 _ _, ?_⟩
        rw [ho]
        refine (copyCheck_fresh l.b w (by rw [cell_of hw]; rfl) (by simp [World.shape?, hw]) (frozen_of hw 0 (hf 0 (by decide)))).mono ?_
        rintro e' w' ⟨rfl, rfl⟩
        obtain ⟨_, hrel⟩ := r.store Tryz.prog hi hg (o := 0) (vs := [.pointer (some ⟨b, 0, none⟩)]) (vs' := [.pointer (some ⟨l.b, l.o + 0, none⟩)]) (by simp) (by simp [one]) (.cons (.ptr hi) .nil)
        refine ⟨.tuple #[], φ, rfl, .same (Nat.le_refl _), .tuple .nil, ?_⟩
        rw [ho] at hrel
        exact hrel
      · rename_i _ _ a he
        have he' : e0 = bCode := Nat.eq_of_beq_eq_true he
        subst he'
        split at e
        · rename_i hab
          have hab' : a = b := Nat.eq_of_beq_eq_true hab
          subst hab'
          cases e
          obtain ⟨p', v', fz, hw, h1, h2, ho, hB, hf⟩ := r.builder hi hg
          rcases h1.toPtr with ⟨q, _⟩ | ⟨i, off, l2, q, hi2, rfl⟩
          · cases q
          cases q
          rw [hi] at hi2; cases hi2
          left
          refine ⟨enter162 _ _, ?_⟩
          rw [ho] at hw ⊢
          refine (copyCheck_used l.b w (by rw [cell_of hw]; rfl)).mono ?_
          rintro e' w' ⟨rfl, rfl⟩
          exact ⟨.tuple #[], φ, rfl, .same, .tuple .nil, r⟩
        · cases e
      · cases e
    · cases e
  · cases e
theorem liesAt_at {P : Program} {e : TypeId} (hc : P.cellsOf e = 1) (count off n : Nat) (hn : off + n ≤ count) : liesAt P P.depth e count off e n = true := by
  have hd : P.depth = (2 * (P.types.size + Made.depth) + 1) + 1 := rfl
  rw [hd]
  simp only [liesAt, Bool.or_eq_true]
  left
  rw [hd]
  simp [rowAt, hc, hn, sameLayout, Nat.mod_one]
theorem loadBytes_at {P : Program} {w : World} : ∀ (ns : List Int) (b o : Nat) (acc : ByteArray), (∀ j x, ns[j]? = some x → w.cell? ⟨b, o + j, none⟩ = some (.int .u8 x)) →
    (loadBytes ⟨b, o, none⟩ acc ns.length).run P w = .ok ⟨acc.data ++ (ns.map fun n => UInt8.ofNat n.toNat).toArray⟩ w
  | [], b, o, acc, _ => by simp [loadBytes]
  | x :: l, b, o, acc, h => by
    have h0 : w.cell? ⟨b, o, none⟩ = some (.int .u8 x) := by simpa using h 0 x rfl
    have ih := loadBytes_at (P := P) (w := w) l b (o + 1) (acc.push (UInt8.ofNat x.toNat)) (fun j y hy => by
      have := h (j + 1) y (by simpa using hy)
      rwa [show o + (j + 1) = o + 1 + j by omega] at this)
    simp only [List.length_cons, loadBytes, Sem.run_bind, run_load, h0, Result.andThen, add_none]
    have he : x.toNat.toUInt8 = UInt8.ofNat x.toNat := rfl
    rw [he, ih]
    congr 1
    apply ByteArray.ext
    simp [ByteArray.push]
theorem unsafeString_at {P : Program} {w : World} (pt it ty e : TypeId) (hp : P.underlying pt = some (.pointer e)) (hc : P.cellsOf e = 1) (g go cells : Nat) (hsh : w.shape? g = some (e, cells)) (ns : List Int) (h0 : ns ≠ []) (hn : go + ns.length ≤ cells) (h63 : ns.length ≤ 281474976710656)
    (hcell : ∀ j x, ns[j]? = some x → w.cell? ⟨g, go + j, none⟩ = some (.int .u8 x)) :
    (Builtin.unsafeString_ #[pt, it] ty #[.pointer (some ⟨g, go, none⟩), .int .i64 ns.length]).run P w = .ok (.string ⟨(ns.map fun n => UInt8.ofNat n.toNat).toArray⟩) (w.freeze ⟨g, go, none⟩ ns.length) := by
  have hl : ns.length ≠ 0 := by simpa using h0
  have hlb := loadBytes_at (P := P) (w := w) ns g go .empty hcell
  have hlies := liesAt_at (P := P) hc (cells / P.cellsOf e) go ns.length (by rw [hc]; simpa using hn)
  have h63' : ¬ (9223372036854775807 : Int) < (ns.length : Int) := by omega
  obtain ⟨z1, z2, z3, z4, hdef⟩ : ∃ (z1 z2 : Sem PUnit) (z3 z4 : Sem Value), Builtin.unsafeString_ #[pt, it] ty #[.pointer (some ⟨g, go, none⟩), .int .i64 ns.length] =
      (do
        let n ← asInt (.int .i64 ns.length)
        if n < 0 then z1
        if n > IntKind.i64.max then z2
        if n = 0 then pure (.string .empty)
        else if ← variablesAt ⟨g, go, none⟩ (← elemOf pt) n.toNat then do
          let s ← loadBytes ⟨g, go, none⟩ .empty n.toNat
          freeze ⟨g, go, none⟩ n.toNat
          pure (.string s)
        else z4) := ⟨_, _, pure (.string .empty), _, rfl⟩
  rw [hdef]
  have hmax : IntKind.i64.max = 9223372036854775807 := rfl
  have he : (ByteArray.empty).data = #[] := rfl
  rw [he, Array.empty_append] at hlb
  simp [asInt, asIntOf, hmax, h63', hl, elemOf, run_underlying hp, variablesAt, hsh, hlies, hlb]
  intro q
  omega

theorem Rel.freeze (r : Rel w0 φ h w) {i e : Nat} {l : Loc} {cs : List Value} (hi : φ i = some l) (hg : h.get i = .cells cs e false) (o n : Nat) :
    Rel w0 φ (h.put i (.cells cs e true)) (w.freeze ⟨l.b, o, none⟩ n) := by
  obtain ⟨C, t, fz, hw, hC, hX, htg, hr⟩ := r.cells hi hg
  obtain ⟨hB, hf, hM⟩ := hr rfl
  have hblk : ∃ fz', (w.freeze ⟨l.b, o, none⟩ n).heap[l.b]? = some (.cells C t fz') := by
    unfold World.freeze
    split
    · exact ⟨fz, hw⟩
    · simp [Array.getElem?_modify, hw]
  obtain ⟨fz', hw'⟩ := hblk
  have hoth : ∀ b, b ≠ l.b → (w.freeze ⟨l.b, o, none⟩ n).heap[b]? = w.heap[b]? := by
    intro b hb
    unfold World.freeze
    split
    · rfl
    · simp only [Array.getElem?_modify]
      rw [if_neg (by simpa using fun q => hb q.symm)]
  obtain ⟨φ', he, hi', hothφ, hrel⟩ := r.turn i l (h.put i (.cells cs e true)) (w.freeze ⟨l.b, o, none⟩ n) (.cells C t fz') (.inr ⟨l, hi, rfl⟩) (by rw [hi]; intro q; cases q)
      (fun _ => by rw [hg]; exact ⟨by simp [live], by simp [ro]⟩) (fun l0 h0 => by rw [hi] at h0; cases h0; rfl)
      (fun j hj _ => .inl (by simp [Heap.put, hj])) (Nat.le_refl _) (r.dom i l hi) hB (Lib.below_freeze (Below.refl _ w) (p := ⟨l.b, o, none⟩) hB n) hw' (fun b hb _ => hoth b hb)
      (fun j lj hj hb hne => by
        by_cases q : live (h.get j)
        · have := (r.inj i j l lj (fun e => hne e.symm) hi hj (by rw [hg]; simp [live]) q hb.symm).1
          rw [hg] at this; simp [ro] at this
        · left
          have : h.get j = .none := Classical.not_not.1 q
          simp [Heap.put, hne, this])
      (r.wf.put (r.dom i l hi) _)
      (fun φ' he _ => by
        simp only [Heap.put, if_true, ObjRel]
        exact ⟨hC.mono he, hX, htg, fun q => by cases q⟩)
  have : φ' = φ := funext fun j => by
    by_cases q : j = i
    · subst q; rw [hi', hi]
    · exact hothφ j q
  rw [this] at hrel
  exact hrel

theorem Rel.drew' (r : Rel w0 φ h w) : Rel w0 φ h w.drew := r.drew
theorem met_String (args : List Value) (args' : Array Value) (v : Value) (h' : Heap) (ha : VRs φ args args'.toList) (r : Rel w0 φ h w) (e : pString args h = some (v, h')) : Met Tryz.prog w0 φ h 116 args' w v h' := by
  unfold pString at e
  split at e
  · rename_i b
    obtain ⟨x', rfl, hx⟩ := ha.one
    rcases hx.toPtr with ⟨q, _⟩ | ⟨i, off, l, q, hi, rfl⟩
    · cases q
    cases q
    split at e
    · rename_i u p n c e0 hg
      split at e
      · rename_i _ _ he
        have he' : e0 = bCode := Nat.eq_of_beq_eq_true he
        subst he'
        obtain ⟨hn, e1⟩ := ite_some e
        cases e1
        obtain ⟨p', v', fz, hw, h1, h2, ho, hB, hf⟩ := r.builder hi hg
        rcases h2.toSl with ⟨_, rfl, rfl, rfl⟩ | ⟨_, _, _, q, _⟩ | ⟨_, _, _, _, _, q, _⟩
        · left
          refine ⟨enter116 _ _, ?_⟩
          rw [ho]
          refine (bString_nil l.b w (by rw [cell_of hw]; rfl)).mono ?_
          rintro e' w' ⟨rfl, rfl⟩
          exact ⟨_, φ, rfl, .same, .str _, r.drew'⟩
        · cases q
        · cases q
      · rename_i _ _ a he
        have he' : e0 = bCode := Nat.eq_of_beq_eq_true he
        subst he'
        split at e
        · rename_i cs e2 hga
          obtain ⟨⟨h3, hn0, hnc, hlen, hn63⟩, e1⟩ := ite_some e
          subst h3
          split at e1
          · rename_i bs hbs
            cases e1
            obtain ⟨p', v', fz, hw, h1, h2, ho, hB, hf⟩ := r.builder hi hg
            rcases h2.toSl with ⟨q, _⟩ | ⟨j, off, l2, q, hj, hnc2, hL, rfl⟩ | ⟨_, _, _, _, _, _, q, _⟩
            · cases q
            · cases q
              obtain ⟨ns, hns, hbs'⟩ := byteL_some _ _ _ hbs
              simp at hbs'
              obtain ⟨C2, t2, fz2, hw2, hC2, hX2, htg2, hr2⟩ := r.cells hj hga
              have ht2 : t2 = 5 := by
                rcases htg2 with q | ⟨q, _⟩
                · exact absurd q (by decide)
                · rw [show rCode / 65536 = 6 from by decide] at q
                  exact Nat.succ.inj q
              subst ht2
              have hnl : ns.length = n := by
                have := congrArg List.length hns
                simp at this hlen
                omega
              have hC2l := take_len hC2
              have hcell : ∀ j x, ns[j]? = some x → w.drew.cell? ⟨l2.b, l2.o + off + j, none⟩ = some (.int .u8 x) := by
                intro k x hk
                have hkl : k < n := by
                  rw [← hnl]
                  exact (List.getElem?_eq_some_iff.1 hk).1
                have hcs : cs[off + k]? = some (.int .u8 x) := by
                  have h5 := congrArg (fun l : List Value => l[k]?) hns
                  simp only [List.getElem?_map, hk, Option.map_some] at h5
                  rw [List.getElem?_take_of_lt hkl, List.getElem?_drop] at h5
                  exact h5
                obtain ⟨y, hy, hxy⟩ := r.cell (off := off) (j := k) (sp := none) hj (v := .int .u8 x) (by
                  unfold cellAt; simp only [hga]; exact hcs)
                rw [hxy.toInt] at hy
                rw [Nat.add_assoc]
                exact hy
              have hUS := unsafeString_at (P := Tryz.prog) (w := w.drew) 200 3 9 5 (by kernel_rfl) byte_cells l2.b (l2.o + off) C2.size (by
                have : w.drew.heap[l2.b]? = _ := hw2
                simp [World.shape?, this]) ns (by intro q; rw [q] at hnl; exact hn0 hnl.symm) (by simp only at hlen; omega) (by omega) hcell
              rw [hnl] at hUS
              left
              refine ⟨enter116 _ _, ?_⟩
              rw [ho]
              refine (bString_row l.b l2.b (l2.o + off) n (c + l2.x) w ⟨(ns.map fun n => UInt8.ofNat n.toNat).toArray⟩ (by rw [cell_of hw]; rfl) (by omega) hUS).mono ?_
              rintro e' w' ⟨rfl, rfl⟩
              refine ⟨_, φ, rfl, .same (Nat.le_refl _), ?_, r.drew'.freeze hj hga _ _⟩
              rw [hbs']
              exact .str _
            · rename_i q2
              exact absurd q hn0
          · cases e1
        · cases e
      · cases e
    · cases e
  · cases e

theorem Rel.of_heap (r : Rel w0 φ h w) {w' : World} (hh : w'.heap = w.heap) (h1 : w'.os = w.os) (h2 : w'.tape = w.tape) (h3 : w'.output = w.output) : Rel w0 φ h w' :=
  ⟨r.wf, ⟨h1.trans r.below.os, h2.trans r.below.tape, h3.trans r.below.output, by rw [hh]; exact r.below.size, fun k hk => by rw [hh]; exact r.below.block k hk⟩, r.dom, fun j lj hj => by rw [hh]; exact r.obj j lj hj, r.inj⟩
theorem alloc_setCell (w : World) (b o : Nat) (v : Value) (O : Obj) (hb : b < w.heap.size) : (w.setCell ⟨b, o, none⟩ v).alloc O = (w.alloc O).setCell ⟨b, o, none⟩ v := by
  have : (w.setCell ⟨b, o, none⟩ v).heap.push O = (w.heap.push O).modify b (fun | .cells c elem frozen => .cells (c.setIfInBounds o v) elem frozen | o => o) := by
    apply Array.ext'
    apply List.ext_getElem?
    intro k
    simp only [World.setCell, Array.getElem?_toList, Array.getElem?_push, Array.getElem?_modify, Array.size_modify]
    by_cases q : k = w.heap.size
    · subst q
      simp [Nat.ne_of_lt hb]
    · simp only [q, if_false]
      split
      · cases w.heap[k]? with
        | none => rfl
        | some O => cases O <;> rfl
      · rfl
  unfold World.alloc
  simp only [this]
  rfl
theorem met_Grow (args : List Value) (args' : Array Value) (v : Value) (h' : Heap) (ha : VRs φ args args'.toList) (r : Rel w0 φ h w) (e : pGrow args h = some (v, h')) : Met Tryz.prog w0 φ h 114 args' w v h' := by
  unfold pGrow at e
  split at e
  · rename_i b n
    obtain ⟨x', y', rfl, hx, hy⟩ := ha.two
    rcases hx.toPtr with ⟨q, _⟩ | ⟨i, off, l, q, hi, rfl⟩
    · cases q
    cases q
    split at e
    · rename_i e0 hg
      obtain ⟨⟨rfl, hn0, hn⟩, e1⟩ := ite_some e
      cases e1
      obtain ⟨p', v', fz, hw, h1, h2, ho, hB, hf⟩ := r.builder hi hg
      obtain rfl : p' = .pointer none := by cases h1; rfl
      obtain rfl : v' = .slice none 0 0 := by cases h2; rfl
      rw [hy.toInt, ho]
      have hlt : l.b < w.heap.size := r.lt hi
      left
      refine ⟨enter114 _ _, ?_⟩
      have G := bGrow_fresh l.b n.toNat w hlt (by rw [cell_of hw]; rfl) (by rw [cell_of hw]; rfl) (by simp [World.shape?, hw]) (frozen_of hw 0 (hf 0 (by decide))) (frozen_of hw 1 (hf 1 (by decide))) (by omega) (by omega)
      rw [show ((n.toNat : Nat) : Int) = n by omega] at G
      refine G.mono ?_
      rintro e' w' ⟨rfl, cs, hcs, rfl⟩
      obtain ⟨φ1, g1, f1, r1⟩ := r.fresh [] rCode cs 5 cs.size cs.size (by simp; exact .nil) (Nat.le_refl _) (fun q => absurd q (by decide)) (.inr ⟨(by decide : 5 + 1 = rCode / 65536), fun q => absurd q (by decide)⟩)
      have hbs : b ≠ h.size := fun q => by have := r.dom b l hi; omega
      have hg1 : (h.push (.cells [] rCode false)).get b = .cells [.pointer none, .slice none 0 0] bCode false := by rw [push_old _ _ hbs]; exact hg
      have hsl : VR φ1 (.slice (some ⟨h.size, 0, none⟩) 0 0) (.slice (some ⟨w.heap.size, 0, none⟩) 0 cs.size) := by
        have := VR.sl (φ := φ1) (off := 0) (n := 0) (c := 0) f1 (Nat.le_refl _) (.inr (by show 0 + (0 + cs.size) * (rCode % 65536) ≤ cs.size; rw [show rCode % 65536 = 1 from by decide]; omega))
        simpa using this
      obtain ⟨_, r2⟩ := r1.store Tryz.prog (g1.ext _ _ hi) hg1 (o := 0) (vs := [.pointer (some ⟨b, 0, none⟩), .slice (some ⟨h.size, 0, none⟩) 0 0]) (vs' := [.pointer (some ⟨l.b, l.o + 0, none⟩), .slice (some ⟨w.heap.size, 0, none⟩) 0 cs.size]) (by simp) (by simp [one]) (.cons (.ptr (g1.ext _ _ hi)) (.cons hsl .nil))
      rw [ho] at r2
      refine ⟨.tuple #[], φ1, rfl, ?_, .tuple .nil, ?_⟩
      · exact ⟨g1.ext, by simp [Heap.push, Heap.put], g1.keep⟩
      · have hheap : (h.put b (.cells [.pointer (some ⟨b, 0, none⟩), .slice (some ⟨h.size, 0, none⟩) 0 0] bCode false)).push (.cells [] rCode false) = (h.push (.cells [] rCode false)).put b (.cells (setL [.pointer none, .slice none 0 0] 0 [.pointer (some ⟨b, 0, none⟩), .slice (some ⟨h.size, 0, none⟩) 0 0]) bCode false) := by
          simp only [Heap.push, Heap.put, setL, List.set, Heap.mk.injEq, true_and]
          funext k
          by_cases q : k = b
          · subst q; simp [hbs]
          · simp [q]
        rw [hheap]
        have hworld : ((((w.setCell ⟨l.b, 0, none⟩ (.pointer (some ⟨l.b, 0, none⟩))).drew).setCell ⟨l.b, 1, none⟩ (.slice (some ⟨w.heap.size, 0, none⟩) 0 cs.size)).alloc (.cells cs 5)).heap = (({ w with heap := w.heap.push (.cells cs 5) } : World).setCells l.b (0 + 0) [.pointer (some ⟨l.b, 0 + 0, none⟩), .slice (some ⟨w.heap.size, 0, none⟩) 0 cs.size]).heap := by
          have h1 := alloc_setCell ((w.setCell ⟨l.b, 0, none⟩ (.pointer (some ⟨l.b, 0, none⟩))).drew) l.b 1 (.slice (some ⟨w.heap.size, 0, none⟩) 0 cs.size) (.cells cs 5) (by simpa [World.setCell, World.drew] using hlt)
          rw [h1]
          have h2 := alloc_setCell w l.b 0 (.pointer (some ⟨l.b, 0, none⟩)) (.cells cs 5) hlt
          have h3 : (((w.setCell ⟨l.b, 0, none⟩ (.pointer (some ⟨l.b, 0, none⟩))).drew).alloc (.cells cs 5)).heap = ((w.alloc (.cells cs 5)).setCell ⟨l.b, 0, none⟩ (.pointer (some ⟨l.b, 0, none⟩))).heap := by
            rw [← h2]; rfl
          simp only [World.setCells, World.setCell]
          simp only [World.setCell] at h3
          rw [h3]
          rfl
        exact r2.of_heap hworld rfl rfl rfl
    · cases e
  · cases e
end
end Ab
end Go.Proofs.YtaaacaejpchbpaaGreat
