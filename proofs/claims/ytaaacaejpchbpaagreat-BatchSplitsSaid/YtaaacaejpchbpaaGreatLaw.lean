/- The law BatchSplits over the abstract heap: at every input it gives true. No condition. -/
import Derived.Test.YtaaacaejpchbpaaGreatSplit
import Derived.Test.YtaaacaejpchbpaaGreatAw2
set_option linter.unusedVariables false
namespace Go.Proofs.YtaaacaejpchbpaaGreat
namespace Ab
open Go
section
variable {pr : Prims} {h : Heap} {p6 p7 q : Option Addr} {n6 c6 n7 c7 n : Nat} {X : List (Nat × List ByteArray)} {now L : List ByteArray}
theorem ArgR.grownL (x : ArgR h q n L) {p : Option Addr} {m c : Nat} {V W : List Value} {rc : Nat} (y : RowR h p m c V rc) : ArgR (grownL h p rc V W) q n L := by
  refine ⟨x.1, ?_⟩
  rcases x.2 with rfl | ⟨j, e, hq, hj, hg⟩
  · exact .inl rfl
  · refine .inr ⟨j, e, hq, by rw [grownL_size]; omega, ?_⟩
    rw [grownL_old hj]
    · exact hg
    · rintro a ha rfl
      rcases y.2.2 with ⟨_, hp⟩ | ⟨k, hp, _, _, hk⟩
      · rw [hp] at ha; cases ha
      · rw [hp] at ha; cases ha
        rw [hg] at hk; cases hk
theorem SpS.moreL (s : SpS h p6 n6 c6 p7 n7 c7 q n X now L) {W : List ByteArray} (hW : W ≠ []) :
    SpS (grownL h p7 1 (now.map .string) (W.map .string)) p6 n6 c6 (some ⟨h.size, 0, none⟩) (n7 + W.length) (n7 + W.length) q n X (now ++ W) L := by
  have hnow : RowR (grownL h p7 1 (now.map .string) (W.map .string)) (some ⟨h.size, 0, none⟩) (n7 + W.length) (n7 + W.length) ((now ++ W).map .string) 1 := by
    have := s.nowr.growL (W := W.map .string) (by simpa using hW)
    simpa using this
  refine ⟨⟨s.out.1, s.out.2.1, ?_⟩, hnow, ?_, ?_, s.arg.grownL s.nowr⟩
  · rcases s.out.2.2 with hp | ⟨k, hp, hne, hlt, hk⟩
    · exact .inl hp
    · refine .inr ⟨k, hp, hne, by rw [grownL_size]; omega, ?_⟩
      rw [grownL_old hlt]
      · exact hk
      · rintro a ha rfl
        rcases s.nowr.2.2 with ⟨_, hp7⟩ | ⟨i, hp7, hn7, _, hi⟩
        · rw [hp7] at ha; cases ha
        · rw [hp7] at ha; cases ha
          rw [hi] at hk
          exact str_ne_bv (by simpa using hn7) hk
  · intro x hx
    obtain ⟨h1, h2, h3⟩ := s.bats x hx
    refine ⟨h1, by rw [grownL_size]; omega, ?_⟩
    rw [grownL_old h2 (s.apart x hx)]
    exact h3
  · rintro x hx a ha
    cases ha
    have := (s.bats x hx).2.1
    simp only
    omega
theorem RowR.readV {p : Option Addr} {m c rc : Nat} {V : List Value} (x : RowR h p m c V rc) {i : Nat} {p' : Option Addr} {n' c' : Nat} (hv : V[i]? = some (.slice p' n' c')) {ρ : Type} {K : Option Addr → Nat → Nat → Option ρ} :
    (nn p fun a => ldD h (some (Addr.add a (Int.toNat (i : Int) * 1))) 0 K) = K p' n' c' := by
  rcases x.2.2 with ⟨rfl, _⟩ | ⟨j, rfl, _, _, hg⟩
  · simp at hv
  · rw [nns, adr]
    exact ldD_of (a := ⟨j, _, none⟩) hg (by simpa using hv)
theorem SpS.bstrs (s : SpS h p6 n6 c6 p7 n7 c7 q n X now L) {x : Nat × List ByteArray} (hx : x ∈ X) : Strs h (some ⟨x.1, 0, none⟩) x.2.length x.2 := by
  obtain ⟨h1, h2, h3⟩ := s.bats x hx
  exact ⟨rfl, .inr ⟨x.1, _, _, _, rfl, h3, fun i s hs => by simp [hs]⟩⟩
theorem tight_at {α : Type} {f : α → Nat} {most : Nat} : ∀ {l : List (List α)} {i : Nat} {a b : List α} {s : α}, Tight f most l → l[i]? = some a → l[i + 1]? = some b → b.head? = some s → a.length = 100 ∨ szf f a + f s > most
  | [], i, a, b, s, _, ha, _, _ => by simp at ha
  | [x], i, a, b, s, _, ha, hb, _ => by simp at hb
  | x :: y :: l, 0, a, b, s, ht, ha, hb, hs => by
    simp at ha hb
    subst ha; subst hb
    exact ht.1 s hs
  | x :: y :: l, i + 1, a, b, s, ht, ha, hb, hs => tight_at (l := y :: l) (i := i) ht.2 (by simpa using ha) (by simpa using hb) hs

theorem flat_len {α : Type} : ∀ {l : List (List α)}, (∀ b ∈ l, 0 < b.length) → l.length ≤ l.flatten.length
  | [], _ => by simp
  | b :: l, h => by
    have h1 := h b (by simp)
    have h2 := flat_len (l := l) fun x hx => h x (by simp [hx])
    simp only [List.length_cons, List.flatten_cons, List.length_append]
    omega
theorem law_loop2 (hp : pr 7 = none) (hp2 : pr 28 = none) (hp3 : pr 33 = none) {most : Nat} {x0 : Option Addr} {x0c : Nat} (hm : most ≤ 512) (hL : L.length ≤ 300) (hY : ∀ b ∈ X.map (·.2), Fits1 ByteArray.size most b) (hT : Tight ByteArray.size most (X.map (·.2))) (hflat : (X.map (·.2)).flatten = L) :
    ∀ (m i : Nat) (h : Heap) (p7 : Option Addr) (n7 c7 k : Nat), i + m = X.length → SpS h p6 n6 c6 p7 n7 c7 x0 n X ((X.map (·.2)).take i).flatten L → 2 * m + 310 ≤ k →
    ∃ h', pemmicanlaw40_BatchSplits_8186 pr k x0 n x0c most p6 n6 c6 0 p7 n7 c7 p6 n6 c6 (n6 : Nat) (i : Nat) h = some (.bool true, h')
  | 0, i, h, p7, n7, c7, k, hi, s, hk => by
    obtain ⟨k, rfl⟩ : ∃ j, k = j + 1 := ⟨k - 1, by omega⟩
    have hn := s.arg.1
    have hn6 : n6 = X.length := by simpa using s.out.1
    rw [pemmicanlaw40_BatchSplits_8186_eq hp]
    have : decide ((i : Int) < (n6 : Int)) = false := by simp; omega
    rw [this, cond_false]
    simp only [beq_self_eq_true, cond_true]
    have hA : ((X.map (·.2)).take i).flatten = L := by rw [List.take_of_length_le (by simp; omega)]; exact hflat
    rw [hA] at s
    have hn7 : n7 = L.length := by simpa using s.nowr.1
    rw [same40_ok hp3 s.nowr.strs s.arg.strs (by omega) k (by omega)]
    rw [cls, cBs]
    exact ⟨_, rfl⟩
  | m + 1, i, h, p7, n7, c7, k, hi, s, hk => by
    obtain ⟨k, rfl⟩ : ∃ j, k = j + 2 := ⟨k - 2, by omega⟩
    have hn := s.arg.1
    have hn6 : n6 = X.length := by simpa using s.out.1
    have hXl : X.length ≤ 300 := by
      have := flat_len (l := X.map (·.2)) fun b hb => (hY b hb).1
      rw [hflat, List.length_map] at this
      omega
    rw [pemmicanlaw40_BatchSplits_8186_eq hp]
    have : decide ((i : Int) < (n6 : Int)) = true := by simp; omega
    rw [this, cond_true, inb_of (by omega) (by omega)]
    obtain ⟨x, hx⟩ := get_lt (L := X) (i := i) (by omega)
    have hxm : x ∈ X := List.mem_of_getElem? hx
    rw [s.out.readV (p' := some ⟨x.1, 0, none⟩) (n' := x.2.length) (c' := x.2.length) (by simp [hx, bv])]
    obtain ⟨f1, f2, f3⟩ := hY x.2 (List.mem_map_of_mem hxm)
    have e1 : ((x.2.length : Int) == 0) = false := by simp; intro q; rw [q] at f1; simp at f1
    have e2 : decide ((x.2.length : Int) > 100) = false := by simp; omega
    have f3' : sz x.2 ≤ most := f3
    rw [e1, e2]
    simp only [cond_false]
    rw [rbytes_ok hp2 (s.bstrs hxm) (by omega) (by omega) (k + 1) (by omega)]
    rw [cls, cIs]
    have e3 : decide (((sz x.2 : Nat) : Int) > (most : Int)) = false := by simp; omega
    rw [e3, cond_false]
    have hxne : x.2 ≠ [] := List.length_pos_iff.1 f1
    have hAl : ((X.map (·.2)).take i).flatten.length + x.2.length ≤ L.length := by
      have h1 : ((X.map (·.2)).take (i + 1)).flatten = ((X.map (·.2)).take i).flatten ++ x.2 := by
        rw [List.take_add_one]; simp [hx]
      have h2 : (X.map (·.2)).flatten = ((X.map (·.2)).take (i + 1)).flatten ++ ((X.map (·.2)).drop (i + 1)).flatten := by
        rw [← List.flatten_append, List.take_append_drop]
      rw [hflat] at h2
      have h3 := congrArg List.length h2
      have h4 := congrArg List.length h1
      rw [List.length_append] at h3 h4
      omega
    have hn7 : n7 = ((X.map (·.2)).take i).flatten.length := by have := s.nowr.1; rwa [List.length_map] at this
    -- behind the tests
    have fin : ∃ h', pemmicanlaw40_BatchSplits_2095719 pr (k + 1) x0 n x0c most p6 n6 c6 0 p7 n7 c7 (some ⟨x.1, 0, none⟩) x.2.length x.2.length p6 n6 c6 (n6 : Nat) (i : Nat) h = some (.bool true, h') := by
      rw [pemmicanlaw40_BatchSplits_2095719_eq hp]
      obtain ⟨_, _, hg⟩ := s.bats x hxm
      rw [src_of (a := ⟨x.1, 0, none⟩) hg (by simp)]
      have hl : (((x.2.map Value.string).drop 0).take (x.2.length * 1)) = x.2.map Value.string := by rw [List.drop_zero, Nat.mul_one, List.take_of_length_le (by simp)]
      simp only [hl]
      have hap := s.nowr.appL (W := x.2.map .string) (bts := 16) (by simpa using hxne) (by simp [one]) (small_of (by simp; omega) (by omega)) (K := fun d31 d31n d31c h32 => pemmicanlaw40_BatchSplits_8186 pr k x0 n x0c most p6 n6 c6 0 d31 d31n d31c p6 n6 c6 (n6 : Nat) (IntKind.wrap .i64 ((i : Int) + 1)) h32)
      simp only [List.length_map] at hap
      rw [hap]
      rw [wrap_small (by omega) (by omega)]
      have s2 := s.moreL hxne
      have hA : ((X.map (·.2)).take i).flatten ++ x.2 = ((X.map (·.2)).take (i + 1)).flatten := by
        rw [List.take_add_one]; simp [hx]
      rw [hA] at s2
      exact law_loop2 hp hp2 hp3 hm hL hY hT hflat m (i + 1) _ _ _ _ k (by omega) s2 (by omega)
    by_cases hi0 : i = 0
    · have e4 : decide ((i : Int) > 0) = false := by simp; omega
      rw [e4, cond_false]
      exact fin
    · have e4 : decide ((i : Int) > 0) = true := by simp; omega
      rw [e4, cond_true, wrap_small (by omega) (by omega), inb_of (by omega) (by omega)]
      obtain ⟨y, hy⟩ := get_lt (L := X) (i := i - 1) (by omega)
      have hym : y ∈ X := List.mem_of_getElem? hy
      rw [show ((i : Int) - 1) = ((i - 1 : Nat) : Int) by omega]
      rw [s.out.readV (p' := some ⟨y.1, 0, none⟩) (n' := y.2.length) (c' := y.2.length) (by simp [hy, bv])]
      by_cases hl : y.2.length < 100
      · have e5 : decide ((y.2.length : Int) < 100) = true := by simp; omega
        rw [e5, cond_true, inb_of (by omega) (by omega)]
        obtain ⟨u, hu⟩ := get_lt (L := x.2) (i := 0) f1
        rw [nns]
        have hrd := (s.bstrs hxm).read (i := 0) hu (K := fun s23 => cl (pemmicanref18_Bytes pr (k + 1) (some ⟨y.1, 0, none⟩) y.2.length y.2.length h) fun v24 h25 =>
 cI .i64 v24 fun i26 =>
 chk (.cells (some (Addr.add ⟨x.1, 0, none⟩ (Int.toNat 0 * 1))) [(.string s23)]) h25 <|
 cond (decide ((IntKind.wrap .i64 (i26 + (ByteArray.size s23 : Int))) ≤ (most : Int)))
 (some ((.bool false), h25))
 (pemmicanlaw40_BatchSplits_2095719 pr (k + 1) x0 n x0c most p6 n6 c6 0 p7 n7 c7 (some ⟨x.1, 0, none⟩) x.2.length x.2.length p6 n6 c6 (n6 : Nat) (i : Nat) h25))
        rw [nns] at hrd
        simp only [Int.natCast_zero] at hrd
        refine (exists_congr fun h' => by rw [hrd]).mpr ?_
        obtain ⟨g1, g2, g3⟩ := hY y.2 (List.mem_map_of_mem hym)
        have g3' : sz y.2 ≤ most := g3
        rw [rbytes_ok hp2 (s.bstrs hym) (by omega) (by omega) (k + 1) (by omega)]
        rw [cls, cIs]
        obtain ⟨_, _, hg⟩ := s.bats x hxm
        rw [adr, chk_cells (cellsSame_of (a := ⟨x.1, _, none⟩) hg (by simp [vsimple]) (fun j v hj => by
          cases j with
          | zero => simp at hj; subst hj; simp [hu]
          | succ j => simp at hj))]
        have hu100 : u.size ≤ most := by
          have := sz_take x.2 hu
          have h2 := sz_take_le x.2 1
          simp [sz] at this h2
          simp [sz] at f3'
          omega
        rw [wrap_small (by omega) (by omega)]
        have htt := tight_at hT (i := i - 1) (a := y.2) (b := x.2) (s := u) (by simp [hy]) (by rw [show i - 1 + 1 = i by omega]; simp [hx]) (by rw [List.head?_eq_getElem?]; exact hu)
        have e6 : decide (((sz y.2 : Nat) : Int) + (u.size : Int) ≤ (most : Int)) = false := by
          rcases htt with q | q
          · omega
          · have q' : sz y.2 + u.size > most := q
            simp; omega
        rw [e6, cond_false]
        exact fin
      · have e5 : decide ((y.2.length : Int) < 100) = false := by simp; omega
        rw [e5, cond_false]
        exact fin

def mostOf (x1 : Int) : Nat := (mnV (mxV x1 1) 512).toNat
theorem mostOf_eq (x1 : Int) : mnV (mxV x1 1) 512 = (mostOf x1 : Nat) ∧ mostOf x1 ≤ 512 ∧ 1 ≤ mostOf x1 := by
  have h1 : mnV (mxV x1 1) 512 = if (512 : Int) < (if 1 > x1 then 1 else x1) then 512 else (if 1 > x1 then 1 else x1) := rfl
  unfold mostOf
  rw [h1]
  split <;> split <;> omega
theorem law_loop1 (hp : pr 7 = none) (hp2 : pr 28 = none) (hp3 : pr 33 = none) (hp4 : pr 35 = none) (hp5 : pr 79 = none) {x0 : Option Addr} {x0c : Nat} (x1 : Int) (hL : L.length ≤ 300) (hA : ArgR h x0 n L) :
    ∀ (m i k : Nat) (b : Bool), i + m = L.length → (∀ u ∈ L.take i, u.size ≤ 100) → (b = true ↔ ∃ u ∈ L.take i, mostOf x1 < u.size) → m + 1500 ≤ k →
    ∃ h', pemmicanlaw40_BatchSplits_506 pr k x0 n x0c x1 (mostOf x1 : Nat) b x0 n x0c (n : Nat) (i : Nat) h = some (.bool true, h')
  | 0, i, k, b, hi, h100, hb, hk => by
    obtain ⟨k, rfl⟩ : ∃ j, k = j + 2 := ⟨k - 2, by omega⟩
    obtain ⟨hm1, hm2, hm3⟩ := mostOf_eq x1
    have hn := hA.1
    rw [pemmicanlaw40_BatchSplits_506_eq hp]
    have : decide ((i : Int) < (n : Int)) = false := by simp; omega
    rw [this, cond_false, batch_Split_eq hp4, hm1]
    rw [List.take_of_length_le (by omega)] at h100 hb
    have s0 : SpS h none 0 0 none 0 0 x0 n [] [] L := ⟨RowR.empty _ _, RowR.empty _ _, by simp, by simp, hA⟩
    cases b with
    | true =>
      obtain ⟨u, hu, hbig⟩ := hb.1 rfl
      obtain ⟨j, hj⟩ := List.getElem?_of_mem hu
      obtain ⟨h', e⟩ := split_long hp4 hp5 x0c (mostOf x1) hm2 hL h100 L.length 0 h none none 0 0 0 0 [] [] k (by omega) ⟨j, u, by omega, hj, hbig⟩ s0 (by simp) (by simp) (by simp [sz]) (by simp) (by omega)
      simp only [Int.natCast_zero] at e
      rw [e]
      simp only [cls, cTs, ucs, cLs, cIs, ues, cond_true]
      exact ⟨_, rfl⟩
    | false =>
      have hsm : ∀ u ∈ L, u.size ≤ mostOf x1 := by
        intro u hu
        rcases Nat.lt_or_ge (mostOf x1) u.size with q | q
        · have := hb.2 ⟨u, hu, q⟩; cases this
        · exact q
      obtain ⟨h', p', n', c', Y, e, s, hY⟩ := split_ok hp4 hp5 x0c (mostOf x1) hm2 hL L.length 0 h none none 0 0 0 0 [] [] k (by omega) (fun j u hj => hsm u (List.mem_of_getElem? hj)) s0 (by simp) (by simp) (by simp [sz]) (by omega)
      simp only [Int.natCast_zero] at e
      rw [e]
      simp only [cls, cTs, ucs, cLs, cIs, ues, cond_false]
      obtain ⟨g1, g2, g3⟩ := splG_ok ByteArray.size (most := mostOf x1) L [] [] (by simpa using hsm) (by simp) (by simp) (by simp) trivial
      simp only [List.map_nil, List.drop_zero] at hY
      rw [← hY] at g1 g2 g3
      have hYl : Y.length ≤ 300 := by
        have := flat_len (l := Y.map (·.2)) fun b hb => (g1 b hb).1
        rw [g3, List.length_map] at this
        simp at this
        omega
      exact law_loop2 hp hp2 hp3 hm2 hL g1 g2 (by simpa using g3) Y.length 0 h' none 0 0 (k + 1) (by omega) s (by omega)
  | m + 1, i, k, b, hi, h100, hb, hk => by
    obtain ⟨k, rfl⟩ : ∃ j, k = j + 1 := ⟨k - 1, by omega⟩
    have hn := hA.1
    rw [pemmicanlaw40_BatchSplits_506_eq hp]
    have : decide ((i : Int) < (n : Int)) = true := by simp; omega
    rw [this, cond_true, inb_of (by omega) (by omega)]
    obtain ⟨v, hv⟩ := get_lt (L := L) (i := i) (by omega)
    rw [hA.strs.read hv]
    have ht : L.take (i + 1) = L.take i ++ [v] := by rw [List.take_add_one, hv]; rfl
    by_cases hbig : 100 < v.size
    · have : decide ((v.size : Int) > 100) = true := by simp; omega
      rw [this, cond_true]
      exact ⟨_, rfl⟩
    · have : decide ((v.size : Int) > 100) = false := by simp; omega
      rw [this, cond_false, wrap_small (by omega) (by omega)]
      have h100' : ∀ u ∈ L.take (i + 1), u.size ≤ 100 := by
        rw [ht]
        intro u hu
        rcases List.mem_append.1 hu with q | q
        · exact h100 u q
        · rw [List.mem_singleton.1 q]; omega
      cases b with
      | true =>
        rw [cond_true]
        refine law_loop1 hp hp2 hp3 hp4 hp5 x1 hL hA m (i + 1) k true (by omega) h100' ?_ (by omega)
        obtain ⟨u, hu, hq⟩ := hb.1 rfl
        simp only [true_iff]
        exact ⟨u, by rw [ht]; exact List.mem_append.2 (.inl hu), hq⟩
      | false =>
        rw [cond_false]
        refine law_loop1 hp hp2 hp3 hp4 hp5 x1 hL hA m (i + 1) k _ (by omega) h100' ?_ (by omega)
        have hno : ¬ ∃ u ∈ L.take i, mostOf x1 < u.size := fun q => by have := hb.2 q; cases this
        rw [ht]
        simp only [decide_eq_true_eq]
        constructor
        · intro q
          exact ⟨v, by simp, by omega⟩
        · rintro ⟨u, hu, q⟩
          rcases List.mem_append.1 hu with q2 | q2
          · exact absurd ⟨u, q2, q⟩ hno
          · rw [List.mem_singleton.1 q2] at q; omega

def awakeP (args : List Value) (h : Heap) : Out := match args with | [] => some (.bool true, h) | _ => none
theorem awake_reckoned : gives (run (BT pr2) 50000 26 1 [] nil0) (.bool true) = true := by kernel_rfl
def pr3 : Prims := ext pr2 26 awakeP
theorem pr3_ok : PrimOk pr3 := ext_plain pr2_ok fun args h v h' e => by
  unfold awakeP at e
  split at e
  · cases e
    obtain ⟨h2, e2⟩ := gives_ok awake_reckoned
    exact ⟨rfl, rfl, rfl, 50000, h2, e2⟩
  · cases e
theorem batchSplits_ok {x0 : Option Addr} {x0c : Nat} (x1 : Int) (hA : ArgR h x0 n L) : ∃ h', run (BT pr3) 2000 7 1 [.slice x0 n x0c, .int .i64 x1] h = some (.bool true, h') := by
  have hn := hA.1
  have e : run (BT pr3) 2000 7 1 [.slice x0 n x0c, .int .i64 x1] h = pemmicanlaw40_BatchSplits pr3 (1999 + 1) x0 n x0c x1 h := rfl
  have ha : pemmicanlaw40_awake pr3 1999 h = some (.bool true, h) := rfl
  rw [e, pemmicanlaw40_BatchSplits_eq (by rfl), ha]
  rw [cls, cBs]
  simp only [Bool.not_true, cond_false]
  by_cases hbig : 300 < n
  · have : decide ((n : Int) > 300) = true := by simp; omega
    rw [this, cond_true]
    exact ⟨_, rfl⟩
  · have : decide ((n : Int) > 300) = false := by simp; omega
    rw [this, cond_false, (mostOf_eq x1).1]
    exact law_loop1 (by rfl) (by rfl) (by rfl) (by rfl) (by rfl) x1 (by omega) hA L.length 0 1999 false (by omega) (by simp) (by simp) (by omega)
end
end Ab
end Go.Proofs.YtaaacaejpchbpaaGreat
