/- Each operation of the abstract heap is met by the machine's: conversions, addresses, slices. No condition. -/
import Derived.Test.YtaaacaejpchbpaaGreatSim2
import Derived.Laws.BytesString
import Derived.Laws.IdiomStrings
import Derived.Laws.AppendOwn
set_option linter.unusedVariables false
set_option linter.unusedSimpArgs false
namespace Go.Proofs.YtaaacaejpchbpaaGreat
namespace Ab
open Go Go.RowKit
section
variable {P : Program} {E : Env} {w0 w : World} {φ : Map} {h : Heap} {fr : Fr} {a : Act} {o : Oper} {next : Act → World → Prop} {Q : Exit → Act → World → Prop} {ρ : Type} {K : Value → Heap → Option ρ} {r : ρ}

theorem sim_un (hf : FrRel φ fr a.tmps) (hr : Rel w0 φ h w) {op : UnOp} {t : Nat} {x : Operand} (ho : o.op = .unOp op t x)
    (hK : Nx w0 φ h a o next K r) (e : hop E o fr h K = some r) : o.wp P a w next Q := by
  unfold hop at e
  simp only [ho] at e
  obtain ⟨vx, hx, e1⟩ := ev_sim hf e
  have fin : ∀ v, K v h = some r → VR φ v v → (Op.unary op (a.eval x)).run P w = .ok v w → o.wp P a w next Q := by
    intro v h1 h2 h3
    refine wp_value (v := v) (w' := w) ?_ (hK φ _ _ _ _ .same h2 hr h1)
    unfold execOp
    simp only [ho]
    exact run_val h3
  unfold un at e1
  split at e1
  · rw [hx.toInt] at fin
    exact fin _ e1 (.int _ _) (by simp [Op.unary, Op.intArith])
  · rw [hx.toInt] at fin
    exact fin _ e1 (.int _ _) (by simp [Op.unary, Op.intBits, bitV])
  · rw [hx.toBool] at fin
    exact fin _ e1 (.bool _) (by simp [Op.unary])
  · cases e1

theorem VR.toSl {p : Option Addr} {n c : Nat} {v' : Value} (h : VR φ (.slice p n c) v') : (p = none ∧ n = 0 ∧ c = 0 ∧ v' = .slice none 0 0) ∨
    (∃ i off l, p = some ⟨i, off, none⟩ ∧ φ i = some l ∧ n ≤ c ∧ (l.x = 0 ∨ off + (c + l.x) * l.e ≤ l.M) ∧ v' = .slice (some ⟨l.b, l.o + off, none⟩) n (c + l.x)) ∨
    (∃ i off z a' c', p = some ⟨i, off, some z⟩ ∧ n = 0 ∧ c = 0 ∧ (c' = 0 ∨ ∃ k l, φ i = some l ∧ a' = ⟨l.b, l.o + k, none⟩ ∧ k + c' * l.e ≤ l.M) ∧ v' = .slice (some a') 0 c') := by
  cases h with
  | nils => exact .inl ⟨rfl, rfl, rfl, rfl⟩
  | sl h1 h2 h3 => exact .inr (.inl ⟨_, _, _, rfl, h1, h2, h3, rfl⟩)
  | sle h1 => exact .inr (.inr ⟨_, _, _, _, _, rfl, rfl, rfl, h1, rfl⟩)

theorem bytes_VR (φ : Map) : ∀ l : List UInt8, VRs φ (l.map fun b => Value.int .u8 b.toNat) (l.map fun b => Value.int .u8 b.toNat)
  | [] => .nil
  | b :: l => .cons (.int _ _) (bytes_VR φ l)
/-- The cells of a slice or a string, read. -/
theorem src_all {esz : Nat} {x : Value} {K : List Value → Option ρ} (e : src h esz x K = some r) (hr : Rel w0 φ h w) {x' : Value} (hx : VR φ x x') :
    ∃ cs cs', K cs = some r ∧ VRs φ cs cs' ∧ ∀ w1 : World, w1.heap = w.heap → (Builtin.firstCells esz (lenV x) x').run P w1 = .ok ⟨cs'⟩ w1 ∧ (Builtin.lenOf x').run P w1 = .ok (lenV x) w1 ∧ ∀ m, m ≤ lenV x → (m = 0 ∨ cs.length = lenV x * esz) → (Builtin.firstCells esz m x').run P w1 = .ok ⟨cs'.take (m * esz)⟩ w1 := by
  unfold src at e
  split at e
  · rename_i n c
    obtain ⟨hn, e1⟩ := ite_some e
    rcases hx.toSl with ⟨_, h1, h2, rfl⟩ | ⟨i, off, l, h1, _⟩ | ⟨i, off, z, a', c', h1, _⟩
    · subst h1
      exact ⟨[], [], e1, .nil, fun w1 _ => ⟨by simp [Builtin.firstCells, lenV], by simp [Builtin.lenOf, lenV], fun m _ _ => by simp [Builtin.firstCells]⟩⟩
    · cases h1
    · cases h1
  · rename_i a n c
    split at e
    · rename_i cs es q hg
      obtain ⟨hb, e1⟩ := ite_some e
      rcases hx.toSl with ⟨h1, _⟩ | ⟨i, off, l, h1, hi, h2, h3, rfl⟩ | ⟨i, off, z, a', c', h1, hn, hc, _, rfl⟩
      · cases h1
      · cases h1
        obtain ⟨C, t, fz, hw, hC, _⟩ := hr.cells hi hg
        have hCl := take_len hC
        have hrun := fun (w1 : World) (hw1 : w1.heap = w.heap) (m : Nat) (hm : m ≤ n) => run_loadCells (P := P) w1 ⟨l.b, l.o + off, none⟩ (m * esz) (fun j => C.toList.getD (l.o + off + j) undef) (fun j hj => by
          rw [add_none]
          simp only [World.cell?, hw1, hw]
          have : l.o + off + j < C.size := by have := Nat.mul_le_mul_right esz hm; simp at hb; omega
          simp [List.getD, this])
        refine ⟨_, (List.range (n * esz)).map fun j => C.toList.getD (l.o + off + j) undef, e1, ?_, fun w1 hw1 => ⟨?_, by simp [Builtin.lenOf, lenV], ?_⟩⟩
        · refine VRs.of_get (by simp at hb ⊢; omega) fun j v hv => ?_
          have hj : j < n * esz := by
            rcases Nat.lt_or_ge j (n * esz) with q | q
            · exact q
            · rw [List.getElem?_take_eq_none q] at hv; cases hv
          rw [List.getElem?_take_of_lt hj, List.getElem?_drop] at hv
          obtain ⟨v', h4, h5⟩ := hC.get (off + j) hv
          refine ⟨v', ?_, h5⟩
          have hlt : off + j < cs.length := by
            rcases Nat.lt_or_ge (off + j) cs.length with q | q
            · exact q
            · simp [List.getElem?_eq_none q] at hv
          rw [List.getElem?_take_of_lt hlt, List.getElem?_drop, ← Nat.add_assoc] at h4
          have h6 : C[l.o + off + j]? = some v' := by simpa using h4
          simp [List.getElem?_range hj, List.getD, h6]
        · simp only [Builtin.firstCells, lenV, hrun w1 hw1 n (Nat.le_refl _)]
        · intro m hm _
          simp only [lenV] at hm
          have := Nat.mul_le_mul_right esz hm
          simp only [Builtin.firstCells, hrun w1 hw1 m hm, ← List.map_take, List.take_range, Nat.min_eq_left this]
      · cases h1
        subst hn
        refine ⟨_, [], e1, ?_, fun w1 hw1 => ⟨?_, by simp [Builtin.lenOf, lenV], ?_⟩⟩
        · simp; exact .nil
        · simp [Builtin.firstCells, lenV, loadCells, loadCellsFrom]
        · intro m hm _
          have : m = 0 := by simpa [lenV] using hm
          subst this
          simp [Builtin.firstCells, lenV, loadCells, loadCellsFrom]
    · cases e
  · rename_i s
    rw [hx.toStr]
    refine ⟨_, s.data.toList.map fun b => .int .u8 b.toNat, e, ?_, fun w1 hw1 => ⟨?_, by simp [Builtin.lenOf, lenV], ?_⟩⟩
    · exact bytes_VR φ _
    · simp only [Builtin.firstCells, lenV]
      have : ((s.extract 0 s.size).data.map fun b => Value.int .u8 b.toNat) = ⟨s.data.toList.map fun b => Value.int .u8 b.toNat⟩ := by
        apply Array.ext'
        rw [Array.toList_map]
        simp
      rw [this]
      rfl
    · intro m hm hlen
      simp only [Builtin.firstCells, lenV] at hm hlen ⊢
      have h1 : m * esz = m := by
        rcases hlen with q | hlen
        · rw [q]; simp
        simp at hlen
        rcases Nat.eq_zero_or_pos s.size with q | q
        · have : m = 0 := by omega
          rw [this]; simp
        · have : esz = 1 := Nat.eq_of_mul_eq_mul_left q (by omega)
          rw [this, Nat.mul_one]
      rw [h1]
      have : ((s.extract 0 m).data.map fun b => Value.int .u8 b.toNat) = ⟨(s.data.toList.map fun b => Value.int .u8 b.toNat).take m⟩ := by
        apply Array.ext'
        rw [Array.toList_map]
        simp [List.map_take]
      rw [this]
      rfl
  · cases e
theorem src_some {esz : Nat} {x : Value} {K : List Value → Option ρ} (e : src h esz x K = some r) (hr : Rel w0 φ h w) {x' : Value} (hx : VR φ x x') :
    ∃ cs cs', K cs = some r ∧ VRs φ cs cs' ∧ (Builtin.firstCells esz (lenV x) x').run P w = .ok ⟨cs'⟩ w ∧ (Builtin.lenOf x').run P w = .ok (lenV x) w := by
  obtain ⟨cs, cs', h1, h2, h3⟩ := src_all (P := P) e hr hx
  exact ⟨cs, cs', h1, h2, (h3 w rfl).1, (h3 w rfl).2.1⟩

theorem byteL_some : ∀ (l : List Value) (acc s : List UInt8), byteL l acc = some s → ∃ ns : List Int, l = ns.map (Value.int .u8) ∧ s = acc.reverse ++ ns.map fun n => UInt8.ofNat n.toNat
  | [], acc, s, e => by simp [byteL] at e; exact ⟨[], rfl, by simp [e]⟩
  | v :: l, acc, s, e => by
    unfold byteL at e
    split at e
    · rename_i h; cases h
    · rename_i n m h
      cases h
      obtain ⟨ns, h1, h2⟩ := byteL_some l _ s e
      exact ⟨n :: ns, by simp [h1], by rw [h2]; simp⟩
    · cases e
theorem VRs.ints {φ : Map} {k : IntKind} : ∀ {ns : List Int} {l : List Value}, VRs φ (ns.map (Value.int k)) l → l = ns.map (Value.int k)
  | [], _, h => by cases h; rfl
  | n :: ns, _, h => by
    cases h with
    | cons a t => rw [VR.toInt a, VRs.ints t]; rfl
theorem fold_bytes : ∀ (ns : List Int) (s : ByteArray), ns.foldl (fun (r : ByteArray) n => r.push (UInt8.ofNat n.toNat)) s = ⟨(s.data.toList ++ ns.map fun n => UInt8.ofNat n.toNat).toArray⟩
  | [], s => by cases s; simp
  | n :: ns, s => by
    rw [List.foldl_cons, fold_bytes ns]
    simp [ByteArray.push]

theorem strOf_some {p : Option Addr} {n c : Nat} {K : ByteArray → Option ρ} (e : strOf h p n K = some r) (hr : Rel w0 φ h w) {x' : Value} (hx : VR φ (.slice p n c) x') :
    ∃ s, K s = some r ∧ (Conv.bytesToString x').run P w = .ok (.string s) w := by
  unfold strOf at e
  split at e
  · rename_i s hs
    refine ⟨s, e, ?_⟩
    unfold toStr at hs
    split at hs
    · obtain ⟨hn, h1⟩ := ite_some hs
      cases h1
      rcases hx.toSl with ⟨_, _, _, rfl⟩ | ⟨i, off, l, h1, _⟩ | ⟨i, off, z, a', c', h1, _⟩
      · simp [Conv.bytesToString]; rfl
      · cases h1
      · cases h1
    · rename_i a
      split at hs
      · rename_i cs es q hg
        obtain ⟨hb, h1⟩ := ite_some hs
        rw [Option.map_eq_some_iff] at h1
        obtain ⟨bs, h2, h3⟩ := h1
        obtain ⟨ns, h4, h5⟩ := byteL_some _ _ _ h2
        simp at h5
        have hsrc : src h 1 (.slice (some a) n c) (fun l => some l) = some (ns.map (Value.int .u8)) := by
          unfold src
          simp only [hg, Nat.mul_one, hb, if_true, h4]
        obtain ⟨cs1, cs', h6, h7, h8, _⟩ := src_some (P := P) hsrc hr hx
        cases h6
        have h9 := VRs.ints h7
        subst h9
        have hval : s = ns.foldl (fun r n => r.push (UInt8.ofNat n.toNat)) ByteArray.empty := by
          rw [fold_bytes, ← h3, h5]; rfl
        rcases hx.toSl with ⟨h1, _⟩ | ⟨i, off, l, h1, hi, _, _, rfl⟩ | ⟨i, off, z, a', c', h1, hn, _, _, rfl⟩
        · cases h1
        · rw [hval]
          refine run_bytesToString w _ n _ ns ?_
          simp only [Builtin.firstCells, lenV, Nat.mul_one] at h8
          exact h8
        · subst hn
          rw [hval]
          refine run_bytesToString w _ 0 _ ns ?_
          simp only [Builtin.firstCells, lenV, Nat.mul_one] at h8
          exact h8
      · cases hs
  · cases e

theorem sim_conv (hT : TOk P E.T) (hf : FrRel φ fr a.tmps) (hr : Rel w0 φ h w) {s d : Nat} {x : Operand} (ho : o.op = .convert s d x)
    (hK : Nx w0 φ h a o next K r) (e : hop E o fr h K = some r) : o.wp P a w next Q := by
  unfold hop at e
  simp only [ho] at e
  obtain ⟨v, hv, e1⟩ := ev_sim hf e
  have fin : ∀ φ' v v' h' w', Grow h h' φ φ' → VR φ' v v' → Rel w0 φ' h' w' → K v h' = some r → (convert s d (a.eval x)).run P w = .ok v' w' → o.wp P a w next Q := by
    intro φ' v v' h' w' h1 h2 h3 h4 h5
    refine wp_value (v := v') (w' := w') ?_ (hK φ' _ _ _ _ h1 h2 h3 h4)
    unfold execOp
    simp only [ho]
    exact run_val h5
  unfold conv at e1
  split at e1
  · rename_i k k' n hs
    split at e1
    · rename_i hok
      obtain ⟨ds, hds, _⟩ := (hT.fit s hok).u
      have f := hT.of_sh (t := d) (by rw [hs]; simp)
      obtain ⟨dd, hd, hsh⟩ := f.u
      rw [hs] at hsh; simp only [ShOk] at hsh; subst hsh
      exact fin φ _ _ h w .same (.int _ _) hr e1 (by rw [hv.toInt]; simp [convert, run_underlying hds, run_underlying hd, Conv.intToInt])
    · cases e1
  · rename_i b hs
    split at e1
    · rename_i hs2
      obtain ⟨ds, hds, hsh2⟩ := (hT.of_sh (t := s) (by rw [hs2]; simp)).u
      rw [hs2] at hsh2; simp only [ShOk] at hsh2; subst hsh2
      obtain ⟨dd, hd, hsh⟩ := (hT.of_sh (t := d) (by rw [hs]; simp)).u
      rw [hs] at hsh; simp only [ShOk] at hsh; subst hsh
      exact fin φ _ _ h w .same (.str _) hr e1 (by rw [hv.toStr]; simp [convert, run_underlying hds, run_underlying hd])
    · cases e1
  · rename_i el b hs
    split at e1
    · rename_i hs2 hs3
      obtain ⟨ds, hds, hsh2⟩ := (hT.of_sh (t := s) (by rw [hs2]; simp)).u
      rw [hs2] at hsh2; simp only [ShOk] at hsh2; subst hsh2
      obtain ⟨dd, hd, hsh⟩ := (hT.of_sh (t := d) (by rw [hs]; simp)).u
      rw [hs] at hsh; simp only [ShOk] at hsh; subst hsh
      obtain ⟨de, hde, hshe⟩ := (hT.of_sh (t := el) (by rw [hs3]; simp)).u
      rw [hs3] at hshe; simp only [ShOk] at hshe; subst hshe
      have hrun := run_bytes_of_string w s d el b hds hd hde
      have hfe := hT.of_sh (t := el) (by rw [hs3]; simp)
      have hfs : (E.T el).size = 1 := hfe.one (by simp [TyR.isAgg, hs3])
      unfold bytesOf at e1
      generalize hcap : grownCap w b.size 0 el = cap at hrun
      have hcapb : b.size ≤ cap := by
        rw [← hcap]
        exact grownCap_ge w b.size 0 el
      obtain ⟨φ', h1, h2, h3, h4⟩ := (Rel.drew hr).alloc h.size (h.push (.cells (b.data.toList.map fun b => .int .u8 b.toNat) (E.T el).rc false)) (.cells (bytesRow b cap) el ((bytesRow b cap).size, (bytesRow b cap).size + 1)) (cap - b.size) 1 cap
        (fresh_none hr (Nat.le_refl _)) (fun j hj _ => .inl (push_old h _ hj)) (by simp [Heap.push]) (by simp [Heap.push]) (hr.wf.push _)
        (fun φ' he => by
          rw [push_get]
          refine ⟨?_, ⟨by rw [hfe.rc.1, hfs], fun q => by rw [hfe.rc.1, hfs] at q; cases q⟩, hfe.tagR (.inl (by rw [hfs]; decide)), fun _ => ⟨hr.below.size, fun o ho => by simp at ho ⊢; omega, ?_⟩⟩
          · have : ((bytesRow b cap).toList.take (b.data.toList.map fun b => Value.int .u8 b.toNat).length) = b.data.toList.map fun b => Value.int .u8 b.toNat := by
              simp [bytesRow]
            rw [List.drop_zero, this]
            exact bytes_VR φ' _
          · simp [bytesRow, ← ByteArray.size_data]; omega)
      refine fin φ' _ _ _ _ (.of h1 (by simp [Heap.push]) (Nat.le_refl _) h3) (.sl (l := ⟨w.heap.size, 0, cap - b.size, 1, cap⟩) h2 (Nat.le_refl _) (.inr (by simp; omega))) h4 e1 ?_
      rw [hv.toStr, hrun]
      have : b.size + (cap - b.size) = cap := by omega
      simp only [this]
      rfl
    · cases e1
  · rename_i p n c hs
    split at e1
    · rename_i el hs2
      split at e1
      · rename_i hs3
        obtain ⟨ds, hds, hsh2⟩ := (hT.of_sh (t := s) (by rw [hs2]; simp)).u
        rw [hs2] at hsh2; simp only [ShOk] at hsh2; subst hsh2
        obtain ⟨dd, hd, hsh⟩ := (hT.of_sh (t := d) (by rw [hs]; simp)).u
        rw [hs] at hsh; simp only [ShOk] at hsh; subst hsh
        obtain ⟨de, hde, hshe⟩ := (hT.of_sh (t := el) (by rw [hs3]; simp)).u
        rw [hs3] at hshe; simp only [ShOk] at hshe; subst hshe
        obtain ⟨b, h1, h2⟩ := strOf_some (P := P) e1 hr hv
        refine fin φ _ _ h w .same (.str b) hr h1 ?_
        have : ∃ p' n' c', a.eval x = .slice p' n' c' := by
          rcases hv.toSl with ⟨_, _, _, q⟩ | ⟨_, _, _, _, _, _, _, q⟩ | ⟨_, _, _, _, _, _, _, _, _, q⟩ <;> exact ⟨_, _, _, q⟩
        obtain ⟨p', n', c', hq⟩ := this
        rw [hq] at h2 ⊢
        rw [run_convert_bytes_string w s d el p' n' c' hds hde hd, h2]
      · cases e1
    · cases e1
  · cases e1

theorem sim_iface (hT : TOk P E.T) (hf : FrRel φ fr a.tmps) (hr : Rel w0 φ h w) {t : Nat} {x : Operand} (ho : o.op = .makeInterface t x)
    (hK : Nx w0 φ h a o next K r) (e : hop E o fr h K = some r) : o.wp P a w next Q := by
  unfold hop at e
  simp only [ho] at e
  have key : ∀ {d : TypeDesc}, P.underlying t = some d → (∀ m, d ≠ .interface m) → (ev fr x fun v => K (.iface t v) h) = some r → o.wp P a w next Q := by
    intro d hd hn e
    obtain ⟨v, hv, e1⟩ := ev_sim hf e
    refine wp_value (v := .iface t (a.eval x)) (w' := w) ?_ (hK φ _ _ _ _ .same (.iface hv) hr e1)
    unfold execOp
    simp only [ho]
    refine run_val ?_
    simp only [Instr.makeInterface, Sem.run_bind, run_underlying hd, Result.andThen_ok]
    cases d <;> first | exact absurd rfl (hn _) | rfl
  have gen : (E.T t).sh ≠ .no → (E.T t).sh ≠ .iface → (ev fr x fun v => K (.iface t v) h) = some r → o.wp P a w next Q := by
    intro h1 h2 e
    obtain ⟨d, hd, hs⟩ := (hT.of_sh h1).u
    refine key hd ?_ e
    rintro m rfl
    cases hsh : (E.T t).sh <;> rw [hsh] at hs h1 h2 <;> simp [ShOk] at hs h1 h2
  split at e
  · cases e
  · cases e
  · rename_i h1 h2
    exact gen h1 h2 e

theorem sim_func (hf : FrRel φ fr a.tmps) (hr : Rel w0 φ h w) {fn : Fn} {x y : Array Operand} (ho : o.op = .makeFunc fn x y)
    (hK : Nx w0 φ h a o next K r) (e : hop E o fr h K = some r) : o.wp P a w next Q := by
  unfold hop at e
  simp only [ho] at e
  obtain ⟨vs, h1, e1⟩ := evL_sim hf e
  obtain ⟨us, h2, e2⟩ := evL_sim hf e1
  refine wp_value (v := .func fn (x.map a.eval) (y.map a.eval)) (w' := w) ?_ (hK φ _ _ _ _ .same (.func (by simpa using h1) (by simpa using h2)) hr e2)
  unfold execOp
  simp [ho, Instr.makeFunc]

theorem sim_extract (hf : FrRel φ fr a.tmps) (hr : Rel w0 φ h w) {x : Operand} {i : Nat} (ho : o.op = .extract x i)
    (hK : Nx w0 φ h a o next K r) (e : hop E o fr h K = some r) : o.wp P a w next Q := by
  unfold hop at e
  simp only [ho] at e
  obtain ⟨v, hv, e1⟩ := ev_sim hf e
  split at e1
  · rename_i vs
    split at e1
    · rename_i u hu
      obtain ⟨c', h1, h2⟩ := hv.toTuple
      obtain ⟨u', h3, h4⟩ := h2.get i hu
      refine wp_value (v := u') (w' := w) ?_ (hK φ _ _ _ _ .same h4 hr e1)
      unfold execOp
      have h3' : c'[i]? = some u' := by simpa using h3
      simp [ho, h1, Instr.extract, h3']
    · cases e1
  · cases e1

theorem sim_fieldAddr (hT : TOk P E.T) (hf : FrRel φ fr a.tmps) (hr : Rel w0 φ h w) {s f : Nat} {x : Operand} (ho : o.op = .fieldAddr s x f)
    (hK : Nx w0 φ h a o next K r) (e : hop E o fr h K = some r) : o.wp P a w next Q := by
  unfold hop at e
  simp only [ho] at e
  obtain ⟨v, hv, e1⟩ := ev_sim hf e
  split at e1
  · rename_i fs hs
    split at e1
    · rename_i off t hft
      obtain ⟨d, hd, hsh⟩ := (hT.of_sh (t := s) (by rw [hs]; simp)).u
      rw [hs] at hsh; simp only [ShOk] at hsh
      obtain ⟨F, rfl, hF⟩ := hsh
      split at e1
      · rename_i n hok hn
        obtain ⟨p, rfl, e2⟩ := cP_some e1
        obtain ⟨a', rfl, e3⟩ := nn_some e2
        have hFf : ∃ fd, F[f]? = some fd ∧ fd.offset = off ∧ fd.type = t := by
          rw [← hF] at hft
          simp at hft
          obtain ⟨fd, h1, h2, h3⟩ := hft
          exact ⟨fd, h1, h2, h3⟩
        obtain ⟨fd, hfd, hoff, hty⟩ := hFf
        rcases hv.toPtr with ⟨hh, _⟩ | ⟨i, o2, l, hh, hi, h2⟩
        · cases hh
        · cases hh
          refine wp_value (v := .pointer (some ⟨l.b, l.o + o2 + off, none⟩)) (w' := w) ?_ (hK φ _ _ _ _ .same (by rw [add_none, Nat.add_assoc]; exact .ptr hi) hr e3)
          unfold execOp
          simp only [ho, h2]
          refine run_val ?_
          have hsz := (hT.fit t hok).run_size w
          simp [Instr.fieldAt, run_underlying hd, hfd, Instr.sureAddr, fieldPlace, hty, hsz, hn, hoff, add_none]
      · cases e1
    · cases e1
  · cases e1

/-- A part of a struct's or an array's value. -/
theorem part_some (hT : TOk P E.T) {t off : Nat} {cs : List Value} {cs' : Array Value} {K : Value → Option ρ} (hok : (E.T t).ok = true) (hc : VRs φ cs cs'.toList) (e : partTy E.T t cs off K = some r) :
    ∃ v v', K v = some r ∧ VR φ v v' ∧ (part t cs' off).run P w = .ok v' w := by
  unfold partTy at e
  have f := hT.fit t hok
  have hl := hc.length
  split at e
  · rename_i ha
    obtain ⟨hb, e1⟩ := ite_some e
    refine ⟨_, _, e1, .agg (a' := cs'.extract off (off + (E.T t).size)) ?_, ?_⟩
    · have : (cs'.extract off (off + (E.T t).size)).toList = (cs'.toList.drop off).take (E.T t).size := by
        simp [List.extract_eq_take_drop]
      rw [this]
      exact VRs.take _ (VRs.drop _ hc)
    · simp [part, f.run_isAgg w, ha, f.run_size w]
  · rename_i ha
    obtain ⟨v, h1, h2⟩ := gt_some e
    obtain ⟨v', h3, h4⟩ := hc.get off h1
    have h3' : cs'[off]? = some v' := by simpa using h3
    exact ⟨v, v', h2, h4, by simp [part, f.run_isAgg w, ha, h3']⟩

theorem sim_field (hT : TOk P E.T) (hf : FrRel φ fr a.tmps) (hr : Rel w0 φ h w) {s f : Nat} {x : Operand} (ho : o.op = .field s x f)
    (hK : Nx w0 φ h a o next K r) (e : hop E o fr h K = some r) : o.wp P a w next Q := by
  unfold hop at e
  simp only [ho] at e
  obtain ⟨v, hv, e1⟩ := ev_sim hf e
  obtain ⟨cs, rfl, e2⟩ := cA_some e1
  obtain ⟨cs', h1, h2⟩ := hv.toAgg
  split at e2
  · rename_i fs hs
    split at e2
    · rename_i off t hft
      obtain ⟨d, hd, hsh⟩ := (hT.of_sh (t := s) (by rw [hs]; simp)).u
      rw [hs] at hsh; simp only [ShOk] at hsh
      obtain ⟨F, rfl, hF⟩ := hsh
      split at e2
      · rename_i hok
        have hFf : ∃ fd, F[f]? = some fd ∧ fd.offset = off ∧ fd.type = t := by
          rw [← hF] at hft
          simp at hft
          obtain ⟨fd, h1, h2, h3⟩ := hft
          exact ⟨fd, h1, h2, h3⟩
        obtain ⟨fd, hfd, hoff, hty⟩ := hFf
        obtain ⟨u, u', h3, h4, h5⟩ := part_some (P := P) (w := w) hT hok h2 e2
        refine wp_value (v := u') (w' := w) ?_ (hK φ _ _ _ _ .same h4 hr (castTy_some h3))
        unfold execOp
        simp only [ho, h1]
        refine run_val ?_
        simp [Instr.field, run_underlying hd, hfd, asAgg, hty, hoff, h5]
      · cases e2
    · cases e2
  · cases e2

theorem sim_index (hT : TOk P E.T) (hf : FrRel φ fr a.tmps) (hr : Rel w0 φ h w) {s : Nat} {x y : Operand} (ho : o.op = .index s x y)
    (hK : Nx w0 φ h a o next K r) (e : hop E o fr h K = some r) : o.wp P a w next Q := by
  unfold hop at e
  simp only [ho] at e
  obtain ⟨v, hv, e1⟩ := ev_sim hf e
  obtain ⟨u, hu, e2⟩ := ev_sim hf e1
  split at e2
  · rename_i st k i hs
    obtain ⟨d, hd, hsh⟩ := (hT.of_sh (t := s) (by rw [hs]; simp)).u
    rw [hs] at hsh; simp only [ShOk] at hsh; subst hsh
    unfold idxS at e2
    obtain ⟨h0, e3⟩ := ite_some e2
    split at e3
    · rename_i b hb
      refine wp_value (v := .int .u8 b.toNat) (w' := w) ?_ (hK φ _ _ _ _ .same (.int _ _) hr e3)
      unfold execOp
      simp only [ho, hv.toStr, hu.toInt]
      refine run_val ?_
      simp [Instr.index, asIntOf, run_underlying hd, h0, hb]
    · cases e3
  · rename_i n el cs k i hs
    obtain ⟨d, hd, hsh⟩ := (hT.of_sh (t := s) (by rw [hs]; simp)).u
    rw [hs] at hsh; simp only [ShOk] at hsh; subst hsh
    split at e2
    · rename_i hok
      obtain ⟨h0, h1, e3⟩ := inb_some e2
      obtain ⟨cs', h2, h3⟩ := hv.toAgg
      obtain ⟨z, z', h4, h5, h6⟩ := part_some (P := P) (w := w) hT hok h3 e3
      refine wp_value (v := z') (w' := w) ?_ (hK φ _ _ _ _ .same h5 hr (castTy_some h4))
      unfold execOp
      simp only [ho, h2, hu.toInt]
      refine run_val ?_
      simp [Instr.index, asIntOf, run_underlying hd, h0, h1, (hT.fit el hok).run_size w, h6]
    · cases e2
  · cases e2

theorem sim_indexAddr (hT : TOk P E.T) (hf : FrRel φ fr a.tmps) (hr : Rel w0 φ h w) {s : Nat} {x y : Operand} (ho : o.op = .indexAddr s x y)
    (hK : Nx w0 φ h a o next K r) (e : hop E o fr h K = some r) : o.wp P a w next Q := by
  unfold hop at e
  simp only [ho] at e
  obtain ⟨v, hv, e1⟩ := ev_sim hf e
  obtain ⟨u, hu, e2⟩ := ev_sim hf e1
  unfold ixA at e2
  split at e2
  · rename_i k i
    split at e2
    · rename_i n el p hs
      obtain ⟨d, hd, hsh⟩ := (hT.of_sh (t := s) (by rw [hs]; simp)).u
      rw [hs] at hsh; simp only [ShOk] at hsh; subst hsh
      split at e2
      · rename_i hok
        obtain ⟨q, rfl, e3⟩ := nn_some e2
        obtain ⟨h0, h1, e4⟩ := inb_some e3
        rcases hv.toPtr with ⟨hh, _⟩ | ⟨j, off, l, hh, hi, h2⟩
        · cases hh
        · cases hh
          refine wp_value (v := .pointer (some ⟨l.b, l.o + off + i.toNat * (E.T el).size, none⟩)) (w' := w) ?_ (hK φ _ _ _ _ .same (by rw [add_none, Nat.add_assoc]; exact .ptr hi) hr e4)
          unfold execOp
          simp only [ho, h2, hu.toInt]
          refine run_val ?_
          simp [Instr.indexAt, asIntOf, run_underlying hd, h0, h1, (hT.fit el hok).run_size w, Instr.sureAddr, add_none]
      · cases e2
    · rename_i el p n c hs
      obtain ⟨d, hd, hsh⟩ := (hT.of_sh (t := s) (by rw [hs]; simp)).u
      rw [hs] at hsh; simp only [ShOk] at hsh; subst hsh
      split at e2
      · rename_i hok
        obtain ⟨h0, h1, e3⟩ := inb_some e2
        obtain ⟨q, rfl, e4⟩ := nn_some e3
        rcases hv.toSl with ⟨hh, _⟩ | ⟨j, off, l, hh, hi, _, _, h2⟩ | ⟨j, off, z, a', c', hh, hn, _, _, h2⟩
        · cases hh
        · cases hh
          refine wp_value (v := .pointer (some ⟨l.b, l.o + off + i.toNat * (E.T el).size, none⟩)) (w' := w) ?_ (hK φ _ _ _ _ .same (by rw [add_none, Nat.add_assoc]; exact .ptr hi) hr e4)
          unfold execOp
          simp only [ho, h2, hu.toInt]
          refine run_val ?_
          simp [Instr.indexAt, asIntOf, run_underlying hd, h0, h1, (hT.fit el hok).run_size w, add_none]
        · subst hn; omega
      · cases e2
    · cases e2
  · cases e2
end
end Ab
end Go.Proofs.YtaaacaejpchbpaaGreat
