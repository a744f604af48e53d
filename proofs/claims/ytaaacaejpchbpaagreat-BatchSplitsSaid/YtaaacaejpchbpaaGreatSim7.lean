/- Each operation of the abstract heap is met by the machine's: calls; all operations. No condition. -/
import Derived.Test.YtaaacaejpchbpaaGreatSim6
set_option linter.unusedVariables false
set_option linter.unusedSimpArgs false
namespace Go.Proofs.YtaaacaejpchbpaaGreat
namespace Ab
open Go Go.RowKit
section
variable {P : Program} {E : Env} {w0 w : World} {φ : Map} {h : Heap} {fr : Fr} {a : Act} {o : Oper} {next : Act → World → Prop} {Q : Exit → Act → World → Prop} {ρ : Type} {K : Value → Heap → Option ρ} {r : ρ}

theorem sim_len (hT : TOk P E.T) (hr : Rel w0 φ h w) {ats : Array TypeId} {ty : TypeId} {x : Value} {x' : Value} (hx : VR φ x x')
    (e : bi E .len ats.toList [x] h K = some r) (hK : ∀ φ' v v' h' w', Grow h h' φ φ' → VR φ' v v' → Rel w0 φ' h' w' → K v h' = some r → (Builtin.len_ ats ty #[x']).run P w = .ok v' w' → o.wp P a w next Q) : o.wp P a w next Q := by
  unfold bi at e
  simp only at e
  split at e
  · rename_i t hats
    have ha0 : ats[0]? = some t := by rw [← Array.getElem?_toList, hats]; rfl
    have fin : ∀ n : Nat, K (.int .i64 n) h = some r → (Builtin.len_ ats ty #[x']).run P w = .ok (.int .i64 n) w → o.wp P a w next Q := fun n h1 h2 => hK φ _ _ h w .same (.int _ _) hr h1 h2
    split at e
    · rename_i s hsh
      obtain ⟨d, hd, hshd⟩ := (hT.of_sh (t := t) (by rw [hsh]; simp)).u
      rw [hsh] at hshd; simp only [ShOk] at hshd; subst hshd
      refine fin _ e ?_
      rw [hx.toStr]
      simp [Builtin.len_, ha0, run_underlying hd, goInt]
    · rename_i el p n c hsh
      obtain ⟨d, hd, hshd⟩ := (hT.of_sh (t := t) (by rw [hsh]; simp)).u
      rw [hsh] at hshd; simp only [ShOk] at hshd; subst hshd
      refine fin _ e ?_
      rcases hx.toSl with ⟨_, h1, _, h2⟩ | ⟨_, _, _, _, _, _, _, h2⟩ | ⟨_, _, _, _, _, _, h1, _, _, h2⟩ <;> rw [h2]
      · subst h1; simp [Builtin.len_, ha0, run_underlying hd, goInt]
      · simp [Builtin.len_, ha0, run_underlying hd, goInt]
      · subst h1; simp [Builtin.len_, ha0, run_underlying hd, goInt]
    · rename_i n el hsh
      obtain ⟨d, hd, hshd⟩ := (hT.of_sh (t := t) (by rw [hsh]; simp)).u
      rw [hsh] at hshd; simp only [ShOk] at hshd; subst hshd
      refine fin _ e ?_
      simp [Builtin.len_, ha0, run_underlying hd, goInt]
    · rename_i k v hsh
      obtain ⟨d, hd, hshd⟩ := (hT.of_sh (t := t) (by rw [hsh]; simp)).u
      rw [hsh] at hshd; simp only [ShOk] at hshd; subst hshd
      refine fin 0 e ?_
      have : x' = .map none := by cases hx; rfl
      rw [this]
      simp [Builtin.len_, ha0, run_underlying hd, goInt]
    · rename_i k v i hsh
      obtain ⟨d, hd, hshd⟩ := (hT.of_sh (t := t) (by rw [hsh]; simp)).u
      rw [hsh] at hshd; simp only [ShOk] at hshd; subst hshd
      split at e
      · rename_i es hg
        obtain ⟨l, hl, rfl⟩ : ∃ l, φ i = some l ∧ x' = .map (some l.b) := by cases hx; exact ⟨_, by assumption, rfl⟩
        obtain ⟨O, hw, ho⟩ := hr.obj i l hl
        rw [hg] at ho
        cases O <;> first | exact ho.elim | skip
        rename_i es' _
        refine fin _ e ?_
        have hlen := ho.1.length
        simp at hlen
        simp [Builtin.len_, ha0, run_underlying hd, goInt, getObj, Sem.run, hw, hlen]
      · cases e
    · cases e
  · cases e

/-- What the call of a function is met by. -/
def Met (P : Program) (w0 : World) (φ : Map) (h : Heap) (f : Nat) (args' : Array Value) (w : World) (v : Value) (h' : Heap) : Prop :=
  ((callFunc f args').run P w = .ok (.enter f args') w ∧ Calls P f args' w fun e w' => ∃ v' φ', e = .returned v' ∧ Grow h h' φ φ' ∧ VR φ' v v' ∧ Rel w0 φ' h' w') ∨
  ∃ v' w' φ', (callFunc f args').run P w = .ok (.value v') w' ∧ Grow h h' φ φ' ∧ VR φ' v v' ∧ Rel w0 φ' h' w'
def SOk (P : Program) (w0 : World) (S : Nat → List Value → Heap → Out) : Prop :=
  ∀ f args args' h φ w v h', VRs φ args (args' : Array Value).toList → Rel w0 φ h w → S f args h = some (v, h') → Met P w0 φ h f args' w v h'
/-- What the table of methods says of the program's. -/
structure MOk (P : Program) (M : Nat → String → Option (Nat × Option Nat)) : Prop where
  plain : ∀ t m f, M t m = some (f, none) → ∀ v w, (method (P.types.size + Made.depth) t v m).run P w = .ok (f, v) w
  via : ∀ t m f e, M t m = some (f, some e) → ∀ a v w, (loadVar e a).run P w = .ok v w → (method (P.types.size + Made.depth) t (.pointer (some a)) m).run P w = .ok (f, v) w

theorem met_wp {f : Nat} {args' : Array Value} {v : Value} {h' : Heap} (hm : Met P w0 φ h f args' w v h') (hx : (execOp a.eval o).run P w = (callFunc f args').run P w)
    (hK : Nx w0 φ h a o next K r) (e : K v h' = some r) : o.wp P a w next Q := by
  unfold Oper.wp
  rw [hx]
  rcases hm with ⟨h1, h2⟩ | ⟨v', w', φ', h1, h2, h3, h4⟩
  · rw [h1]
    refine Calls.mono h2 ?_
    rintro e' w' ⟨v', φ', rfl, h3, h4, h5⟩
    exact hK φ' v v' h' w' h3 h4 h5 e
  · rw [h1]
    exact hK φ' v v' h' w' h2 h3 h4 e

theorem VRs.one {x : Value} {A : Array Value} (hv : VRs φ [x] A.toList) : ∃ x', A = #[x'] ∧ VR φ x x' := by
  obtain ⟨l⟩ := A
  cases hv with
  | cons a t => cases t; exact ⟨_, rfl, a⟩
theorem VRs.two {x y : Value} {A : Array Value} (hv : VRs φ [x, y] A.toList) : ∃ x' y', A = #[x', y'] ∧ VR φ x x' ∧ VR φ y y' := by
  obtain ⟨l⟩ := A
  cases hv with
  | cons a t => cases t with
    | cons b t => cases t; exact ⟨_, _, rfl, a, b⟩

theorem sim_call (hT : TOk P E.T) (hM : MOk P E.M) (hS : SOk P w0 E.S) (hf : FrRel φ fr a.tmps) (hr : Rel w0 φ h w) {c : Call} (ho : o.op = .call c)
    (hK : Nx w0 φ h a o next K r) (e : hop E o fr h K = some r) : o.wp P a w next Q := by
  unfold hop at e
  simp only [ho] at e
  split at e
  · rename_i b hb
    obtain ⟨args, hargs, e1⟩ := evL_sim hf e
    have hx : (execOp a.eval o).run P w = (builtin b c.argTypes o.type (c.args.map fun | .const _ => true | _ => false) (c.args.map a.eval)).run P w := by
      unfold execOp
      simp only [ho, resolve, hb, Sem.run_bind, Sem.run_pure, Result.andThen_ok, invoke]
      rfl
    have hl : c.args.toList.map a.eval = (c.args.map a.eval).toList := by simp
    rw [hl] at hargs
    generalize hA : c.args.map a.eval = A at hargs hx
    have fin : ∀ (s : Sem Value), (builtin b c.argTypes o.type (c.args.map fun | .const _ => true | _ => false) A).run P w = (do pure (.value (← s)) : Sem Next).run P w →
        ∀ φ' v v' h' w', Grow h h' φ φ' → VR φ' v v' → Rel w0 φ' h' w' → K v h' = some r → s.run P w = .ok v' w' → o.wp P a w next Q := by
      intro s h0 φ' v v' h' w' h1 h2 h3 h4 h5
      refine wp_value (v := v') (w' := w') ?_ (hK φ' v v' h' w' h1 h2 h3 h4)
      rw [hx, h0]
      exact run_val h5
    have none_ : ∀ {b : Builtin}, (∀ x, args ≠ [x]) → (∀ x y, args ≠ [x, y]) → (b = .min ∨ b = .max → args = []) → bi E b c.argTypes.toList args h K ≠ some r := by
      intro b h1 h2 h3 q
      unfold bi at q
      split at q
      · exact h1 _ rfl
      · exact h2 _ _ rfl
      · exact h2 _ _ rfl
      · cases h3 (.inl rfl)
      · cases h3 (.inr rfl)
      · cases q
    cases b <;> first | (cases args <;> (unfold bi at e1; simp only at e1; cases e1); done) | skip
    case append =>
      match args, hargs, e1 with
      | [], _, e1 => exact absurd e1 (none_ (by simp) (by simp) (by simp))
      | [x], _, e1 => exact absurd e1 (by unfold bi; simp)
      | [s, x], hargs, e1 =>
        obtain ⟨s', x', rfl, h1, h2⟩ := hargs.two
        exact sim_append (ty := o.type) hT hr h1 h2 e1 (fin _ rfl)
      | _ :: _ :: _ :: _, _, e1 => exact absurd e1 (by unfold bi; simp)
    case copy =>
      match args, hargs, e1 with
      | [], _, e1 => exact absurd e1 (by unfold bi; simp)
      | [x], _, e1 => exact absurd e1 (by unfold bi; simp)
      | [s, x], hargs, e1 =>
        obtain ⟨s', x', rfl, h1, h2⟩ := hargs.two
        exact sim_copy (ty := o.type) hT hr h1 h2 e1 (fin _ rfl)
      | _ :: _ :: _ :: _, _, e1 => exact absurd e1 (by unfold bi; simp)
    case len =>
      match args, hargs, e1 with
      | [], _, e1 => exact absurd e1 (by unfold bi; simp)
      | [x], hargs, e1 =>
        obtain ⟨x', rfl, h1⟩ := hargs.one
        exact sim_len (ty := o.type) hT hr h1 e1 (fin _ rfl)
      | _ :: _ :: _, _, e1 => exact absurd e1 (by unfold bi; simp)
    case min =>
      match args, hargs, e1 with
      | [], _, e1 => exact absurd e1 (by unfold bi; simp)
      | x :: l, hargs, e1 =>
        obtain ⟨A⟩ := A
        cases hargs with
        | cons h1 h2 =>
          obtain ⟨u, u', h3, h4, h5⟩ := sim_minL (P := P) (w := w) (K := fun v => K v h) h1 h2 e1
          exact fin _ rfl φ u u' h w .same h4 hr h3 h5
    case max =>
      match args, hargs, e1 with
      | [], _, e1 => exact absurd e1 (by unfold bi; simp)
      | x :: l, hargs, e1 =>
        obtain ⟨A⟩ := A
        cases hargs with
        | cons h1 h2 =>
          obtain ⟨u, u', h3, h4, h5⟩ := sim_maxL (P := P) (w := w) (K := fun v => K v h) h1 h2 e1
          exact fin _ rfl φ u u' h w .same h4 hr h3 h5
  · rename_i f hc
    obtain ⟨fv, hfv, e1⟩ := ev_sim hf e
    obtain ⟨args, hargs, e2⟩ := evL_sim hf e1
    obtain ⟨g, first, cap, rfl, e3⟩ := cF_some e2
    obtain ⟨v, h', h1, e4⟩ := cl_some e3
    have e5 := castAny_some e4
    obtain ⟨first', cap', h2, h3, h4⟩ := hfv.toFunc
    have hm := hS g _ (first' ++ c.args.map a.eval ++ cap') h φ w v h' (by simpa using VRs.append h3 (VRs.append hargs h4)) hr h1
    refine met_wp hm ?_ hK e5
    unfold execOp
    simp only [ho, resolve, hc, h2, Deferred.ofValue, Sem.run_bind, Sem.run_pure, Result.andThen_ok, invoke]
  · rename_i f m hc
    obtain ⟨rv, hrv, e1⟩ := ev_sim hf e
    obtain ⟨args, hargs, e2⟩ := evL_sim hf e1
    obtain ⟨t, v, rfl, e3⟩ := cX_some e2
    obtain ⟨v', h2, h3⟩ := hrv.toIface
    have hx : ∀ {g : Nat} {rc : Value}, (method (P.types.size + Made.depth) t v' m).run P w = .ok (g, rc) w → (execOp a.eval o).run P w = (callFunc g (#[rc] ++ c.args.map a.eval)).run P w := by
      intro g rc hm
      unfold execOp
      have h0 : (#[Value.iface t v'] ++ c.args.map a.eval)[0]? = some (.iface t v') := by rw [Array.getElem?_append_left (by simp)]; rfl
      have h1 : (#[Value.iface t v'] ++ c.args.map a.eval).extract 1 (#[Value.iface t v'] ++ c.args.map a.eval).size = c.args.map a.eval := by
        apply Array.ext'
        simp
        rw [List.take_of_length_le (by simp)]
      simp only [ho, resolve, hc, h2, Sem.run_bind, Sem.run_pure, Result.andThen_ok, invoke, h0, h1, callMethod, run_program, hm]
    unfold inv at e3
    split at e3
    · rename_i g hM'
      obtain ⟨u, h', h4, e4⟩ := cl_some e3
      have e5 := castAny_some e4
      have hm := hS g _ (#[v'] ++ c.args.map a.eval) h φ w u h' (by simpa using VRs.cons h3 hargs) hr h4
      exact met_wp hm (hx (hM.plain _ _ _ hM' v' w)) hK e5
    · rename_i g el hM'
      obtain ⟨p, rfl, e4⟩ := cP_some e3
      obtain ⟨fit, ad, u, rfl, hld, e5⟩ := hT.ld e4
      obtain ⟨y, h', h4, e6⟩ := cl_some e5
      have e7 := castAny_some e6
      rcases h3.toPtr with ⟨q, _⟩ | ⟨i, off, l, q, hi, rfl⟩
      · cases q
      · cases q
        obtain ⟨u', h5, h6⟩ := hr.load fit hi hld
        have hm := hS g _ (#[u'] ++ c.args.map a.eval) h φ w y h' (by simpa using VRs.cons h6 hargs) hr h4
        exact met_wp hm (hx (hM.via _ _ _ _ hM' _ u' w h5)) hK e7
    · cases e3

/-- Every operation. -/
theorem hop_sim (hT : TOk P E.T) (hQ : QOk P E.Q) (hM : MOk P E.M) (hS : SOk P w0 E.S) (hf : FrRel φ fr a.tmps) (hr : Rel w0 φ h w)
    (hK : Nx w0 φ h a o next K r) (e : hop E o fr h K = some r) : o.wp P a w next Q := by
  cases ho : o.op with
  | move x => exact sim_move hf hr (.inl ho) hK e
  | assign x => exact sim_move hf hr (.inr ho) hK e
  | pick c x y => exact sim_pick hf hr ho hK e
  | alloc t => exact sim_alloc hT hr ho hK e
  | box t x => exact sim_box hT hf hr ho hK e
  | build t ps => exact sim_build hT hf hr ho hK e
  | buildSlice t n ps => exact sim_buildSlice hT hf hr ho hK e
  | load t x => exact sim_load hT hf hr ho hK e
  | store t x y => exact sim_store hT hf hr ho hK e
  | nilCheck x => exact sim_nil hf hr ho hK e
  | binOp op t x y n => exact sim_bin hT hQ hf hr ho hK e
  | unOp op t x => exact sim_un hf hr ho hK e
  | convert s d x => exact sim_conv hT hf hr ho hK e
  | makeInterface t x => exact sim_iface hT hf hr ho hK e
  | makeFunc fn x y => exact sim_func hf hr ho hK e
  | makeSlice t x y => exact sim_makeSlice hT hf hr ho hK e
  | slice t x lo hi mx => exact sim_slice hT hf hr ho hK e
  | fieldAddr s x f => exact sim_fieldAddr hT hf hr ho hK e
  | field s x f => exact sim_field hT hf hr ho hK e
  | indexAddr s x i => exact sim_indexAddr hT hf hr ho hK e
  | index s x i => exact sim_index hT hf hr ho hK e
  | extract x i => exact sim_extract hf hr ho hK e
  | typeAssert x xt t ok => exact sim_typeAssert hT hf hr ho hK e
  | call c => exact sim_call hT hM hS hf hr ho hK e
  | _ => unfold hop at e; simp only [ho] at e; cases e
end
end Ab
end Go.Proofs.YtaaacaejpchbpaaGreat
