/- A run of the abstract heap is met by the machine's call. No condition. -/
import Derived.Test.YtaaacaejpchbpaaGreatCode
set_option linter.unusedVariables false
set_option linter.unusedSimpArgs false
namespace Go.Proofs.YtaaacaejpchbpaaGreat
namespace Ab
open Go Go.RowKit
section
variable {P : Program} {w0 w : World} {N : Nat} {h : Heap} {φ : Map} {fr : Fr} {a : Act} {B : Tab}

/-- What the table says of the program. -/
structure POk (P : Program) (B : Tab) : Prop where
  t : TOk P B.T
  q : QOk P B.Q
  m : MOk P B.M
  mo : P.follows .mixedOrders = true
  a1 : ∀ f, B.A f 1 = none
  f : ∀ f fn c, B.F f = some fn → fn.body = some c → P.funcs[f]? = some fn ∧ fn.name ≠ "runtime.NumGoroutine" ∧ okCode fn.ntmps c = true
  prim : ∀ f g, B.prim f = some g → ∀ (w0 : World) args args' h φ w v h', VRs φ args (args' : Array Value).toList → Rel w0 φ h w → g args h = some (v, h') → Met P w0 φ h f args' w v h'

theorem resL_sim (hT : TOk P B.T) (hf : FrRel φ fr a.tmps) (hr : Rel w0 φ h w) : ∀ {rs : List ResultVar} {K : List Value → Option (Value × Heap)} {r : Value × Heap}, resL B.T fr h rs K = some r →
    ∃ vs vs', K vs = some r ∧ VRs φ vs vs' ∧ (rs.mapM (fun | .tmp t => pure (a.tmps.getD t undef) | .cell b t => do loadVar t (← asAddr (a.tmps.getD b undef)) : ResultVar → Sem Value)).run P w = .ok vs' w
  | [], K, r, e => ⟨[], [], e, .nil, by simp⟩
  | .tmp t :: rs, K, r, e => by
    unfold resL at e
    split at e
    · rename_i v hv
      obtain ⟨vs, vs', h1, h2, h3⟩ := resL_sim hT hf hr (K := fun r => K (v :: r)) e
      obtain ⟨v', h4, h5⟩ := hf t v hv
      refine ⟨v :: vs, v' :: vs', h1, .cons h5 h2, ?_⟩
      have : a.tmps.getD t undef = v' := by simp [Array.getD_eq_getD_getElem?, h4]
      rw [List.mapM_cons]
      simp only [Sem.run_bind, Sem.run_pure, Result.andThen_ok, h3, this]
    · cases e
  | .cell b t :: rs, K, r, e => by
    unfold resL at e
    split at e
    · rename_i v hv
      obtain ⟨p, rfl, e1⟩ := cP_some e
      obtain ⟨fit, ad, u, rfl, hld, e2⟩ := hT.ld e1
      obtain ⟨vs, vs', h1, h2, h3⟩ := resL_sim hT hf hr (K := fun r => K (u :: r)) e2
      obtain ⟨v', h4, h5⟩ := hf b _ hv
      rcases h5.toPtr with ⟨q, _⟩ | ⟨i, off, l, q, hi, rfl⟩
      · cases q
      · cases q
        obtain ⟨u', h6, h7⟩ := hr.load fit hi hld
        refine ⟨u :: vs, u' :: vs', h1, .cons h7 h2, ?_⟩
        have : a.tmps.getD b undef = .pointer (some ⟨l.b, l.o + off, none⟩) := by simp [Array.getD_eq_getD_getElem?, h4]
        have hA : (asAddr (.pointer (some ⟨l.b, l.o + off, none⟩))).run P w = .ok ⟨l.b, l.o + off, none⟩ w := rfl
        rw [List.mapM_cons]
        simp only [Sem.run_bind, Sem.run_pure, Result.andThen_ok, h3, this, hA, h6]
    · cases e

def RunQ (P : Program) (w0 : World) (fn : Func) (h0 : Heap) (φ0 : Map) (r : Value × Heap) : Exit → Act → World → Prop :=
  bodyPost P fn fun e w' => ∃ v' φ', e = .returned v' ∧ Grow h0 r.2 φ0 φ' ∧ VR φ' r.1 v' ∧ Rel w0 φ' r.2 w'

theorem kRet_ok (hT : TOk P B.T) {fn : Func} {h0 : Heap} {φ0 : Map} {r : Value × Heap} : KOk w0 N h0 φ0 r (kRet B.T fn) (RunQ P w0 fn h0 φ0 r) := by
  intro e fr h φ a w g s he
  have main : resL B.T fr h fn.results.toList (fun l => match l with | [v] => some (v, h) | l => some (.tuple ⟨l⟩, h)) = some r →
      a.defers = [] ∧ ∃ v, (results fn a.tmps).run P w = .ok v w ∧ ∃ v' φ', Ending.returned v = .returned v' ∧ Grow h0 r.2 φ0 φ' ∧ VR φ' r.1 v' ∧ Rel w0 φ' r.2 w := by
    intro he
    obtain ⟨vs, vs', h1, h2, h3⟩ := resL_sim hT s.f s.r he
    have hres : (results fn a.tmps).run P w = .ok (if h : (⟨vs'⟩ : Array Value).size = 1 then (⟨vs'⟩ : Array Value)[0] else .tuple ⟨vs'⟩) w := by
      unfold results
      rw [Sem.run_bind, Array.mapM_eq_mapM_toList, Sem.run_map]
      erw [h3]
      rfl
    refine ⟨s.d, _, hres, _, φ, rfl, ?_⟩
    split at h1
    · rename_i v
      cases h1
      cases h2 with
      | cons a1 t1 => cases t1; exact ⟨g, a1, s.r⟩
    · rename_i hne
      cases h1
      have hl := h2.length
      have : ¬ (⟨vs'⟩ : Array Value).size = 1 := by
        simp only [List.size_toArray]
        intro q
        rw [q] at hl
        match vs, hl, hne with
        | [v], _, hne => exact hne v rfl
      rw [dif_neg this]
      exact ⟨g, .tuple h2, s.r⟩
  cases e <;> simp only [kRet] at he <;> first | (cases he; done) | exact main he

theorem okCode_down {N : Nat} : ∀ (i p : Nat) (c : Code), okCode N c = true → okCode N (cDown i p c) = true
  | 0, p, c, h => h
  | i + 1, p, c, h => by
    refine okCode_down i p _ ?_
    cases c <;> cases p.testBit i <;> simp_all [down, okCode]
theorem run_sim (hP : POk P B) : ∀ k : Nat, (SOk P w0 fun f => run B k f 1) ∧
    ∀ f fn body, B.F f = some fn → fn.body = some body → B.prim f = none → ∀ (h0 : Heap) (φ0 : Map) (r : Value × Heap), JOk P w0 ⟨B.T, B.M, B.Q, B.A f, fun g => run B k g 1, run B k f⟩ fn.ntmps h0 φ0 r body (RunQ P w0 fn h0 φ0 r)
  | 0 => ⟨fun f args args' h φ w v h' _ _ e => by simp [run] at e, fun f fn body _ _ _ h0 φ0 r p l c Q vs fr h φ a w _ _ _ _ _ e => by simp [run] at e⟩
  | k + 1 => by
    obtain ⟨ihS, ihJ⟩ := run_sim hP k
    have point : ∀ f fn body, B.F f = some fn → fn.body = some body → B.prim f = none → ∀ (h0 : Heap) (φ0 : Map) (r : Value × Heap) (p : Nat) (c : Code) (Q : Exit → Act → World → Prop) (vs : List Value) (fr : Fr) (h : Heap) (φ : Map) (a : Act) (w : World),
        Ctx P body (RunQ P w0 fn h0 φ0 r) p c Q → Grow h0 h φ0 φ → start (B.A f) p vs = some fr → At w0 fn.ntmps φ fr h a w → run B (k + 1) f p vs h = some r → wpL P c Q a w := by
      intro f fn body hF hb hp h0 φ0 r p c Q vs fr h φ a w x g hst s e
      have hE : EOk P w0 ⟨B.T, B.M, B.Q, B.A f, fun g => run B k g 1, run B k f⟩ := ⟨hP.t, hP.q, hP.m, ihS⟩
      have hJ := ihJ f fn body hF hb hp h0 φ0 r
      obtain ⟨_, _, hok⟩ := hP.f f fn body hF hb
      simp only [run, hp, hF, exec, hb, hst] at e
      have x0 : Ctx P body (RunQ P w0 fn h0 φ0 r) 1 body (RunQ P w0 fn h0 φ0 r) := ⟨Nat.le_refl _, rfl, rfl⟩
      have hsh : p >>> p.log2 = 1 := by
        have hp1 := x.p1
        rw [Nat.shiftRight_eq_div_pow]
        have h1 : 2 ^ p.log2 ≤ p := Nat.log2_self_le (by omega)
        have h2 : p < 2 ^ (p.log2 + 1) := Nat.lt_log2_self
        have : p / 2 ^ p.log2 < 2 := by rw [Nat.div_lt_iff_lt_mul (Nat.two_pow_pos _)]; omega
        have : 1 ≤ p / 2 ^ p.log2 := by rw [Nat.le_div_iff_mul_le (Nat.two_pow_pos _)]; omega
        omega
      have hK := kDown_ok hP.mo hE hJ p.log2 p body _ _ (by rw [hsh]; exact x0) hok (kRet_ok hP.t)
      rw [x.q] at hK
      rw [x.c] at e
      have hokc : okCode fn.ntmps c = true := by
        rw [← x.c]
        unfold cN
        exact okCode_down _ _ _ hok
      exact hc_sim hP.mo hE hJ c p Q _ fr h φ a w x hokc hK g s e
    refine ⟨?_, ?_⟩
    · intro f args args' h φ w v h' hv hr e
      cases hp : B.prim f with
      | some pf =>
        simp only [run, hp] at e
        exact hP.prim f pf hp w0 args args' h φ w v h' hv hr e
      | none =>
        have e0 := e
        simp only [run, hp] at e
        cases hF : B.F f with
        | none => rw [hF] at e; cases e
        | some fn =>
          rw [hF] at e
          simp only [exec] at e
          cases hb : fn.body with
          | none => rw [hb] at e; cases e
          | some body =>
            obtain ⟨hfun, hname, hok⟩ := hP.f f fn body hF hb
            left
            refine ⟨?_, ?_⟩
            · simp [callFunc, hfun, hname, hb]
            · refine Calls.mono (calls_of_wp hfun hb (R := fun e w' => ∃ v' φ', e = .returned v' ∧ Grow h h' φ φ' ∧ VR φ' v v' ∧ Rel w0 φ' h' w') ?_) (fun e w' q => q)
              refine wpL_wp (point f fn body hF hb hp h φ (v, h') 1 body (RunQ P w0 fn h φ (v, h')) args (argFr args) h φ _ w ⟨Nat.le_refl _, rfl, rfl⟩ .same rfl ⟨?_, ?_, rfl, hr⟩ e0)
              · intro s u hs
                obtain ⟨u', h1, h2⟩ := hv.get s hs
                refine ⟨u', ?_, h2⟩
                have h1' : args'[s]? = some u' := by simpa using h1
                have hlt : s < args'.size := (Array.getElem?_eq_some_iff.1 h1').1
                simp only
                rw [Array.getElem?_append_left hlt]
                exact h1'
              · simp; omega
    · intro f fn body hF hb hp h0 φ0 r p l c Q vs fr h φ a w hl x g hfr s e
      refine point f fn body hF hb hp h0 φ0 r p c Q vs fr h φ a w x g ?_ s e
      have h1 : p ≠ 1 := by
        intro q
        simp only at hl
        rw [q, hP.a1] at hl; cases hl
      simp only at hl
      unfold start
      split
      · exact absurd rfl h1
      · rw [hl, hfr]
end
end Ab
end Go.Proofs.YtaaacaejpchbpaaGreat
