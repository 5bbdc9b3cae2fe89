/-
  Part of a proof.
-/
import Derived.Test.YtkkifbjdbhjhaaaGreatDoorV01
import Derived.OrdersIn
import Derived.RangeFuncLeaves
set_option linter.unusedVariables false
set_option linter.unusedSimpArgs false
/- Regions that draw their order, in a frame of whatever make; a round that may be left by a panic. -/
namespace Sx
open Go
/-- whatever function; in a round, or in none -/
def fen : Option Nat → Fence
  | none => Fence.wide
  | some l => Fence.wide.inRound l
theorem fen_round (ro : Option Nat) : (fen ro).round = ro := by cases ro <;> rfl
theorem fen_fn (ro : Option Nat) (f : FuncId) : (fen ro).fn f := by cases ro <;> trivial
theorem fen_depth (ro : Option Nat) : (fen ro).depth = none := by cases ro <;> rfl
theorem fen_n (ro : Option Nat) (n : Nat) : (fen ro).depth.isSome = true → 1 ≤ n := fun h => by rw [fen_depth] at h; cases h
theorem fen_calls {ro : Option Nat} {n : Nat} {P : Program} {f : FuncId} {args : Array Value} {w : World} {R : Ending → World → Prop} (h : Calls P f args w R) : CallsIn (fen ro) n P f args w R := by
  cases ro with
  | none => exact callsIn_wide.2 h
  | some l => exact (callsIn_wide (n := n)).2 h
theorem fen_rounds {ro : Option Nat} {n : Nat} {P : Program} {l : Nat} {f : FuncId} {tmps : Array Value} {assign body : Code} {w : World} {R : Ending → World → Prop}
    (h : RoundIn Fence.wide 0 P l f tmps assign body w R) : RoundIn (fen ro) n P l f tmps assign body w R := by
  have hw : ∀ m, Fence.wide.room m := room_wide
  cases ro with
  | none => exact ⟨trivial, fun c cs _ => h.2 c cs (hw _)⟩
  | some l => exact ⟨trivial, fun c cs _ => h.2 c cs (hw _)⟩

section
variable {ro : Option Nat} {n : Nat} {P : Program} {md : Region.Mode} {ops : Array Oper} {Q : Exit → Act → World → Prop}

theorem semAt_put (o : Oper) (hs : ∀ cs b, o.op ≠ .select cs b) (a : Act) (dst : Option Tmp) (v : Value) (h : ∀ d, dst = some d → d ∉ o.looksAt ops) :
    o.semAt ro (a.put dst v).eval = o.semAt ro a.eval := by
  cases ro with
  | none => exact execOp_put o hs a dst v h
  | some l =>
    by_cases hd : ∃ c, o.op = .defer c
    · obtain ⟨c, hc⟩ := hd
      have e := resolve_congr (ρ := (a.put dst v).eval) (ρ' := a.eval) c o.type (fun x hx => Act.eval_put fun d hd hxd => h d hd (by
        subst hxd
        exact List.mem_append_left _ (List.mem_filterMap.2 ⟨.tmp d, by simpa [hc, Op.operands] using hx, rfl⟩)))
      simp only [Oper.semAt, hc, e]
    · rw [Oper.semAt_eq _ _ _ (fun c hc => hd ⟨c, hc⟩), Oper.semAt_eq _ _ _ (fun c hc => hd ⟨c, hc⟩)]
      exact execOp_put o hs a dst v h

theorem yields_sem {o : Oper} {v : Value} {a : Act} (h : ∀ w, (execOp a.eval o).run P w = .ok (.value v) w) (w : World) : (o.semAt ro a.eval).run P w = .ok (.value v) w := by
  cases ro with
  | none => exact h w
  | some l =>
    by_cases hd : ∃ c, o.op = .defer c
    · obtain ⟨c, hc⟩ := hd
      have := h w
      simp only [execOp, hc, Sem.run_bind] at this
      generalize (resolve a.eval c o.type).run P w = r at this
      cases r <;> simp [Result.andThen] at this
    · rw [Oper.semAt_eq _ _ _ (fun c hc => hd ⟨c, hc⟩)]; exact h w

theorem yieldsW {i : Nat} {o : Oper} {v : Value} {a : Act} (hi : ops[i]? = some o) (hy : Yields P ops o v a)
    {K : Act → World → Prop} {w : World} (h : K (a.put o.dst v) w) : wpOpIn (fen ro) n P ops Q i K a w := by
  unfold Go.wpOpIn
  simp only [hi]
  have hab : ∀ f, o.about P w a.eval = some f → (fen ro).fn f := fun f _ => fen_fn ro f
  rcases hy with ⟨hw, hv⟩ | ⟨hw, rfl⟩
  · simp only [hw, if_true, Oper.wpIn, fen_round, yields_sem hv w, Oper.uponIn]; exact ⟨hab, h⟩
  · simp only [hw, Bool.false_eq_true, if_false]; exact ⟨hab, h⟩

theorem wpOpW_put {j : Nat} {oi oj : Oper} {v : Value} (hj : ops[j]? = some oj) (hap : oi.apart ops oj = true)
    (hsi : ∀ cs b, oi.op ≠ .select cs b) (hsj : ∀ cs b, oj.op ≠ .select cs b)
    (hQ : ∀ c a w, Q (.panic c) (a.put oi.dst v) w → Q (.panic c) a w) {K : Act → World → Prop} {a : Act} {w : World}
    (hy : Yields P ops oi v a) (h : wpOpIn (fen ro) n P ops Q j K (a.put oi.dst v) w) :
    wpOpIn (fen ro) n P ops Q j (fun a' w' => Yields P ops oi v a' ∧ K (a'.put oi.dst v) w') a w := by
  obtain ⟨h1, h2, h3⟩ := Oper.apart_spec hap
  have keep : ∀ (a : Act), Yields P ops oi v a → ∀ u, Yields P ops oi v (a.put oj.dst u) := fun a hy u =>
    hy.of_same (execOp_put oi hsi a oj.dst u h3) (wanted_put oi a oj.dst u h3)
  have keepD : ∀ d, Yields P ops oi v { a with defers := d :: a.defers } := fun d => hy.of_same rfl rfl
  unfold wpOpIn at *
  simp only [hj] at *
  rw [wanted_put oj a oi.dst v h1] at h
  split
  · rename_i hw
    simp only [hw, if_true] at h
    unfold Oper.wpIn at *
    refine ⟨fun f _ => fen_fn ro f, ?_⟩
    have h := h.2
    rw [semAt_put oj hsj a oi.dst v h1] at h
    generalize (oj.semAt (fen ro).round a.eval).run P w = r at *
    cases r with
    | ok x w' =>
      cases x <;> simp only [Oper.uponIn] at h ⊢
      case value u => exact ⟨keep a hy u, by rw [← Act.put_comm a v u h2]; exact h⟩
      case skip => exact ⟨keep a hy _, by rw [← Act.put_comm a v undef h2]; exact h⟩
      case defer d =>
        refine ⟨keep _ (keepD d) _, ?_⟩
        rw [← Act.put_comm _ v undef h2, ← Act.put_defers]
        exact h
      case enter f args =>
        refine ⟨h.1, CallsIn.mono h.2 fun e w'' he => ?_⟩
        cases e with
        | returned u => exact ⟨keep a hy u, by rw [← Act.put_comm a v u h2]; exact he⟩
        | panicked c => exact hQ _ _ _ he
        | outgrown => exact he
      case row row args => exact ⟨h.1, RowsIn.mono h.2 fun u w'' he => ⟨keep a hy u, by rw [← Act.put_comm a v u h2]; exact he⟩⟩
      case round l f tmps assign body =>
        refine ⟨h.1, RoundIn.mono h.2 fun e w'' he => ?_⟩
        cases e with
        | returned u => exact ⟨keep a hy u, by rw [← Act.put_comm a v u h2]; exact he⟩
        | panicked c => exact hQ _ _ _ he
        | outgrown => exact he
    | halt x w' =>
      cases x <;> simp only [Oper.uponIn] at h ⊢
      case panic u => exact hQ _ _ _ h
  · rename_i hw
    simp only [hw] at h
    exact ⟨fun f _ => fen_fn ro f, keep a hy _, by rw [← Act.put_comm a v undef h2]; exact h.2⟩

theorem wpAnyW_first {i : Nat} {oi : Oper} {v : Value} (hi : ops[i]? = some oi) (hsel : ∀ (j : Nat) (o : Oper) cs b, ops[j]? = some o → o.op ≠ .select cs b)
    (hQ : ∀ c a w, Q (.panic c) (a.put oi.dst v) w → Q (.panic c) a w) :
    ∀ (fuel : Nat) (listed : Array Bool) (a : Act) (w : World),
      (∀ j oj, ops[j]? = some oj → j ≠ i → listed.getD j true = false → (∀ e ∈ oj.after, Region.binds md e = true → e.on ≠ i) → oi.apart ops oj = true) →
      i ∈ Region.ready md ops listed → Yields P ops oi v a →
      wpAnyIn (fen ro) n P md ops Q fuel (listed.setIfInBounds i true) (a.put oi.dst v) w → wpAnyIn (fen ro) n P md ops Q (fuel + 1) listed a w := by
  intro fuel
  induction fuel with
  | zero =>
    intro listed a w _ hr hy H
    refine ⟨fun h => (by rw [h] at hr; cases hr), fun j hj => ?_⟩
    by_cases hji : j = i
    · subst hji; exact yieldsW hi hy H
    · have := ready_mono hj hji
      rw [H.1] at this
      cases this
  | succ fuel ih =>
    intro listed a w hfree hr hy H
    refine ⟨fun h => (by rw [h] at hr; cases hr), fun j hj => ?_⟩
    by_cases hji : j = i
    · subst hji; exact yieldsW hi hy H
    · have h1 := H.2 j (ready_mono hj hji)
      obtain ⟨hjun, oj, hoj, hall⟩ := mem_ready.1 hj
      have hnot : ∀ e ∈ oj.after, Region.binds md e = true → e.on ≠ i := fun e he hb heq => by
        have h1 := hall e he hb
        have h0 := (mem_ready.1 hr).1
        rw [heq] at h1
        rcases Nat.lt_or_ge i listed.size with h' | h'
        · simp [h'] at h0 h1; rw [h0] at h1; cases h1
        · simp [Array.getElem?_eq_none h'] at h1
      have h2 := wpOpW_put hoj (hfree j oj hoj hji hjun hnot) (fun cs b => hsel i oi cs b hi) (fun cs b => hsel j oj cs b hoj) hQ hy h1
      have hfree' : ∀ k ok, ops[k]? = some ok → k ≠ i → (listed.setIfInBounds j true).getD k true = false →
          (∀ e ∈ ok.after, Region.binds md e = true → e.on ≠ i) → oi.apart ops ok = true := fun k ok hk hki hun hno => by
        refine hfree k ok hk hki ?_ hno
        by_cases hjk : j = k
        · subst hjk; exact hjun
        · rw [getD_set_ne true hjk] at hun; exact hun
      refine wpOpIn_mono (fun a' w' h3 => ih (listed.setIfInBounds j true) a' w' hfree' (ready_mono hr (Ne.symm hji)) h3.1 ?_) h2
      rw [Array.setIfInBounds_comm _ _ hji]
      exact h3.2

theorem wpAnyW_take {i : Nat} {oi : Oper} {v : Value} {fuel : Nat} {listed : Array Bool} {a : Act} {w : World} (hi : ops[i]? = some oi)
    (hs : Region.noSelect ops = true) (hf : Region.free md ops listed i = true) (hr : (Region.ready md ops listed).contains i = true)
    (hQ : ∀ c a w, Q (.panic c) (a.put oi.dst v) w → Q (.panic c) a w) (hy : Yields P ops oi v a)
    (h : wpAnyIn (fen ro) n P md ops Q fuel (listed.setIfInBounds i true) (a.put oi.dst v) w) : wpAnyIn (fen ro) n P md ops Q (fuel + 1) listed a w :=
  wpAnyW_first hi (Region.noSelect_spec hs) hQ fuel listed a w (Region.free_spec hi hf) (by simpa using hr) hy h
 end

/-- what is asked where a round ends; it may be left by a panic -/
def roundPostP (P : Program) (l : Nat) (R : Ending → World → Prop) : Exit → Act → World → Prop
  | .normal, _, w => ∃ v w', (Instr.endRound l none).run P w = .ok v w' ∧ R (.returned v) w'
  | .ret, _, w => ∃ v w', (Instr.endRound l (some .ret)).run P w = .ok v w' ∧ R (.returned v) w'
  | .exit id, _, w => ∃ v w', (Instr.endRound l (some (.exit id))).run P w = .ok v w' ∧ R (.returned v) w'
  | .goto t, _, w => ∃ v w', (Instr.endRound l (some (.goto t))).run P w = .ok v w' ∧ R (.returned v) w'
  | .panic c, a, w => a.defers = [] ∧ R (.panicked c) w
  | .outgrown, _, _ => False

theorem round_of_wp {P : Program} {l : Nat} {f : FuncId} {fn : Func} {tmps : Array Value} {assign body : Code} {w : World} {R : Ending → World → Prop} (hfn : P.funcs[f]? = some fn)
    (h : assign.wpIn (fen (some l)) 0 P (Exit.then (fun a₁ w₁ => ∃ w₂, (Instr.beginRound l).run P w₁ = .ok () w₂ ∧ body.wpIn (fen (some l)) 0 P (roundPostP P l R) a₁ w₂) (fun _ _ _ => False))
      { tmps := tmps, defers := [] } w) :
    RoundIn Fence.wide 0 P l f tmps assign body w R := by
  refine ⟨trivial, fun c cs hr => ?_⟩
  let b : Frame := { (default : Frame) with fn := f, kind := .normal, roundOf := some l }
  have hb0 : Frame.round l f tmps assign body .normal = b.atR { tmps := tmps, defers := [] } [.code assign, .beginRound, .code body] := by
    simp [Frame.round, Frame.atR, b]
  have hr' : (fen (some l)).room ((c :: cs).length + 1 + 0) := room_wide _
  have hF' : (fen (some l)).fn b.fn := trivial
  obtain ⟨e, a₁, w₁, hq, harr⟩ := h b [.beginRound, .code body] (c :: cs) rfl hF' hr'
  rw [← hb0] at harr
  cases e with
  | normal =>
    obtain ⟨w₂, hbr, hbody⟩ := hq
    have s1 : StepsIn (Machine.fenced P (fen (some l))) P (lone (b.atR a₁ [.beginRound, .code body]) (c :: cs) w₁) (lone (b.atR a₁ [.code body]) (c :: cs) w₂) :=
      .one (fenced_calm (fr := b.atR a₁ [.beginRound, .code body]) hF' hr' rfl) (stepR_beginRound rfl hbr)
    obtain ⟨e₂, a₂, w₃, hq₂, harr₂⟩ := hbody b [] (c :: cs) rfl hF' hr'
    cases e₂ with
    | normal =>
      obtain ⟨v, w₄, hend, hR⟩ := hq₂
      exact ⟨.returned v, w₄, hR, (StepsIn.trans harr s1).trans (StepsIn.trans harr₂ (.one (fenced_calm (fr := b.atR a₂ []) hF' hr' rfl) (stepR_round_end rfl rfl hend)))⟩
    | ret =>
      obtain ⟨v, w₄, hend, hR⟩ := hq₂
      obtain ⟨k₁, hs⟩ := harr₂.2 rfl
      exact ⟨.returned v, w₄, hR, (StepsIn.trans harr s1).trans (StepsIn.trans hs (.one (fenced_calm (fr := b.atR a₂ (.code .ret :: k₁)) hF' hr' rfl) (stepR_round_ret rfl rfl hend)))⟩
    | exit id =>
      obtain ⟨v, w₄, hend, hR⟩ := hq₂
      obtain ⟨k₁, hk, hs⟩ := harr₂.2 rfl rfl
      exact ⟨.returned v, w₄, hR, (StepsIn.trans harr s1).trans (StepsIn.trans hs (.one (fenced_calm (fr := b.atR a₂ (.code (.exit id) :: k₁)) hF' hr' rfl) (stepR_round_exit rfl rfl hk hend)))⟩
    | goto t =>
      obtain ⟨v, w₄, hend, hR⟩ := hq₂
      obtain ⟨k₁, hk, hs⟩ := harr₂.2 rfl rfl
      exact ⟨.returned v, w₄, hR, (StepsIn.trans harr s1).trans (StepsIn.trans hs (.one (fenced_calm (fr := b.atR a₂ (.code (.goto t) :: k₁)) hF' hr' rfl) (stepR_round_goto rfl rfl hk hend)))⟩
    | panic chain =>
      obtain ⟨hd, hR⟩ := hq₂
      obtain ⟨todo, hs⟩ := harr₂
      have hl : Frame.leaving P { b.atR a₂ todo with mode := .panicking chain } w₃ (.panicked chain) := ⟨rfl, hd, fn, hfn⟩
      refine ⟨.panicked chain, w₃, hR, (StepsIn.trans harr s1).trans (StepsIn.trans hs (.one (fenced_leaving hF' hr' hl) (step_leave_panicked hl)))⟩
    | outgrown => exact hq₂.elim
  | exit id => exact hq.elim
  | goto t => exact hq.elim
  | ret => exact hq.elim
  | panic chain => exact hq.elim
  | outgrown => exact hq.elim
end Sx
/- What the walk reckons is enough. -/
namespace Sx
open Go

structure Cx (Pd : Type) where
  P : Program
  I : Pd → List Nat → HP
  G : Gl
  ty : Tab
  sz : Nat
  nin : Nat
  D : List Deferred
  pl : List (Nat × Plan)
  kv : Value := undef
  ro : Option Nat := none
  rnd : Bool := false

section
variable {Pd : Type} (X : Cx Pd)

structure Rel (ρ : Nat → Nat) (s : St Pd) (F : HP) (a : Act) (w : World) : Prop where
  env : EnvOk ρ s.env a
  mem : SatC X.I X.G ρ s.cs F w
  size : X.sz % 65536 ≤ a.tmps.size
  dfs : a.defers = X.D ∧ ∀ k, X.sz / 65536 = k + 1 → keptV a k = X.kv
  nin : X.nin ≤ s.n

def Ext (n : Nat) (ρ ρ' : Nat → Nat) : Prop := ∀ i, i < n → ρ' i = ρ i
theorem Ext.refl (n : Nat) (ρ : Nat → Nat) : Ext n ρ ρ := fun _ _ => rfl
theorem Ext.trans {n : Nat} {a b c : Nat → Nat} (h : Ext n a b) (g : Ext n b c) : Ext n a c := fun i hi => (g i hi).trans (h i hi)
theorem Ext.le {m n : Nat} {a b : Nat → Nat} (h : Ext n a b) (l : m ≤ n) : Ext m a b := fun i hi => h i (Nat.lt_of_lt_of_le hi l)

def chainOf (v : Value) : List PanicEntry := [{ v, recovered := false }]
def noEnv (s : St Pd) : St Pd := ⟨[], s.cs, s.n⟩

/-- what must hold where a piece of code is left -/
def Post (K : SX → St Pd → Prop) (ρ0 : Nat → Nat) (F : HP) : Exit → Act → World → Prop
  | .normal, a, w => ∃ s ρ, K .normal s ∧ Ext X.nin ρ0 ρ ∧ Rel X ρ s F a w
  | .exit i, a, w => ∃ s ρ, K (.exit i) s ∧ Ext X.nin ρ0 ρ ∧ Rel X ρ s F a w
  | .goto i, a, w => ∃ s ρ, K (.goto i) s ∧ Ext X.nin ρ0 ρ ∧ Rel X ρ s F a w
  | .ret, a, w => ∃ s ρ, K .ret s ∧ Ext X.nin ρ0 ρ ∧ Rel X ρ s F a w
  | .panic c, a, w => ∃ v s ρ, K (.panic v) s ∧ Ext X.nin ρ0 ρ ∧ c = chainOf (v.den ρ) ∧ Rel X ρ (noEnv s) F a w
  | .outgrown, _, _ => False

def OutRel (ρ : Nat → Nat) : Out → Ending → Prop
  | .ret v, .returned x => x = v.den ρ
  | .pan v, .panicked c => c = chainOf (v.den ρ)
  | _, _ => False

/-- what an operation must come to -/
def Upon (n : Nat) (ρ : Nat → Nat) (F : HP) (cont : Out → List (Chunk Pd) → Nat → Prop) : Result Next → Prop
  | .ok (.value v) w => ∃ u cs n' ρ', v = u.den ρ' ∧ n ≤ n' ∧ Ext n ρ ρ' ∧ SatC X.I X.G ρ' cs F w ∧ cont (.ret u) cs n'
  | .ok .skip w => ∃ cs n' ρ', n ≤ n' ∧ Ext n ρ ρ' ∧ SatC X.I X.G ρ' cs F w ∧ cont (.ret (.tuple [])) cs n'
  | .ok (.enter f args) w => Calls X.P f args w fun e w' => ∃ out cs n' ρ', OutRel ρ' out e ∧ n ≤ n' ∧ Ext n ρ ρ' ∧ SatC X.I X.G ρ' cs F w' ∧ cont out cs n'
  | .ok (.round l f tmps assign body) w => X.rnd = true ∧ RoundIn Fence.wide 0 X.P l f tmps assign body w fun e w' => ∃ out cs n' ρ', OutRel ρ' out e ∧ n ≤ n' ∧ Ext n ρ ρ' ∧ SatC X.I X.G ρ' cs F w' ∧ cont out cs n'
  | .halt (.panic v) w => ∃ u cs n' ρ', v = u.den ρ' ∧ n ≤ n' ∧ Ext n ρ ρ' ∧ SatC X.I X.G ρ' cs F w ∧ cont (.pan u) cs n'
  | _ => False

def NodeX (op : Op) (type : TypeId) (vals : List SV) (cs : List (Chunk Pd)) (n : Nat) (cont : Out → List (Chunk Pd) → Nat → Prop) : Prop :=
  ∀ (ρ : Nat → Nat) (F : HP) (w : World) (ρe : Operand → Value) (o : Oper), o.op = op → o.type = type → op.operands.toList.map ρe = SV.denL ρ vals →
    SatC X.I X.G ρ cs F w → Upon X n ρ F cont ((execOp ρe o).run X.P w)
def LoopX (b : Code) (s : St Pd) (K : SX → St Pd → Prop) : Prop :=
  plansOk X.pl b = true → ∀ (ρ0 ρ : Nat → Nat) (F : HP) (a : Act) (w : World), Ext X.nin ρ0 ρ → Rel X ρ s F a w → (Code.loop b).wpIn (fen X.ro) 0 X.P (Post X K ρ0 F) a w
def ScopeX (b : Code) (s : St Pd) (K : SX → St Pd → Prop) : Prop :=
  plansOk X.pl b = true → ∀ (ρ0 ρ : Nat → Nat) (F : HP) (a : Act) (w : World), Ext X.nin ρ0 ρ → Rel X ρ s F a w → (Code.scope b).wpIn (fen X.ro) 0 X.P (Post X K ρ0 F) a w

/-- The stops, each with what it asks. -/
structure Nodes (W : IntKind → Int → Int) (bits : Bits)
    (Ncond : Bool → (Unit → Prop) → (Unit → Prop) → Prop) (Nob : List Ob → (Unit → Prop) → Prop)
    (Nop : Op → TypeId → List SV → List (Chunk Pd) → Nat → (Out → List (Chunk Pd) → Nat → Prop) → Prop)
    (Nloop Nscope : Code → St Pd → (SX → St Pd → Prop) → Prop) : Prop where
  W : W = IntKind.wrap
  bits : bits = bitsOf
  cond : Ncond = fun b x y => (b = true → x ()) ∧ (b = false → y ())
  ob : Nob = fun l k => obsP l ∧ k ()
  op : Nop = NodeX X
  loop : Nloop = LoopX X
  scope : Nscope = ScopeX X

variable {X}
variable {W : IntKind → Int → Int} {bits : Bits} {Ncond : Bool → (Unit → Prop) → (Unit → Prop) → Prop} {Nob : List Ob → (Unit → Prop) → Prop}
  {Nop : Op → TypeId → List SV → List (Chunk Pd) → Nat → (Out → List (Chunk Pd) → Nat → Prop) → Prop} {Nloop Nscope : Code → St Pd → (SX → St Pd → Prop) → Prop}

theorem obs1_iff (hN : Nodes X W bits Ncond Nob Nop Nloop Nscope) {obs : List Ob} {k : Unit → Prop} (h : obs1 Nob obs k) : obsP obs ∧ k () := by
  unfold obs1 at h
  split at h
  · exact ⟨trivial, h⟩
  · rw [hN.ob] at h; exact h

theorem evOk_of {ρ : Nat → Nat} {e : Env} {a : Act} (h : EnvOk ρ e a) : EvOk ρ (evO e) (evOs e) a.eval := ⟨fun _ _ g => evO_den h g, fun _ _ g => evOs_den h g⟩

theorem Rel.put {ρ : Nat → Nat} {s : St Pd} {F : HP} {a : Act} {w : World} (h : Rel X ρ s F a w) {d : Option Tmp} {v : SV} {e : Env} (hd : setD X.sz d v s.env = some e)
    {ρ' : Nat → Nat} {cs : List (Chunk Pd)} {n : Nat} {w' : World} (henv : EnvOk ρ' s.env a) (hm : SatC X.I X.G ρ' cs F w') (hn : X.nin ≤ n) : Rel X ρ' ⟨e, cs, n⟩ F (a.put d (v.den ρ')) w' := by
  unfold setD at hd
  split at hd
  · simp only [Option.some.injEq] at hd; subst hd
    exact ⟨henv, hm, h.size, h.dfs, hn⟩
  · rename_i t
    split at hd
    · rename_i hb
      have hb0 := hb
      simp only [okT, Bool.and_eq_true, Bool.not_eq_true'] at hb
      have hb1 := Nat.le_of_ble_eq_true hb.1
      have hs := h.size
      simp only [Option.some.injEq] at hd; subst hd
      refine ⟨henv.put (by omega), hm, ?_, ⟨h.dfs.1, fun k hk => ?_⟩, hn⟩
      · simpa [Act.put] using h.size
      · rw [← h.dfs.2 k hk]
        exact keptV_put hb0 hk
    · cases hd
theorem setD_ok {sz : Nat} {d : Option Tmp} {v : SV} {e e' : Env} (h : setD sz d v e = some e') : okD sz d = true := by
  unfold setD at h
  split at h
  · rfl
  · split at h
    · assumption
    · cases h
theorem Rel.drop {ρ : Nat → Nat} {s : St Pd} {F : HP} {a : Act} {w : World} (h : Rel X ρ s F a w) : Rel X ρ (noEnv s) F a w :=
  ⟨fun _ _ g => by simp [noEnv, eget] at g, h.mem, h.size, h.dfs, h.nin⟩

theorem undef_den (ρ : Nat → Nat) : (SV.tuple []).den ρ = undef := by simp [SV.den, SV.denL, undef]

theorem belowB_lt {n i : Nat} (h : belowB n i = true) : i < n := Nat.le_of_ble_eq_true h

/-- what an operation comes to, in a frame of whatever make -/
def uponX (P : Program) (rnd : Bool) (o : Oper) (a : Act) (next : Act → World → Prop) (Q : Exit → Act → World → Prop) : Result Next → Prop
  | .ok (.value v) w' => next (a.put o.dst v) w'
  | .ok .skip w' => next (a.put o.dst undef) w'
  | .ok (.enter f args) w' => Calls P f args w' fun
      | .returned v, w'' => next (a.put o.dst v) w''
      | .panicked chain, w'' => Q (.panic chain) a w''
      | .outgrown, _ => LetsOut Q
  | .ok (.round l f tmps assign body) w' => rnd = true ∧ RoundIn Fence.wide 0 P l f tmps assign body w' fun
      | .returned v, w'' => next (a.put o.dst v) w''
      | .panicked chain, w'' => Q (.panic chain) a w''
      | .outgrown, _ => LetsOut Q
  | .halt (.panic v) w' => Q (.panic [{ v, recovered := false }]) a w'
  | _ => False
theorem doOp_upon (hN : Nodes X W bits Ncond Nob Nop Nloop Nscope) (hty : X.ty.ok X.P) {o : Oper} {fr nx : Nat} {s : St Pd} {K : St Pd → Prop} {KP : SV → St Pd → Prop}
    {ρ : Nat → Nat} {F : HP} {a : Act} {w : World} {next : Act → World → Prop} {Q : Exit → Act → World → Prop} (hnx : X.nin ≤ nx)
    (h : doOp W bits X.ty Nob Nop X.sz X.nin o fr nx s K KP) (hr : Rel X ρ s F a w)
    (hK : ∀ s' ρ' a' w', K s' → Ext X.nin ρ ρ' → Rel X ρ' s' F a' w' → next a' w')
    (hP : ∀ v s' ρ' w', KP v s' → Ext X.nin ρ ρ' → Rel X ρ' (noEnv s') F a w' → Q (.panic (chainOf (v.den ρ'))) a w') : uponX X.P X.rnd o a next Q ((execOp a.eval o).run X.P w) := by
  have hev := evOk_of hr.env
  unfold doOp at h
  split at h
  · rename_i v obs hp
    split at h
    · rename_i e he
      obtain ⟨ho, hk⟩ := obs1_iff hN h
      have := pureV_run hN.W hN.bits hty hev hp ho w
      simp only [this, uponX]
      exact hK _ ρ _ _ hk (Ext.refl _ _) (hr.put he hr.env hr.mem hr.nin)
    · exact h.elim
  · split at h
    · rename_i v cs' hm
      split at h
      · rename_i e he
        by_cases hal : isAlloc o.op = true
        · simp only [hal, if_true] at h
          split at h
          · rename_i hc
            simp only [Bool.and_eq_true] at hc
            obtain ⟨⟨h1, h2⟩, h3⟩ := hc
            obtain ⟨w', ρ', nx', hrun, hnx', hρ, hmem⟩ := memV_run hty hev hm hr.mem h2
            have hext : Ext X.nin ρ ρ' := fun i hi => hρ i (by have := Nat.le_of_ble_eq_true h3; omega)
            have henv : EnvOk ρ' s.env a := hr.env.congr h1 fun i hi => (hρ i (notId_ne hi)).symm
            have hrel := hr.put he henv hmem hnx
            rcases hnx' with rfl | ⟨rfl, rfl⟩
            · simp only [hrun, uponX]
              exact hK _ ρ' _ _ h hext hrel
            · simp only [hrun, uponX]
              rw [undef_den] at hrel
              exact hK _ ρ' _ _ h hext hrel
          · exact h.elim
        · simp only [hal] at h
          have key : ∃ w' nx, (execOp a.eval o).run X.P w = .ok nx w' ∧ (nx = .value (v.den ρ) ∨ (nx = .skip ∧ v = .tuple [])) ∧ SatC X.I X.G ρ cs' F w' := by
            obtain ⟨dst, op, type, pos, after, guard⟩ := o
            cases op <;> simp only [isAlloc, not_true, not_false_eq_true, Bool.false_eq_true] at hal
            · simp only [memV] at hm
              split at hm
              · rename_i ha
                split at hm
                · rename_i v' hl
                  simp only [Option.some.injEq, Prod.mk.injEq] at hm
                  obtain ⟨rfl, rfl⟩ := hm
                  refine ⟨w, _, ?_, .inl rfl, hr.mem⟩
                  simp only [execOp, hev.one _ _ ha, Sem.run_bind, loadM_run hty hr.mem hl, Result.andThen_ok, Sem.run_pure]
                · cases hm
              · cases hm
            · simp only [memV] at hm
              split at hm
              · rename_i ha hb
                split at hm
                · rename_i c2 hl
                  simp only [Option.some.injEq, Prod.mk.injEq] at hm
                  obtain ⟨rfl, rfl⟩ := hm
                  obtain ⟨w', h1, h2⟩ := storeM_run hty hr.mem hl
                  refine ⟨w', _, ?_, .inr ⟨rfl, rfl⟩, h2⟩
                  simp only [execOp, hev.one _ _ ha, hev.one _ _ hb, Sem.run_bind, h1, Result.andThen_ok, Sem.run_pure]
                · cases hm
              · cases hm
          obtain ⟨w', nx', hrun, hnx', hmem⟩ := key
          have hrel := hr.put he hr.env hmem hr.nin
          rcases hnx' with rfl | ⟨rfl, rfl⟩
          · simp only [hrun, uponX]
            exact hK _ ρ _ _ h (Ext.refl _ _) hrel
          · simp only [hrun, uponX]
            rw [undef_den] at hrel
            exact hK _ ρ _ _ h (Ext.refl _ _) hrel
      · exact h.elim
    · split at h <;> first | exact h.elim | skip
      · rename_i x hx
        split at h
        · rename_i t v hv
          have : (execOp a.eval o).run X.P w = .halt (.panic ((SV.iface t v).den ρ)) w := by
            simp only [execOp, hx, hev.one _ _ hv]
            simp [Instr.panic, SV.den]
          simp only [this, uponX]
          exact hP _ _ ρ _ h (Ext.refl _ _) ⟨fun _ _ g => by simp [noEnv, eget] at g, hr.mem, hr.size, hr.dfs, hr.nin⟩
        · exact h.elim
      · split at h
        · rename_i vals hv
          split at h
          · rename_i hc
            simp only [Bool.and_eq_true] at hc
            rw [hN.op] at h
            have hu := h ρ F w a.eval o rfl rfl (evOs_den hr.env hv) hr.mem
            have henv : ∀ ρ', Ext s.n ρ ρ' → EnvOk ρ' s.env a := fun ρ' he => hr.env.congr hc.1 fun i hi => (he i (belowB_lt hi)).symm
            have hret : ∀ u cs n' ρ' w', n' ≥ s.n → Ext s.n ρ ρ' → SatC X.I X.G ρ' cs F w' → (match setD X.sz o.dst u s.env with | some e => K ⟨e, cs, n'⟩ | none => False) → next (a.put o.dst (u.den ρ')) w' := by
              intro u cs n' ρ' w' hn he hm hk
              split at hk
              · rename_i e hd
                exact hK _ ρ' _ _ hk (he.le hr.nin) (hr.put hd (henv _ he) hm (Nat.le_trans hr.nin hn))
              · exact hk.elim
            have hpan : ∀ u cs n' ρ' w', n' ≥ s.n → Ext s.n ρ ρ' → SatC X.I X.G ρ' cs F w' → KP u ⟨[], cs, n'⟩ → Q (.panic (chainOf (u.den ρ'))) a w' := by
              intro u cs n' ρ' w' hn he hm hk
              exact hP _ _ ρ' _ hk (he.le hr.nin) ⟨fun _ _ g => by simp [noEnv, eget] at g, hm, hr.size, hr.dfs, Nat.le_trans hr.nin hn⟩
            generalize (execOp a.eval o).run X.P w = r at hu
            cases r with
            | ok nx w' =>
              cases nx <;> simp only [Upon] at hu <;> simp only [uponX]
              case value v => obtain ⟨u, cs, n', ρ', rfl, h1, h2, h3, h4⟩ := hu; exact hret _ _ _ _ _ h1 h2 h3 h4
              case skip =>
                obtain ⟨cs, n', ρ', h1, h2, h3, h4⟩ := hu
                rw [← undef_den ρ']
                exact hret _ _ _ _ _ h1 h2 h3 h4
              case enter f args =>
                refine hu.mono fun e w'' ⟨out, cs, n', ρ', h0, h1, h2, h3, h4⟩ => ?_
                cases out <;> cases e <;> simp only [OutRel] at h0
                · subst h0; exact hret _ _ _ _ _ h1 h2 h3 h4
                · subst h0; exact hpan _ _ _ _ _ h1 h2 h3 h4
              case round l f tmps assign body =>
                refine ⟨hu.1, hu.2.mono fun e w'' ⟨out, cs, n', ρ', h0, h1, h2, h3, h4⟩ => ?_⟩
                cases out <;> cases e <;> simp only [OutRel] at h0
                · subst h0; exact hret _ _ _ _ _ h1 h2 h3 h4
                · subst h0; exact hpan _ _ _ _ _ h1 h2 h3 h4
            | halt x w' =>
              cases x <;> simp only [Upon] at hu
              simp only [uponX]
              obtain ⟨u, cs, n', ρ', rfl, h1, h2, h3, h4⟩ := hu
              exact hpan _ _ _ _ _ h1 h2 h3 h4
          · exact h.elim
        · exact h.elim
theorem doOp_nd {o : Oper} {fr nx : Nat} {s : St Pd} {K : St Pd → Prop} {KP : SV → St Pd → Prop} (h : doOp W bits X.ty Nob Nop X.sz X.nin o fr nx s K KP) : ∀ c, o.op ≠ .defer c := by
  intro c hc
  unfold doOp at h
  rw [hc] at h
  simp [pureV, memV] at h
theorem doOp_ok (hN : Nodes X W bits Ncond Nob Nop Nloop Nscope) (hty : X.ty.ok X.P) {o : Oper} {fr nx : Nat} {s : St Pd} {K : St Pd → Prop} {KP : SV → St Pd → Prop}
    {ρ : Nat → Nat} {F : HP} {a : Act} {w : World} {next : Act → World → Prop} {Q : Exit → Act → World → Prop} (hnx : X.nin ≤ nx)
    (h : doOp W bits X.ty Nob Nop X.sz X.nin o fr nx s K KP) (hr : Rel X ρ s F a w)
    (hK : ∀ s' ρ' a' w', K s' → Ext X.nin ρ ρ' → Rel X ρ' s' F a' w' → next a' w')
    (hP : ∀ v s' ρ' w', KP v s' → Ext X.nin ρ ρ' → Rel X ρ' (noEnv s') F a w' → Q (.panic (chainOf (v.den ρ'))) a w') (hx : X.rnd = false) : o.wp X.P a w next Q := by
  have hu := doOp_upon hN hty hnx h hr hK hP
  unfold Oper.wp
  generalize (execOp a.eval o).run X.P w = r at hu
  cases r with
  | ok nx w' =>
    cases nx <;> simp only [uponX] at hu <;> simp only [Oper.upon] <;> first | exact hu | (rw [hx] at hu; exact absurd hu.1 (by decide))
  | halt x w' => cases x <;> simp only [uponX] at hu <;> simp only [Oper.upon] <;> exact hu
theorem doOp_okI (hN : Nodes X W bits Ncond Nob Nop Nloop Nscope) (hty : X.ty.ok X.P) {o : Oper} {fr nx : Nat} {s : St Pd} {K : St Pd → Prop} {KP : SV → St Pd → Prop}
    {ρ : Nat → Nat} {F : HP} {a : Act} {w : World} {next : Act → World → Prop} {Q : Exit → Act → World → Prop} (hnx : X.nin ≤ nx)
    (h : doOp W bits X.ty Nob Nop X.sz X.nin o fr nx s K KP) (hr : Rel X ρ s F a w)
    (hK : ∀ s' ρ' a' w', K s' → Ext X.nin ρ ρ' → Rel X ρ' s' F a' w' → next a' w')
    (hP : ∀ v s' ρ' w', KP v s' → Ext X.nin ρ ρ' → Rel X ρ' (noEnv s') F a w' → Q (.panic (chainOf (v.den ρ'))) a w') : o.wpIn (fen X.ro) 0 X.P a w next Q := by
  have hu := doOp_upon hN hty hnx h hr hK hP
  refine ⟨fun f _ => fen_fn X.ro f, ?_⟩
  rw [Oper.semAt_eq _ _ _ (doOp_nd h)]
  generalize (execOp a.eval o).run X.P w = r at hu
  cases r with
  | ok nx w' =>
    cases nx <;> simp only [uponX] at hu <;> simp only [Oper.uponIn]
    case value v => exact hu
    case skip => exact hu
    case enter f args => exact ⟨fen_n _ _, fen_calls hu⟩
    case round l f tmps assign body => exact ⟨fen_n _ _, fen_rounds hu.2⟩
  | halt x w' => cases x <;> simp only [uponX] at hu <;> simp only [Oper.uponIn] <;> exact hu
 end
end Sx
/- The walk's soundness: regions, then whole pieces of code. -/
namespace Sx
open Go
section
variable {Pd : Type} {X : Cx Pd}

theorem tmps_of {ρ : Nat → Nat} {e : Env} {a : Act} (h : EnvOk ρ e a) {t : Nat} {v : SV} (g : eget e t = some v) : a.tmps[t]?.getD undef = v.den ρ := by
  have := h t v g
  rwa [Array.getD_eq_getD_getElem?] at this

theorem wanted_of {ops : Array Oper} {o : Oper} {tmps : Array Value} {j t : Nat} {want : Bool} {oj : Oper} (hg : o.guard = some (j, want)) (hj : ops[j]? = some oj) (hd : oj.dst = some t) :
    Region.wanted o (yielded ops tmps) = ((match tmps[t]? with | some (.bool b) => some b | _ => none) == some want) := by
  simp only [Region.wanted, hg, yielded, hj, hd, Option.bind_some]; rfl

theorem guard_spec {ops : Array Oper} {o : Oper} {e : Env} {ρ : Nat → Nat} {a : Act} (h : EnvOk ρ e a) :
    match guardOf ops.toList e o.guard with
    | .yes => Region.wanted o (yielded ops a.tmps) = true
    | .no => Region.wanted o (yielded ops a.tmps) = false
    | .ask b t want => eget e t = some (.bool b) ∧ Region.wanted o (yielded ops a.tmps) = (b == want)
    | .bad => True := by
  unfold guardOf
  cases hg : o.guard with
  | none => simp [Region.wanted, hg]
  | some x =>
    obtain ⟨j, want⟩ := x
    simp only
    cases hj : ops.toList[j]? with
    | none => simp
    | some oj =>
      have hj' : ops[j]? = some oj := by simpa using hj
      simp only
      cases hd : oj.dst with
      | none => simp
      | some t =>
        simp only
        have hw := wanted_of (tmps := a.tmps) hg hj' hd
        cases ht : eget e t with
        | none => simp
        | some v =>
          have hv := tmps_of h ht
          have hb : ∀ b, v.den ρ = .bool b → a.tmps[t]? = some (.bool b) := by
            intro b hb
            rw [hb] at hv
            cases e1 : a.tmps[t]? with
            | none => rw [e1] at hv; simp [undef] at hv
            | some x => rw [e1] at hv; simpa using hv
          cases v with
          | tt =>
            have := hb true (by simp [SV.den])
            cases want <;> simp [hw, this]
          | ff =>
            have := hb false (by simp [SV.den])
            cases want <;> simp [hw, this]
          | bool b =>
            have := hb b (by simp [SV.den])
            simp [hw, this, ht]
          | tuple l =>
            cases l with
            | nil =>
              simp only
              have : (match a.tmps[t]? with | some (.bool b) => some b | _ => none) = none := by
                cases e1 : a.tmps[t]? with
                | none => rfl
                | some x =>
                  rw [e1] at hv
                  simp [SV.den, SV.denL] at hv
                  subst hv; rfl
              rw [hw, this]; cases want <;> rfl
            | cons x r => simp
          | _ => simp

variable {W : IntKind → Int → Int} {bits : Bits} {Ncond : Bool → (Unit → Prop) → (Unit → Prop) → Prop} {Nob : List Ob → (Unit → Prop) → Prop}
  {Nop : Op → TypeId → List SV → List (Chunk Pd) → Nat → (Out → List (Chunk Pd) → Nat → Prop) → Prop} {Nloop Nscope : Code → St Pd → (SX → St Pd → Prop) → Prop}

theorem Nodes.condE (hN : Nodes X W bits Ncond Nob Nop Nloop Nscope) {b : Bool} {x y : Unit → Prop} (h : Ncond b x y) : (b = true → x ()) ∧ (b = false → y ()) := by
  have := hN.cond; subst this; exact h

theorem Rel.know {ρ : Nat → Nat} {s : St Pd} {F : HP} {a : Act} {w : World} (h : Rel X ρ s F a w) {t : Nat} {b : Bool} (ht : eget s.env t = some (.bool b)) {u : SV} (hu : u.den ρ = .bool b) :
    Rel X ρ ⟨eset s.env t u, s.cs, s.n⟩ F a w := by
  refine ⟨fun k v g => ?_, h.mem, h.size, h.dfs, h.nin⟩
  rw [eget_eset] at g
  by_cases hk : t = k
  · subst hk; simp only [if_true, Option.some.injEq] at g; subst g
    rw [h.env t _ ht, hu]; simp [SV.den]
  · simp only [hk, if_false] at g; exact h.env k v g

theorem Rel.skip {ρ : Nat → Nat} {s : St Pd} {F : HP} {a : Act} {w : World} (h : Rel X ρ s F a w) {d : Option Tmp} {e : Env} (hd : setD X.sz d (.tuple []) s.env = some e) :
    Rel X ρ ⟨e, s.cs, s.n⟩ F (a.put d undef) w := by
  rw [← undef_den ρ]; exact h.put hd h.env h.mem h.nin

theorem runOps_ok (hx : X.rnd = false) (hN : Nodes X W bits Ncond Nob Nop Nloop Nscope) (hty : X.ty.ok X.P) {ops : Array Oper} {K : St Pd → Prop} {KP : SV → St Pd → Prop} {ρ0 : Nat → Nat} {F : HP} {Q : Exit → Act → World → Prop}
    (hK : ∀ s ρ a w, K s → Ext X.nin ρ0 ρ → Rel X ρ s F a w → Q .normal a w)
    (hP : ∀ v s ρ a w, KP v s → Ext X.nin ρ0 ρ → Rel X ρ (noEnv s) F a w → Q (.panic (chainOf (v.den ρ))) a w) :
    ∀ (l : List Oper) (s : St Pd) (ρ : Nat → Nat) (a : Act) (w : World), runOps W bits X.ty Ncond Nob Nop X.sz X.nin ops.toList l s K KP → Ext X.nin ρ0 ρ → Rel X ρ s F a w →
      wpList X.P ops Q l a w
  | [], s, ρ, a, w, h, he, hr => hK s ρ a w h he hr
  | o :: r, s, ρ, a, w, h, he, hr => by
    have hg := guard_spec (ops := ops) (o := o) hr.env
    have yes : ∀ s1 : St Pd, Rel X ρ s1 F a w → doOp W bits X.ty Nob Nop X.sz X.nin o s1.n (s1.n + 1) s1 (fun s' => runOps W bits X.ty Ncond Nob Nop X.sz X.nin ops.toList r s' K KP) KP →
        Region.wanted o (yielded ops a.tmps) = true → wpList X.P ops Q (o :: r) a w := by
      intro s1 hr1 h1 hw
      unfold wpList
      rw [if_pos hw]
      exact .inl (doOp_ok hN hty (Nat.le_succ_of_le hr1.nin) h1 hr1 (fun s' ρ' a' w' hk he' hr' => runOps_ok hx hN hty hK hP r s' ρ' a' w' hk (he.trans he') hr') (fun v s' ρ' w' hk he' hr' => hP _ _ _ _ _ hk (he.trans he') hr') hx)
    have no : ∀ s1 : St Pd, Rel X ρ s1 F a w → (match setD X.sz o.dst (.tuple []) s1.env with | some e => runOps W bits X.ty Ncond Nob Nop X.sz X.nin ops.toList r ⟨e, s1.cs, s1.n⟩ K KP | none => False) →
        Region.wanted o (yielded ops a.tmps) = false → wpList X.P ops Q (o :: r) a w := by
      intro s1 hr1 h1 hw
      unfold wpList
      rw [if_neg (by simp [hw])]
      split at h1
      · rename_i e hd
        exact runOps_ok hx hN hty hK hP r _ ρ _ w h1 he (hr1.skip hd)
      · exact h1.elim
    unfold runOps at h
    split at h <;> rename_i hgd <;> rw [hgd] at hg
    · exact yes s hr h hg
    · exact no s hr h hg
    · rename_i b t want
      obtain ⟨ht, hw⟩ := hg
      have h := hN.condE h
      cases b with
      | true =>
        have h := h.1 rfl
        have hr1 := hr.know ht (u := .tt) (by simp [SV.den])
        cases want with
        | true => exact yes _ hr1 h (by simpa using hw)
        | false => exact no _ hr1 h (by simpa using hw)
      | false =>
        have h := h.2 rfl
        have hr1 := hr.know ht (u := .ff) (by simp [SV.den])
        cases want with
        | true => exact no _ hr1 h (by simpa using hw)
        | false => exact yes _ hr1 h (by simpa using hw)
    · exact h.elim

mutual
theorem runPlan_ok (hx : X.rnd = false) (hN : Nodes X W bits Ncond Nob Nop Nloop Nscope) (hty : X.ty.ok X.P) {ops : Array Oper} (hsel : Region.noSelect ops = true) {base : Nat} {K : St Pd → Prop} {KP : SV → St Pd → Prop} {ρ0 : Nat → Nat} {F : HP} {Q : Exit → Act → World → Prop}
    (hQ : ∀ c a d v w, okD X.sz d = true → Q (.panic c) (Act.put a d v) w → Q (.panic c) a w)
    (hK : ∀ s ρ a w, K s → Ext X.nin ρ0 ρ → Rel X ρ s F a w → Q .normal a w)
    (hP : ∀ v s ρ a w, KP v s → Ext X.nin ρ0 ρ → Rel X ρ (noEnv s) F a w → Q (.panic (chainOf (v.den ρ))) a w) :
    ∀ (p : Plan) (f : Nat) (listed : Array Bool) (s : St Pd) (ρ : Nat → Nat) (a : Act) (w : World), p.ok ops f listed = true →
      runPlan W bits X.ty Ncond Nob Nop X.sz X.nin ops.toList base p s K KP → Ext X.nin ρ0 ρ → Rel X ρ s F a w → wpAny X.P .any ops Q f listed a w
  | .done, f, listed, s, ρ, a, w, hp, h, he, hr => wpAny_done (by simpa [Plan.ok] using hp) (hK s ρ a w (by simpa [runPlan] using h) he hr) f
  | .take i p, 0, listed, s, ρ, a, w, hp, h, he, hr => by simp [Plan.ok] at hp
  | .take i p, f + 1, listed, s, ρ, a, w, hp, h, he, hr => by
    simp only [Plan.ok, Bool.and_eq_true] at hp
    obtain ⟨⟨hfree, hready⟩, hp⟩ := hp
    simp only [runPlan] at h
    split at h
    · exact h.elim
    · rename_i o ho
      have ho' : ops[i]? = some o := by simpa using ho
      have hg := guard_spec (ops := ops) (o := o) hr.env
      have yes : ∀ s1 : St Pd, Rel X ρ s1 F a w → (match pureV W bits X.ty (evO s1.env) (evOs s1.env) o.op with
          | some (v, obs) => match setD X.sz o.dst v s1.env with
            | some e => obs1 Nob obs fun _ => runPlan W bits X.ty Ncond Nob Nop X.sz X.nin ops.toList base p ⟨e, s1.cs, s1.n⟩ K KP
            | none => False
          | none => False) → Region.wanted o (yielded ops a.tmps) = true → wpAny X.P .any ops Q (f + 1) listed a w := by
        intro s1 hr1 h1 hw
        split at h1
        · rename_i v obs hpv
          split at h1
          · rename_i e hd
            obtain ⟨hobs, hk⟩ := obs1_iff hN h1
            have hrun := pureV_run (P := X.P) hN.W hN.bits hty (evOk_of hr1.env) hpv hobs
            exact wpAny_take ho' hsel hfree hready (fun c a w => hQ c a _ _ w (setD_ok hd)) (.inl ⟨hw, hrun⟩)
              (runPlan_ok hx hN hty hsel hQ hK hP p f _ _ ρ _ w hp hk he (hr1.put hd hr1.env hr1.mem hr1.nin))
          · exact h1.elim
        · exact h1.elim
      have no : ∀ s1 : St Pd, Rel X ρ s1 F a w → (match setD X.sz o.dst (.tuple []) s1.env with | some e => runPlan W bits X.ty Ncond Nob Nop X.sz X.nin ops.toList base p ⟨e, s1.cs, s1.n⟩ K KP | none => False) →
          Region.wanted o (yielded ops a.tmps) = false → wpAny X.P .any ops Q (f + 1) listed a w := by
        intro s1 hr1 h1 hw
        split at h1
        · rename_i e hd
          exact wpAny_take ho' hsel hfree hready (fun c a w => hQ c a _ _ w (setD_ok hd)) (.inr ⟨hw, rfl⟩) (runPlan_ok hx hN hty hsel hQ hK hP p f _ _ ρ _ w hp h1 he (hr1.skip hd))
        · exact h1.elim
      split at h <;> rename_i hgd <;> rw [hgd] at hg
      · exact yes s hr h hg
      · exact no s hr h hg
      · rename_i b t want
        obtain ⟨ht, hw⟩ := hg
        have h := hN.condE h
        cases b with
        | true =>
          have h := h.1 rfl
          have hr1 := hr.know ht (u := .tt) (by simp [SV.den])
          cases want with
          | true => exact yes _ hr1 h (by simpa using hw)
          | false => exact no _ hr1 h (by simpa using hw)
        | false =>
          have h := h.2 rfl
          have hr1 := hr.know ht (u := .ff) (by simp [SV.den])
          cases want with
          | true => exact no _ hr1 h (by simpa using hw)
          | false => exact yes _ hr1 h (by simpa using hw)
      · exact h.elim
  | .all l, 0, listed, s, ρ, a, w, hp, h, he, hr => by simp [Plan.ok] at hp
  | .all l, f + 1, listed, s, ρ, a, w, hp, h, he, hr => by
    simp only [Plan.ok, Bool.and_eq_true, decide_eq_true_eq] at hp
    obtain ⟨⟨hready, hne⟩, hp⟩ := hp
    simp only [runPlan] at h
    exact wpAny_all hready (by intro e; cases l <;> simp at hne e) (fun i hi => runAll_ok hx hN hty hsel hQ hK hP l f listed s ρ a w hp h he hr i hi)
theorem runAll_ok (hx : X.rnd = false) (hN : Nodes X W bits Ncond Nob Nop Nloop Nscope) (hty : X.ty.ok X.P) {ops : Array Oper} (hsel : Region.noSelect ops = true) {base : Nat} {K : St Pd → Prop} {KP : SV → St Pd → Prop} {ρ0 : Nat → Nat} {F : HP} {Q : Exit → Act → World → Prop}
    (hQ : ∀ c a d v w, okD X.sz d = true → Q (.panic c) (Act.put a d v) w → Q (.panic c) a w)
    (hK : ∀ s ρ a w, K s → Ext X.nin ρ0 ρ → Rel X ρ s F a w → Q .normal a w)
    (hP : ∀ v s ρ a w, KP v s → Ext X.nin ρ0 ρ → Rel X ρ (noEnv s) F a w → Q (.panic (chainOf (v.den ρ))) a w) :
    ∀ (l : List (Nat × Plan)) (f : Nat) (listed : Array Bool) (s : St Pd) (ρ : Nat → Nat) (a : Act) (w : World), Plan.okL ops l f listed = true →
      runAll W bits X.ty Ncond Nob Nop X.sz X.nin ops.toList base l s K KP → Ext X.nin ρ0 ρ → Rel X ρ s F a w →
      ∀ i ∈ l.map (·.1), wpOp X.P ops Q i (wpAny X.P .any ops Q f (listed.setIfInBounds i true)) a w
  | [], f, listed, s, ρ, a, w, _, _, _, _, i, hi => by simp at hi
  | (j, p) :: r, f, listed, s, ρ, a, w, hp, h, he, hr, i, hi => by
    simp only [Plan.okL, Bool.and_eq_true] at hp
    simp only [runAll] at h
    obtain ⟨h, hrest⟩ := h
    simp only [List.map_cons, List.mem_cons] at hi
    by_cases hij : i = j
    · subst hij
      split at h
      · exact h.elim
      · rename_i o ho
        have ho' : ops[i]? = some o := by simpa using ho
        have hg := guard_spec (ops := ops) (o := o) hr.env
        have yes : ∀ s1 : St Pd, Rel X ρ s1 F a w → doOp W bits X.ty Nob Nop X.sz X.nin o (base + i) s1.n s1 (fun s' => runPlan W bits X.ty Ncond Nob Nop X.sz X.nin ops.toList base p s' K KP) KP →
            Region.wanted o (yielded ops a.tmps) = true → wpOp X.P ops Q i (wpAny X.P .any ops Q f (listed.setIfInBounds i true)) a w := by
          intro s1 hr1 h1 hw
          unfold wpOp
          simp only [ho']
          rw [if_pos hw]
          exact .inl (doOp_ok hN hty hr1.nin h1 hr1 (fun s' ρ' a' w' hk he' hr' => runPlan_ok hx hN hty hsel hQ hK hP p f _ s' ρ' a' w' hp.1 hk (he.trans he') hr') (fun v s' ρ' w' hk he' hr' => hP _ _ _ _ _ hk (he.trans he') hr') hx)
        have no : ∀ s1 : St Pd, Rel X ρ s1 F a w → (match setD X.sz o.dst (.tuple []) s1.env with | some e => runPlan W bits X.ty Ncond Nob Nop X.sz X.nin ops.toList base p ⟨e, s1.cs, s1.n⟩ K KP | none => False) →
            Region.wanted o (yielded ops a.tmps) = false → wpOp X.P ops Q i (wpAny X.P .any ops Q f (listed.setIfInBounds i true)) a w := by
          intro s1 hr1 h1 hw
          unfold wpOp
          simp only [ho']
          rw [if_neg (by simp [hw])]
          split at h1
          · rename_i e hd
            exact runPlan_ok hx hN hty hsel hQ hK hP p f _ _ ρ _ w hp.1 h1 he (hr1.skip hd)
          · exact h1.elim
        split at h <;> rename_i hgd <;> rw [hgd] at hg
        · exact yes s hr h hg
        · exact no s hr h hg
        · rename_i b t want
          obtain ⟨ht, hw⟩ := hg
          have h := hN.condE h
          cases b with
          | true =>
            have h := h.1 rfl
            have hr1 := hr.know ht (u := .tt) (by simp [SV.den])
            cases want with
            | true => exact yes _ hr1 h (by simpa using hw)
            | false => exact no _ hr1 h (by simpa using hw)
          | false =>
            have h := h.2 rfl
            have hr1 := hr.know ht (u := .ff) (by simp [SV.den])
            cases want with
            | true => exact no _ hr1 h (by simpa using hw)
            | false => exact yes _ hr1 h (by simpa using hw)
        · exact h.elim
    · exact runAll_ok hx hN hty hsel hQ hK hP r f listed s ρ a w hp.2 hrest he hr i (hi.resolve_left hij)
 end
 end
end Sx
/- Regions, in a frame of whatever make. -/
namespace Sx
open Go
section
variable {Pd : Type} {X : Cx Pd}
variable {W : IntKind → Int → Int} {bits : Bits} {Ncond : Bool → (Unit → Prop) → (Unit → Prop) → Prop} {Nob : List Ob → (Unit → Prop) → Prop}
  {Nop : Op → TypeId → List SV → List (Chunk Pd) → Nat → (Out → List (Chunk Pd) → Nat → Prop) → Prop} {Nloop Nscope : Code → St Pd → (SX → St Pd → Prop) → Prop}
theorem runOpsI_ok (hN : Nodes X W bits Ncond Nob Nop Nloop Nscope) (hty : X.ty.ok X.P) {ops : Array Oper} {K : St Pd → Prop} {KP : SV → St Pd → Prop} {ρ0 : Nat → Nat} {F : HP} {Q : Exit → Act → World → Prop}
    (hK : ∀ s ρ a w, K s → Ext X.nin ρ0 ρ → Rel X ρ s F a w → Q .normal a w)
    (hP : ∀ v s ρ a w, KP v s → Ext X.nin ρ0 ρ → Rel X ρ (noEnv s) F a w → Q (.panic (chainOf (v.den ρ))) a w) :
    ∀ (l : List Oper) (s : St Pd) (ρ : Nat → Nat) (a : Act) (w : World), runOps W bits X.ty Ncond Nob Nop X.sz X.nin ops.toList l s K KP → Ext X.nin ρ0 ρ → Rel X ρ s F a w →
      wpListIn (fen X.ro) 0 X.P ops Q l a w
  | [], s, ρ, a, w, h, he, hr => hK s ρ a w h he hr
  | o :: r, s, ρ, a, w, h, he, hr => by
    have hg := guard_spec (ops := ops) (o := o) hr.env
    have yes : ∀ s1 : St Pd, Rel X ρ s1 F a w → doOp W bits X.ty Nob Nop X.sz X.nin o s1.n (s1.n + 1) s1 (fun s' => runOps W bits X.ty Ncond Nob Nop X.sz X.nin ops.toList r s' K KP) KP →
        Region.wanted o (yielded ops a.tmps) = true → wpListIn (fen X.ro) 0 X.P ops Q (o :: r) a w := by
      intro s1 hr1 h1 hw
      unfold wpListIn
      rw [if_pos hw]
      exact (doOp_okI hN hty (Nat.le_succ_of_le hr1.nin) h1 hr1 (fun s' ρ' a' w' hk he' hr' => runOpsI_ok hN hty hK hP r s' ρ' a' w' hk (he.trans he') hr') (fun v s' ρ' w' hk he' hr' => hP _ _ _ _ _ hk (he.trans he') hr'))
    have no : ∀ s1 : St Pd, Rel X ρ s1 F a w → (match setD X.sz o.dst (.tuple []) s1.env with | some e => runOps W bits X.ty Ncond Nob Nop X.sz X.nin ops.toList r ⟨e, s1.cs, s1.n⟩ K KP | none => False) →
        Region.wanted o (yielded ops a.tmps) = false → wpListIn (fen X.ro) 0 X.P ops Q (o :: r) a w := by
      intro s1 hr1 h1 hw
      unfold wpListIn
      rw [if_neg (by simp [hw])]
      refine ⟨fun f _ => fen_fn X.ro f, ?_⟩
      split at h1
      · rename_i e hd
        exact runOpsI_ok hN hty hK hP r _ ρ _ w h1 he (hr1.skip hd)
      · exact h1.elim
    unfold runOps at h
    split at h <;> rename_i hgd <;> rw [hgd] at hg
    · exact yes s hr h hg
    · exact no s hr h hg
    · rename_i b t want
      obtain ⟨ht, hw⟩ := hg
      have h := hN.condE h
      cases b with
      | true =>
        have h := h.1 rfl
        have hr1 := hr.know ht (u := .tt) (by simp [SV.den])
        cases want with
        | true => exact yes _ hr1 h (by simpa using hw)
        | false => exact no _ hr1 h (by simpa using hw)
      | false =>
        have h := h.2 rfl
        have hr1 := hr.know ht (u := .ff) (by simp [SV.den])
        cases want with
        | true => exact no _ hr1 h (by simpa using hw)
        | false => exact yes _ hr1 h (by simpa using hw)
    · exact h.elim

mutual
theorem runPlanI_ok (hN : Nodes X W bits Ncond Nob Nop Nloop Nscope) (hty : X.ty.ok X.P) {ops : Array Oper} (hsel : Region.noSelect ops = true) {base : Nat} {K : St Pd → Prop} {KP : SV → St Pd → Prop} {ρ0 : Nat → Nat} {F : HP} {Q : Exit → Act → World → Prop}
    (hQ : ∀ c a d v w, okD X.sz d = true → Q (.panic c) (Act.put a d v) w → Q (.panic c) a w)
    (hK : ∀ s ρ a w, K s → Ext X.nin ρ0 ρ → Rel X ρ s F a w → Q .normal a w)
    (hP : ∀ v s ρ a w, KP v s → Ext X.nin ρ0 ρ → Rel X ρ (noEnv s) F a w → Q (.panic (chainOf (v.den ρ))) a w) :
    ∀ (p : Plan) (f : Nat) (listed : Array Bool) (s : St Pd) (ρ : Nat → Nat) (a : Act) (w : World), p.ok ops f listed = true →
      runPlan W bits X.ty Ncond Nob Nop X.sz X.nin ops.toList base p s K KP → Ext X.nin ρ0 ρ → Rel X ρ s F a w → wpAnyIn (fen X.ro) 0 X.P .any ops Q f listed a w
  | .done, f, listed, s, ρ, a, w, hp, h, he, hr => wpAnyIn_done (by simpa [Plan.ok] using hp) (hK s ρ a w (by simpa [runPlan] using h) he hr) f
  | .take i p, 0, listed, s, ρ, a, w, hp, h, he, hr => by simp [Plan.ok] at hp
  | .take i p, f + 1, listed, s, ρ, a, w, hp, h, he, hr => by
    simp only [Plan.ok, Bool.and_eq_true] at hp
    obtain ⟨⟨hfree, hready⟩, hp⟩ := hp
    simp only [runPlan] at h
    split at h
    · exact h.elim
    · rename_i o ho
      have ho' : ops[i]? = some o := by simpa using ho
      have hg := guard_spec (ops := ops) (o := o) hr.env
      have yes : ∀ s1 : St Pd, Rel X ρ s1 F a w → (match pureV W bits X.ty (evO s1.env) (evOs s1.env) o.op with
          | some (v, obs) => match setD X.sz o.dst v s1.env with
            | some e => obs1 Nob obs fun _ => runPlan W bits X.ty Ncond Nob Nop X.sz X.nin ops.toList base p ⟨e, s1.cs, s1.n⟩ K KP
            | none => False
          | none => False) → Region.wanted o (yielded ops a.tmps) = true → wpAnyIn (fen X.ro) 0 X.P .any ops Q (f + 1) listed a w := by
        intro s1 hr1 h1 hw
        split at h1
        · rename_i v obs hpv
          split at h1
          · rename_i e hd
            obtain ⟨hobs, hk⟩ := obs1_iff hN h1
            have hrun := pureV_run (P := X.P) hN.W hN.bits hty (evOk_of hr1.env) hpv hobs
            exact wpAnyW_take ho' hsel hfree hready (fun c a w => hQ c a _ _ w (setD_ok hd)) (.inl ⟨hw, hrun⟩)
              (runPlanI_ok hN hty hsel hQ hK hP p f _ _ ρ _ w hp hk he (hr1.put hd hr1.env hr1.mem hr1.nin))
          · exact h1.elim
        · exact h1.elim
      have no : ∀ s1 : St Pd, Rel X ρ s1 F a w → (match setD X.sz o.dst (.tuple []) s1.env with | some e => runPlan W bits X.ty Ncond Nob Nop X.sz X.nin ops.toList base p ⟨e, s1.cs, s1.n⟩ K KP | none => False) →
          Region.wanted o (yielded ops a.tmps) = false → wpAnyIn (fen X.ro) 0 X.P .any ops Q (f + 1) listed a w := by
        intro s1 hr1 h1 hw
        split at h1
        · rename_i e hd
          exact wpAnyW_take ho' hsel hfree hready (fun c a w => hQ c a _ _ w (setD_ok hd)) (.inr ⟨hw, rfl⟩) (runPlanI_ok hN hty hsel hQ hK hP p f _ _ ρ _ w hp h1 he (hr1.skip hd))
        · exact h1.elim
      split at h <;> rename_i hgd <;> rw [hgd] at hg
      · exact yes s hr h hg
      · exact no s hr h hg
      · rename_i b t want
        obtain ⟨ht, hw⟩ := hg
        have h := hN.condE h
        cases b with
        | true =>
          have h := h.1 rfl
          have hr1 := hr.know ht (u := .tt) (by simp [SV.den])
          cases want with
          | true => exact yes _ hr1 h (by simpa using hw)
          | false => exact no _ hr1 h (by simpa using hw)
        | false =>
          have h := h.2 rfl
          have hr1 := hr.know ht (u := .ff) (by simp [SV.den])
          cases want with
          | true => exact no _ hr1 h (by simpa using hw)
          | false => exact yes _ hr1 h (by simpa using hw)
      · exact h.elim
  | .all l, 0, listed, s, ρ, a, w, hp, h, he, hr => by simp [Plan.ok] at hp
  | .all l, f + 1, listed, s, ρ, a, w, hp, h, he, hr => by
    simp only [Plan.ok, Bool.and_eq_true, decide_eq_true_eq] at hp
    obtain ⟨⟨hready, hne⟩, hp⟩ := hp
    simp only [runPlan] at h
    exact wpAnyIn_all hready (by intro e; cases l <;> simp at hne e) (fun i hi => runAllI_ok hN hty hsel hQ hK hP l f listed s ρ a w hp h he hr i hi)
theorem runAllI_ok (hN : Nodes X W bits Ncond Nob Nop Nloop Nscope) (hty : X.ty.ok X.P) {ops : Array Oper} (hsel : Region.noSelect ops = true) {base : Nat} {K : St Pd → Prop} {KP : SV → St Pd → Prop} {ρ0 : Nat → Nat} {F : HP} {Q : Exit → Act → World → Prop}
    (hQ : ∀ c a d v w, okD X.sz d = true → Q (.panic c) (Act.put a d v) w → Q (.panic c) a w)
    (hK : ∀ s ρ a w, K s → Ext X.nin ρ0 ρ → Rel X ρ s F a w → Q .normal a w)
    (hP : ∀ v s ρ a w, KP v s → Ext X.nin ρ0 ρ → Rel X ρ (noEnv s) F a w → Q (.panic (chainOf (v.den ρ))) a w) :
    ∀ (l : List (Nat × Plan)) (f : Nat) (listed : Array Bool) (s : St Pd) (ρ : Nat → Nat) (a : Act) (w : World), Plan.okL ops l f listed = true →
      runAll W bits X.ty Ncond Nob Nop X.sz X.nin ops.toList base l s K KP → Ext X.nin ρ0 ρ → Rel X ρ s F a w →
      ∀ i ∈ l.map (·.1), wpOpIn (fen X.ro) 0 X.P ops Q i (wpAnyIn (fen X.ro) 0 X.P .any ops Q f (listed.setIfInBounds i true)) a w
  | [], f, listed, s, ρ, a, w, _, _, _, _, i, hi => by simp at hi
  | (j, p) :: r, f, listed, s, ρ, a, w, hp, h, he, hr, i, hi => by
    simp only [Plan.okL, Bool.and_eq_true] at hp
    simp only [runAll] at h
    obtain ⟨h, hrest⟩ := h
    simp only [List.map_cons, List.mem_cons] at hi
    by_cases hij : i = j
    · subst hij
      split at h
      · exact h.elim
      · rename_i o ho
        have ho' : ops[i]? = some o := by simpa using ho
        have hg := guard_spec (ops := ops) (o := o) hr.env
        have yes : ∀ s1 : St Pd, Rel X ρ s1 F a w → doOp W bits X.ty Nob Nop X.sz X.nin o (base + i) s1.n s1 (fun s' => runPlan W bits X.ty Ncond Nob Nop X.sz X.nin ops.toList base p s' K KP) KP →
            Region.wanted o (yielded ops a.tmps) = true → wpOpIn (fen X.ro) 0 X.P ops Q i (wpAnyIn (fen X.ro) 0 X.P .any ops Q f (listed.setIfInBounds i true)) a w := by
          intro s1 hr1 h1 hw
          unfold wpOpIn
          simp only [ho']
          rw [if_pos hw]
          exact (doOp_okI hN hty hr1.nin h1 hr1 (fun s' ρ' a' w' hk he' hr' => runPlanI_ok hN hty hsel hQ hK hP p f _ s' ρ' a' w' hp.1 hk (he.trans he') hr') (fun v s' ρ' w' hk he' hr' => hP _ _ _ _ _ hk (he.trans he') hr'))
        have no : ∀ s1 : St Pd, Rel X ρ s1 F a w → (match setD X.sz o.dst (.tuple []) s1.env with | some e => runPlan W bits X.ty Ncond Nob Nop X.sz X.nin ops.toList base p ⟨e, s1.cs, s1.n⟩ K KP | none => False) →
            Region.wanted o (yielded ops a.tmps) = false → wpOpIn (fen X.ro) 0 X.P ops Q i (wpAnyIn (fen X.ro) 0 X.P .any ops Q f (listed.setIfInBounds i true)) a w := by
          intro s1 hr1 h1 hw
          unfold wpOpIn
          simp only [ho']
          rw [if_neg (by simp [hw])]
          refine ⟨fun f _ => fen_fn X.ro f, ?_⟩
          split at h1
          · rename_i e hd
            exact runPlanI_ok hN hty hsel hQ hK hP p f _ _ ρ _ w hp.1 h1 he (hr1.skip hd)
          · exact h1.elim
        split at h <;> rename_i hgd <;> rw [hgd] at hg
        · exact yes s hr h hg
        · exact no s hr h hg
        · rename_i b t want
          obtain ⟨ht, hw⟩ := hg
          have h := hN.condE h
          cases b with
          | true =>
            have h := h.1 rfl
            have hr1 := hr.know ht (u := .tt) (by simp [SV.den])
            cases want with
            | true => exact yes _ hr1 h (by simpa using hw)
            | false => exact no _ hr1 h (by simpa using hw)
          | false =>
            have h := h.2 rfl
            have hr1 := hr.know ht (u := .ff) (by simp [SV.den])
            cases want with
            | true => exact no _ hr1 h (by simpa using hw)
            | false => exact yes _ hr1 h (by simpa using hw)
        · exact h.elim
    · exact runAllI_ok hN hty hsel hQ hK hP r f listed s ρ a w hp.2 hrest he hr i (hi.resolve_left hij)
 end
 end
end Sx
/- Whole pieces of code; whole functions: triples. -/
namespace Sx
open Go
section
variable {Pd : Type} {X : Cx Pd}
variable {W : IntKind → Int → Int} {bits : Bits} {Ncond : Bool → (Unit → Prop) → (Unit → Prop) → Prop} {Nob : List Ob → (Unit → Prop) → Prop}
  {Nop : Op → TypeId → List SV → List (Chunk Pd) → Nat → (Out → List (Chunk Pd) → Nat → Prop) → Prop} {Nloop Nscope : Code → St Pd → (SX → St Pd → Prop) → Prop}

theorem Rel.same {ρ : Nat → Nat} {s : St Pd} {F : HP} {a : Act} {w w' : World} (h : Rel X ρ s F a w) (e : w'.heap = w.heap) {n : Nat} (hn : s.n ≤ n) (ei : io w' = io w := by rfl) : Rel X ρ ⟨s.env, s.cs, n⟩ F a w' :=
  ⟨h.env, h.mem.same e ei, h.size, h.dfs, Nat.le_trans h.nin hn⟩

theorem Post.panic_put {K : SX → St Pd → Prop} {ρ0 : Nat → Nat} {F : HP} (c : List PanicEntry) (a : Act) (d : Option Tmp) (v : Value) (w : World) (hd : okD X.sz d = true) (h : Post X K ρ0 F (.panic c) (a.put d v) w) : Post X K ρ0 F (.panic c) a w := by
  obtain ⟨u, s, ρ, h1, h2, h3, h4⟩ := h
  refine ⟨u, s, ρ, h1, h2, h3, fun _ _ g => by simp [noEnv, eget] at g, h4.mem, ?_, ?_, h4.nin⟩
  · have := h4.size; cases d <;> simpa [Act.put] using this
  · cases d with
    | none => exact h4.dfs
    | some t =>
      refine ⟨h4.dfs.1, fun k hk => ?_⟩
      rw [← h4.dfs.2 k hk]
      exact (keptV_put hd hk).symm

theorem Rel.note {ρ : Nat → Nat} {s : St Pd} {F : HP} {a : Act} {w : World} (h : Rel X ρ s F a w) {c : Operand} {b : Bool} (hc : evO s.env c = some (.bool b)) {u : SV} (hu : u.den ρ = .bool b) :
    Rel X ρ (noteC c u s) F a w := by
  cases c with
  | tmp t => exact h.know hc hu
  | _ => exact h

theorem run_okI (hN : Nodes X W bits Ncond Nob Nop Nloop Nscope) (hty : X.ty.ok X.P) (hm : X.P.follows .mixedOrders = true) :
    ∀ (c : Code) (s : St Pd) (K : SX → St Pd → Prop), plansOk X.pl c = true → run W bits X.ty Ncond Nob Nop Nloop Nscope X.sz X.nin X.pl c s K →
      ∀ (ρ0 ρ : Nat → Nat) (F : HP) (a : Act) (w : World), Ext X.nin ρ0 ρ → Rel X ρ s F a w → c.wpIn (fen X.ro) 0 X.P (Post X K ρ0 F) a w
  | .skip, s, K, _, h, ρ0, ρ, F, a, w, he, hr => wpIn_skip ⟨s, ρ, h, he, hr⟩
  | .label _, s, K, _, h, ρ0, ρ, F, a, w, he, hr => wpIn_label ⟨s, ρ, h, he, hr⟩
  | .exit i, s, K, _, h, ρ0, ρ, F, a, w, he, hr => wpIn_exit ⟨s, ρ, h, he, hr⟩
  | .goto i, s, K, _, h, ρ0, ρ, F, a, w, he, hr => wpIn_goto ⟨s, ρ, h, he, hr⟩
  | .ret, s, K, _, h, ρ0, ρ, F, a, w, he, hr => wpIn_ret ⟨s, ρ, h, he, hr⟩
  | .rangeFunc .., s, K, _, h, ρ0, ρ, F, a, w, he, hr => by simp only [run] at h
  | .refuse _, s, K, _, h, ρ0, ρ, F, a, w, he, hr => by simp only [run] at h
  | .loop b, s, K, hp, h, ρ0, ρ, F, a, w, he, hr => by
    simp only [run] at h
    rw [hN.loop] at h
    exact h (by simpa [plansOk] using hp) ρ0 ρ F a w he hr
  | .scope b, s, K, hp, h, ρ0, ρ, F, a, w, he, hr => by
    simp only [run] at h
    rw [hN.scope] at h
    exact h (by simpa [plansOk] using hp) ρ0 ρ F a w he hr
  | .region id ops draw, s, K, hp, h, ρ0, ρ, F, a, w, he, hr => by
    simp only [run] at h
    have hK : ∀ s ρ a w, K .normal s → Ext X.nin ρ0 ρ → Rel X ρ s F a w → Post X K ρ0 F .normal a w := fun s ρ a w h1 h2 h3 => ⟨s, ρ, h1, h2, h3⟩
    have hP : ∀ v s ρ a w, K (.panic v) s → Ext X.nin ρ0 ρ → Rel X ρ (noEnv s) F a w → Post X K ρ0 F (.panic (chainOf (v.den ρ))) a w := fun v s ρ a w h1 h2 h3 => ⟨v, s, ρ, h1, h2, rfl, h3⟩
    cases draw with
    | false =>
      simp only [Bool.false_eq_true, if_false] at h
      exact wpIn_region_list (runOpsI_ok hN hty hK hP _ s ρ a w h he hr)
    | true =>
      simp only [if_true] at h
      simp only [plansOk, Bool.not_true, Bool.false_or] at hp
      split at h
      · rename_i p hpl
        rw [hpl] at hp
        simp only [Bool.and_eq_true] at hp
        exact wpIn_region_any hm (runPlanI_ok hN hty hp.1 Post.panic_put hK hP p _ _ _ ρ a _ hp.2 h he (hr.same (w' := { w with drawn := w.drawn + 1 }) rfl (Nat.le_add_right _ _)))
      · exact h.elim
  | .seq x y, s, K, hp, h, ρ0, ρ, F, a, w, he, hr => by
    simp only [run] at h
    simp only [plansOk, Bool.and_eq_true] at hp
    have h1 := run_okI hN hty hm x s _ hp.1 h ρ0 ρ F a w he hr
    refine wpIn_seq (wpIn_mono h1 fun e a w hq => ?_)
    cases e with
    | normal =>
      obtain ⟨s', ρ', h2, h3, h4⟩ := hq
      exact run_okI hN hty hm y s' K hp.2 h2 ρ0 ρ' F a w h3 h4
    | exit i => exact hq
    | goto i => exact hq
    | ret => exact hq
    | panic c => exact hq
    | outgrown => exact hq
  | .cond c x y, s, K, hp, h, ρ0, ρ, F, a, w, he, hr => by
    simp only [run] at h
    simp only [plansOk, Bool.and_eq_true] at hp
    split at h
    · rename_i hc
      exact wpIn_cond_true (by rw [evO_den hr.env hc]; rfl) (run_okI hN hty hm x s K hp.1 h ρ0 ρ F a w he hr)
    · rename_i hc
      exact wpIn_cond_false (by rw [evO_den hr.env hc]; rfl) (run_okI hN hty hm y s K hp.2 h ρ0 ρ F a w he hr)
    · rename_i b hc
      have h := hN.condE h
      exact wpIn_cond_split (t := b) (by rw [evO_den hr.env hc]; rfl) (fun hb => run_okI hN hty hm x _ K hp.1 (h.1 hb) ρ0 ρ F a w he (hr.note hc (by subst hb; rfl))) (fun hb => run_okI hN hty hm y _ K hp.2 (h.2 hb) ρ0 ρ F a w he (hr.note hc (by subst hb; rfl)))
    · exact h.elim
  | .block id b, s, K, hp, h, ρ0, ρ, F, a, w, he, hr => by
    simp only [run] at h
    simp only [plansOk] at hp
    have h1 := run_okI hN hty hm b s _ hp h ρ0 ρ F a w he hr
    refine wpIn_block (wpIn_mono h1 fun e a w hq => ?_)
    cases e with
    | normal => exact hq
    | exit i =>
      obtain ⟨s', ρ', h2, h3, h4⟩ := hq
      simp only at h2
      by_cases hi : i = id
      · simp only [natEq_iff.2 hi, if_true] at h2
        simp only [Exit.inBlock, hi, if_true]
        exact ⟨s', ρ', h2, h3, h4⟩
      · have : natEq i id = false := by
          cases e : natEq i id with
          | false => rfl
          | true => exact absurd (natEq_iff.1 e) hi
        simp only [this, Bool.false_eq_true, if_false] at h2
        simp only [Exit.inBlock, hi, if_false]
        exact ⟨s', ρ', h2, h3, h4⟩
    | goto i => exact hq
    | ret => exact hq
    | panic c => exact hq
    | outgrown => exact hq
theorem run_ok (hN : Nodes X W bits Ncond Nob Nop Nloop Nscope) (hty : X.ty.ok X.P) (hm : X.P.follows .mixedOrders = true) (c : Code) (s : St Pd) (K : SX → St Pd → Prop) (hp : plansOk X.pl c = true)
    (h : run W bits X.ty Ncond Nob Nop Nloop Nscope X.sz X.nin X.pl c s K) (ρ0 ρ : Nat → Nat) (F : HP) (a : Act) (w : World) (he : Ext X.nin ρ0 ρ) (hr : Rel X ρ s F a w) (hro : X.ro = none := by rfl) : c.wp X.P (Post X K ρ0 F) a w := by
  have := run_okI hN hty hm c s K hp h ρ0 ρ F a w he hr
  rw [hro] at this
  exact wpIn_wide.1 this
 end

/- Results. -/
def resOf1 {Pd : Type} (ty : Tab) (s : St Pd) : ResultVar → Option SV
  | .tmp t => eget s.env t
  | .cell a t => match eget s.env a with
    | some x => loadM s.cs (ty t) x
    | none => none
def resOf {Pd : Type} (ty : Tab) (s : St Pd) : List ResultVar → Option (List SV)
  | [] => some []
  | r :: rs => match resOf1 ty s r with
    | some v => match resOf ty s rs with
      | some l => some (v :: l)
      | none => none
    | none => none
def resV (l : List SV) : SV :=
  match l with
  | [v] => v
  | l => .tuple l
def finK {Pd : Type} (ty : Tab) (rs : List ResultVar) (Nfin : Out → List (Chunk Pd) → Prop) (x : SX) (s : St Pd) : Prop :=
  match x with
  | .normal | .ret => match resOf ty s rs with
    | some l => Nfin (.ret (resV l)) s.cs
    | none => False
  | .panic v => Nfin (.pan v) s.cs
  | _ => False

theorem resOf1_run {Pd : Type} {X : Cx Pd} (hty : X.ty.ok X.P) {ρ : Nat → Nat} {s : St Pd} {F : HP} {a : Act} {w : World} (hr : Rel X ρ s F a w) {r : ResultVar} {v : SV} (hv : resOf1 X.ty s r = some v) :
    ((fun | .tmp t => pure (a.tmps.getD t undef) | .cell b t => do loadVar t (← asAddr (a.tmps.getD b undef)) : ResultVar → Sem Value) r).run X.P w = .ok (v.den ρ) w := by
  cases r with
  | tmp t => simp only [resOf1] at hv ⊢; rw [hr.env t v hv]; rfl
  | cell b t =>
    simp only [resOf1] at hv ⊢
    split at hv
    · rename_i x hx
      rw [hr.env b x hx]
      have := loadM_run hty hr.mem hv
      have hptr : ∃ ad, x.den ρ = .pointer (some ad) := by
        unfold loadM at hv
        split at hv
        · exact ⟨_, rfl⟩
        · cases hv
      obtain ⟨ad, hptr⟩ := hptr
      rw [hptr] at this ⊢
      simpa [asAddr, Instr.loadAt, Instr.sureAddr] using this
    · cases hv
theorem resOf_run {Pd : Type} {X : Cx Pd} (hty : X.ty.ok X.P) {ρ : Nat → Nat} {s : St Pd} {F : HP} {a : Act} {w : World} (hr : Rel X ρ s F a w) :
    ∀ {rs : List ResultVar} {l : List SV}, resOf X.ty s rs = some l →
      (rs.mapM (fun | .tmp t => pure (a.tmps.getD t undef) | .cell b t => do loadVar t (← asAddr (a.tmps.getD b undef)) : ResultVar → Sem Value)).run X.P w = .ok (SV.denL ρ l) w
  | [], l, h => by simp only [resOf, Option.some.injEq] at h; subst h; simp [SV.denL]
  | r :: rs, l, h => by
    simp only [resOf] at h
    split at h
    · rename_i v hv
      split at h
      · rename_i l' hl
        simp only [Option.some.injEq] at h; subst h
        have ih := resOf_run hty hr hl
        have h1 := resOf1_run hty hr hv
        rw [List.mapM_cons, Sem.run_bind, h1, Result.andThen_ok, Sem.run_bind, ih]
        simp [SV.denL]
      · cases h
    · cases h

theorem results_run {Pd : Type} {X : Cx Pd} (hty : X.ty.ok X.P) {ρ : Nat → Nat} {s : St Pd} {F : HP} {a : Act} {w : World} (hr : Rel X ρ s F a w) {fn : Func} {l : List SV}
    (h : resOf X.ty s fn.results.toList = some l) : (results fn a.tmps).run X.P w = .ok ((resV l).den ρ) w := by
  have h1 := resOf_run hty hr h
  unfold results
  rw [Array.mapM_eq_mapM_toList, Sem.run_bind, Sem.run_map]
  refine (congrArg (fun r : Result (List Value) => (r.andThen (fun a w' => Result.ok a.toArray w')).andThen (fun a w' => Sem.run X.P (pure (if h : a.size = 1 then a[0] else Value.tuple a)) w')) h1).trans ?_
  simp only [Result.andThen_ok, Sem.run_pure]
  congr 1
  match l with
  | [] => simp [resV, SV.denL, SV.den]
  | [v] => simp [resV, SV.denL]
  | v :: u :: r => simp [resV, SV.denL, SV.den]

/- Triples. -/
structure Base (Pd : Type) where
  P : Program
  I : Pd → List Nat → HP
  ty : Tab
  GOk : Gl → Prop
structure Base.ok {Pd : Type} (B : Base Pd) : Prop where
  ty : B.ty.ok B.P
  mixed : B.P.follows .mixedOrders = true

section
variable {Pd : Type} (B : Base Pd)
structure Triple (f : FuncId) (nin nout : Nat) (args : List SV) (pre : List (Chunk Pd)) (post : (Out → List (Chunk Pd) → Prop) → Prop) : Prop where
  call : ∀ as w, (callFunc f as).run B.P w = .ok (.enter f as) w
  goes : ∀ G, B.GOk G → ∀ K, post K → ∀ ρ F w, SatC B.I G ρ pre F w → Calls B.P f (SV.denL ρ args).toArray w fun e w' =>
    ∃ out cs ρ', OutRel ρ' out e ∧ K out cs ∧ Ext nin ρ ρ' ∧ SatC B.I G ρ' cs F w'

def Ent (G : Gl) (n : Nat) (cs cs' : List (Chunk Pd)) : Prop := ∀ ρ F w, SatC B.I G ρ cs F w → ∃ ρ', Ext n ρ ρ' ∧ SatC B.I G ρ' cs' F w
def Fin (G : Gl) (K : Out → List (Chunk Pd) → Prop) (nin : Nat) (out : Out) (cs : List (Chunk Pd)) : Prop :=
  ∀ ρ F w, SatC B.I G ρ cs F w → ∃ out' cs' ρ', K out' cs' ∧ Ext nin ρ ρ' ∧ (∀ e, OutRel ρ out e → OutRel ρ' out' e) ∧ SatC B.I G ρ' cs' F w

def envOf (k : Nat) : List SV → Env
  | [] => []
  | v :: r => (k, v) :: envOf (k + 1) r
theorem envOf_get : ∀ {args : List SV} {k t : Nat} {v : SV}, eget (envOf k args) t = some v → k ≤ t ∧ args[t - k]? = some v
  | a :: r, k, t, v, h => by
    simp only [envOf, eget] at h
    by_cases hk : k = t
    · subst hk; simp at h; subst h; simp
    · simp [hk] at h
      obtain ⟨h1, h2⟩ := envOf_get h
      refine ⟨by omega, ?_⟩
      rw [show t - k = (t - (k + 1)) + 1 by omega]; simpa using h2

def cxOf (G : Gl) (sz nin : Nat) (pl : List (Nat × Plan)) : Cx Pd := ⟨B.P, B.I, G, B.ty, sz % 65536, nin, [], pl, undef, none, false⟩

variable {B}
theorem triple_of (hB : B.ok) {f : FuncId} {fn : Func} {c : Code} {nin nout n0 : Nat} {args : List SV} {pre : List (Chunk Pd)} {post : (Out → List (Chunk Pd) → Prop) → Prop} {ι : Type _} {tb : Tab} (htb : B.ty = tb) (pre' : ι → List (Chunk Pd))
    (pl : List (Nat × Plan)) (hcall : ∀ as w, (callFunc f as).run B.P w = .ok (.enter f as) w) (hf : B.P.funcs[f]? = some fn) (hb : fn.body = some c) (hpl : plansOk pl c = true) (hargs : args.length ≤ fn.ntmps) (hn : nin ≤ n0)
    (hidx : SV.idOkL (belowB nin) args = true)
    (hpre : ∀ G, B.GOk G → ∀ ρ F w, SatC B.I G ρ pre F w → ∃ i ρ', Ext nin ρ ρ' ∧ SatC B.I G ρ' (pre' i) F w)
    (h : ∀ G, B.GOk G → ∀ K, post K → ∀ W bi bc bs bk bu bb bo bg bl bp bn be Ncond Nob Nop Nloop Nscope, Nodes (cxOf B G fn.ntmps nin pl) W ⟨bi, bc, bs, bk, bu, bb, bo, bg, bl, bp, bn, be⟩ Ncond Nob Nop Nloop Nscope →
      ∀ Nfin : Out → List (Chunk Pd) → Prop, (∀ out cs, Fin B G K nin out cs → Nfin out cs) → (∀ out cs, Nfin out cs → Fin B G K nin out cs) →
      ∀ i, run W ⟨bi, bc, bs, bk, bu, bb, bo, bg, bl, bp, bn, be⟩ tb Ncond Nob Nop Nloop Nscope (fn.ntmps % 65536) nin pl c ⟨envOf 0 args, pre' i, n0⟩ (finK tb fn.results.toList Nfin)) : Triple B f nin nout args pre post := by
  subst htb
  refine ⟨hcall, fun G hG K hK ρ F w hs => ?_⟩
  obtain ⟨i, ρ1, he1, hs1⟩ := hpre G hG ρ F w hs
  let X := cxOf B G fn.ntmps nin pl
  have hN : Nodes X IntKind.wrap bitsOf (fun b x y => (b = true → x ()) ∧ (b = false → y ())) (fun l k => obsP l ∧ k ()) (NodeX X) (LoopX X) (ScopeX X) := ⟨rfl, rfl, rfl, rfl, rfl, rfl, rfl⟩
  have hrun := h G hG K hK _ _ _ _ _ _ _ _ _ _ _ _ _ _ _ _ _ _ hN (Fin B G K nin) (fun _ _ x => x) (fun _ _ x => x) i
  have hargs' : SV.denL ρ args = SV.denL ρ1 args := SV.denL_congr (fun j hj => (he1 j (belowB_lt hj)).symm) args hidx
  rw [hargs']
  have hrel : Rel X ρ1 ⟨envOf 0 args, pre' i, n0⟩ F { tmps := (SV.denL ρ1 args).toArray ++ Array.replicate (fn.ntmps - (SV.denL ρ1 args).toArray.size) undef, defers := [] } w := by
    refine ⟨fun t v g => ?_, hs1, ?_, ⟨rfl, fun k hk => by simp only [X, cxOf] at hk; omega⟩, hn⟩
    · obtain ⟨_, h2⟩ := envOf_get g
      simp only [Nat.sub_zero] at h2
      have h3 : (SV.denL ρ1 args)[t]? = some (v.den ρ1) := by rw [denL_get, h2]; rfl
      have hlt : t < (SV.denL ρ1 args).length := (List.getElem?_eq_some_iff.1 h3).1
      rw [Array.getD_eq_getD_getElem?, Array.getElem?_append_left (by simpa using hlt)]
      simp [h3]
    · have : (SV.denL ρ1 args).length = args.length := by simp [SV.denL_eq]
      simp [this, X, cxOf]; omega
  have hwp := run_ok hN hB.ty hB.mixed c _ _ hpl hrun ρ1 ρ1 F _ w (Ext.refl _ _) hrel
  refine calls_of_wp hf hb (wp_mono hwp fun e a w' hq => ?_)
  have hret : ∀ s ρ2, (match resOf B.ty s fn.results.toList with | some l => Fin B G K nin (.ret (resV l)) s.cs | none => False) → Ext nin ρ1 ρ2 → Rel X ρ2 s F a w' →
      a.defers = [] ∧ ∃ v, (results fn a.tmps).run B.P w' = .ok v w' ∧ ∃ out cs ρ', OutRel ρ' out (.returned v) ∧ K out cs ∧ Ext nin ρ ρ' ∧ SatC B.I G ρ' cs F w' := by
    intro s ρ2 hk he2 hr
    split at hk
    · rename_i l hl
      have h3 := results_run (X := X) hB.ty hr hl
      obtain ⟨out', cs', ρ', h4, h5, h6, h7⟩ := hk ρ2 F w' hr.mem
      exact ⟨hr.dfs.1, _, h3, out', cs', ρ', h6 _ rfl, h4, (he1.trans he2).trans h5, h7⟩
    · exact hk.elim
  cases e with
  | normal => obtain ⟨s, ρ2, hk, he2, hr⟩ := hq; exact hret s ρ2 hk he2 hr
  | ret => obtain ⟨s, ρ2, hk, he2, hr⟩ := hq; exact hret s ρ2 hk he2 hr
  | panic ch =>
    obtain ⟨v, s, ρ2, hk, he2, rfl, hr⟩ := hq
    obtain ⟨out', cs', ρ', h4, h5, h6, h7⟩ := hk ρ2 F w' hr.mem
    exact ⟨hr.dfs.1, out', cs', ρ', h6 _ rfl, h4, (he1.trans he2).trans h5, h7⟩
  | exit i => obtain ⟨s, ρ2, hk, _⟩ := hq; exact hk.elim
  | goto i => obtain ⟨s, ρ2, hk, _⟩ := hq; exact hk.elim
  | outgrown => exact hq.elim
 end
end Sx
