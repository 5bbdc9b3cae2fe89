/-
  Part of a proof.
-/
import Derived.Test.YtkkifbjdbhjhaaaGreatDoorV02
import Derived.Sort.LoopGhostIn
import Derived.KernelRfl
import Derived.Laws.Append
set_option linter.unusedVariables false
set_option linter.unusedSimpArgs false
/- Rules for the stops of a walk. -/
namespace Sx
open Go
section
variable {Pd : Type} {X : Cx Pd}
variable {W : IntKind → Int → Int} {bits : Bits} {Ncond : Bool → (Unit → Prop) → (Unit → Prop) → Prop} {Nob : List Ob → (Unit → Prop) → Prop}
  {Nop : Op → TypeId → List SV → List (Chunk Pd) → Nat → (Out → List (Chunk Pd) → Nat → Prop) → Prop} {Nloop Nscope : Code → St Pd → (SX → St Pd → Prop) → Prop}

theorem cond_ (hN : Nodes X W bits Ncond Nob Nop Nloop Nscope) {b : Bool} {x y : Unit → Prop} (h1 : b = true → x ()) (h2 : b = false → y ()) : Ncond b x y := by
  have := hN.cond; subst this; exact ⟨h1, h2⟩
theorem ob_ (hN : Nodes X W bits Ncond Nob Nop Nloop Nscope) {l : List Ob} {k : Unit → Prop} (h1 : obsP l) (h2 : k ()) : Nob l k := by
  have := hN.ob; subst this; exact ⟨h1, h2⟩
theorem op_ (hN : Nodes X W bits Ncond Nob Nop Nloop Nscope) {op : Op} {t : TypeId} {vals : List SV} {cs : List (Chunk Pd)} {n : Nat} {cont : Out → List (Chunk Pd) → Nat → Prop}
    (h : NodeX X op t vals cs n cont) : Nop op t vals cs n cont := by
  have := hN.op; subst this; exact h
theorem loopN_ (hN : Nodes X W bits Ncond Nob Nop Nloop Nscope) {c : Code} {s : St Pd} {K : SX → St Pd → Prop} (h : LoopX X c s K) : Nloop c s K := by
  have := hN.loop; subst this; exact h
theorem scopeN_ (hN : Nodes X W bits Ncond Nob Nop Nloop Nscope) {c : Code} {s : St Pd} {K : SX → St Pd → Prop} (h : ScopeX X c s K) : Nscope c s K := by
  have := hN.scope; subst this; exact h

/- taking chunks by their first block -/
def pick1 (id : Nat) : List (Chunk Pd) → Option (Chunk Pd × List (Chunk Pd))
  | [] => none
  | c :: r => if natEq c.id id then some (c, r) else match pick1 id r with
    | some (x, r') => some (x, c :: r')
    | none => none
def pickC : List Nat → List (Chunk Pd) → Option (List (Chunk Pd) × List (Chunk Pd))
  | [], cs => some ([], cs)
  | i :: is, cs => match pick1 i cs with
    | some (c, r) => match pickC is r with
      | some (p, r') => some (c :: p, r')
      | none => none
    | none => none
def idsOf : List (Chunk Pd) → List Nat
  | [] => []
  | c :: r => c.id :: idsOf r

theorem pick1_perm {id : Nat} : ∀ {cs : List (Chunk Pd)} {c : Chunk Pd} {r : List (Chunk Pd)}, pick1 id cs = some (c, r) → cs.Perm (c :: r)
  | d :: cs, c, r, h => by
    simp only [pick1] at h
    split at h
    · simp only [Option.some.injEq, Prod.mk.injEq] at h
      obtain ⟨rfl, rfl⟩ := h; exact List.Perm.refl _
    · split at h
      · rename_i x r' hx
        simp only [Option.some.injEq, Prod.mk.injEq] at h
        obtain ⟨rfl, rfl⟩ := h
        exact ((pick1_perm hx).cons d).trans (List.Perm.swap _ _ _)
      · cases h
theorem pickC_perm : ∀ {is : List Nat} {cs p r : List (Chunk Pd)}, pickC is cs = some (p, r) → cs.Perm (p ++ r)
  | [], cs, p, r, h => by
    simp only [pickC, Option.some.injEq, Prod.mk.injEq] at h
    obtain ⟨rfl, rfl⟩ := h; exact List.Perm.refl _
  | i :: is, cs, p, r, h => by
    simp only [pickC] at h
    split at h
    · rename_i c r1 h1
      split at h
      · rename_i p' r' h2
        simp only [Option.some.injEq, Prod.mk.injEq] at h
        obtain ⟨rfl, rfl⟩ := h
        exact (pick1_perm h1).trans ((pickC_perm h2).cons c)
      · cases h
    · cases h

variable {I : Pd → List Nat → HP} {G : Gl}
theorem SatC.appR {ρ : Nat → Nat} {a b : List (Chunk Pd)} {F : HP} {w : World} (h : SatC I G ρ (a ++ b) F w) : SatC I G ρ b F w :=
  ⟨h.size, h.old, by
    have := h.sep
    rw [List.map_append, List.append_assoc] at this
    exact SatR.appR this⟩
theorem SatC.appL {ρ : Nat → Nat} {a b : List (Chunk Pd)} {F : HP} {w : World} (h : SatC I G ρ (a ++ b) F w) : SatC I G ρ a F w :=
  (h.perm (cs' := b ++ a) List.perm_append_comm).appR
/-- the chunks b become part of the frame -/
theorem SatC.frame {ρ : Nat → Nat} {a b : List (Chunk Pd)} {F : HP} {w : World} (h : SatC I G ρ (a ++ b) F w) : SatC I G ρ a (starL (b.map (Chunk.den I ρ) ++ [F])) w := by
  refine ⟨h.size, h.old, ?_⟩
  have h1 := h.sep
  rw [List.map_append, List.append_assoc] at h1
  have h2 : SatR ((b.map (Chunk.den I ρ) ++ [F]) ++ a.map (Chunk.den I ρ)) _ _ := h1.perm List.perm_append_comm
  exact h2.fold.perm (List.perm_append_singleton _ _).symm
theorem SatC.unframe {ρ ρ' : Nat → Nat} {a b : List (Chunk Pd)} {F : HP} {w : World} (h : SatC I G ρ' a (starL (b.map (Chunk.den I ρ) ++ [F])) w)
    (e : b.map (Chunk.den I ρ) = b.map (Chunk.den I ρ')) : SatC I G ρ' (a ++ b) F w := by
  refine ⟨h.size, h.old, ?_⟩
  have h1 : SatR (starL (b.map (Chunk.den I ρ) ++ [F]) :: a.map (Chunk.den I ρ')) _ _ := h.sep.perm (List.perm_append_singleton _ _)
  have h2 := h1.flat
  rw [e] at h2
  rw [List.map_append, List.append_assoc]
  exact h2.perm List.perm_append_comm
theorem SatC.renI {ρ σ : Nat → Nat} {cs : List (Chunk Pd)} {F : HP} {w : World} : SatC I G ρ (csRen σ cs) F w ↔ SatC I G (fun i => ρ (σ i)) cs F w := by
  unfold SatC; rw [csRen_den]

/- The callee's blocks by the caller's names. -/
def sg (σ : List Nat) (n i : Nat) : Nat :=
  match σ[i]? with
  | some j => j
  | none => n + (i - σ.length)
def outRen (f : Nat → Nat) : Out → Out
  | .ret v => .ret (v.ren f)
  | .pan v => .pan (v.ren f)
theorem OutRel_ren {ρ f : Nat → Nat} {out : Out} {e : Ending} (h : OutRel (fun i => ρ (f i)) out e) : OutRel ρ (outRen f out) e := by
  cases out <;> cases e <;> simp only [OutRel, outRen, SV.den_ren] at h ⊢ <;> exact h

theorem idsOk_mem {p : Nat → Bool} : ∀ {l : List Nat} {i j : Nat}, idsOk p l = true → l[i]? = some j → p j = true
  | a :: r, 0, j, h, e => by simp only [idsOk, Bool.and_eq_true] at h; simp at e; subst e; exact h.1
  | a :: r, i + 1, j, h, e => by simp only [idsOk, Bool.and_eq_true] at h; exact idsOk_mem h.2 (by simpa using e)

variable {B : Base Pd} {sz nin0 : Nat} {pl : List (Nat × Plan)}

/-- what a context is of -/
structure IsX (X : Cx Pd) (B : Base Pd) (G : Gl) : Prop where
  P : X.P = B.P
  I : X.I = B.I
  G : X.G = G
theorem call_core {f : FuncId} {nin nout : Nat} {args : List SV} {pre : List (Chunk Pd)} {post : (Out → List (Chunk Pd) → Prop) → Prop} (hT : Triple B f nin nout args pre post) (hG : B.GOk G)
    (σ : List Nat) {op : Op} {type : TypeId} {vals full : List SV} {cs rest : List (Chunk Pd)} {n : Nat} {cont : Out → List (Chunk Pd) → Nat → Prop}
    (hrun : ∀ (ρ : Nat → Nat) (ρe : Operand → Value) (o : Oper) (w : World), o.op = op → o.type = type → op.operands.toList.map ρe = SV.denL ρ vals → (execOp ρe o).run B.P w = .ok (.enter f (SV.denL ρ full).toArray) w)
    (hlen : σ.length = nin) (hargs : full = SV.renL (sg σ n) args) (hpick : pickC (idsOf (csRen (sg σ n) pre)) cs = some (csRen (sg σ n) pre, rest))
    (hσ : idsOk (belowB n) σ = true) (hrest : call (belowB n) rest = true)
    (hk : post fun out cs' => cont (outRen (sg σ n) out) (csRen (sg σ n) cs' ++ rest) (n + (nout - nin))) (hX : IsX X B G := by exact ⟨rfl, rfl, rfl⟩) :
    NodeX X op type vals cs n cont := by
  intro ρ F w ρe o ho hty hv hs
  have hrun := hrun ρ ρe o w ho hty hv
  obtain ⟨hP, hI, hGe⟩ := hX
  rw [hP, hrun]
  simp only [Upon, hP, hI, hGe]
  rw [hI, hGe] at hs
  have hsplit := hs.perm (pickC_perm hpick)
  have hpre : SatC B.I G (fun i => ρ (sg σ n i)) pre (starL (rest.map (Chunk.den B.I ρ) ++ [F])) w := SatC.renI.1 hsplit.frame
  rw [hargs, SV.denL_ren]
  refine (hT.goes G hG _ hk _ _ w hpre).mono fun e w' ⟨out, cs', ρ', h1, h2, h3, h4⟩ => ?_
  let ρ2 : Nat → Nat := fun j => if j < n then ρ j else ρ' (σ.length + (j - n))
  have hext : Ext n ρ ρ2 := fun i hi => by simp [ρ2, hi]
  have hcomp : (fun i => ρ2 (sg σ n i)) = ρ' := by
    funext i
    simp only [sg]
    cases hi : σ[i]? with
    | some j =>
      have hj := belowB_lt (idsOk_mem hσ hi)
      have hlt : i < nin := by rw [← hlen]; exact (List.getElem?_eq_some_iff.1 hi).1
      simp only [ρ2, hj, if_true]
      rw [h3 i hlt]
      simp [sg, hi]
    | none =>
      have hge : σ.length ≤ i := List.getElem?_eq_none_iff.1 hi
      simp only [ρ2]
      rw [if_neg (by omega)]
      congr 1; omega
  refine ⟨_, _, _, ρ2, OutRel_ren (ρ := ρ2) (f := sg σ n) (by rw [hcomp]; exact h1), Nat.le_add_right _ _, hext, ?_, h2⟩
  have h5 : SatC B.I G ρ2 (csRen (sg σ n) cs') (starL (rest.map (Chunk.den B.I ρ) ++ [F])) w' := SatC.renI.2 (by rw [hcomp]; exact h4)
  exact h5.unframe (cs_congr B.I (fun i hi => (hext i (belowB_lt hi)).symm) rest hrest)

theorem call_ {f : FuncId} {nin nout : Nat} {args : List SV} {pre : List (Chunk Pd)} {post : (Out → List (Chunk Pd) → Prop) → Prop} (hT : Triple B f nin nout args pre post) (hG : B.GOk G)
    (σ : List Nat) {fo : Operand} {as : Array Operand} {ts : Array TypeId} {type : TypeId} {a b cargs : List SV} {cs rest : List (Chunk Pd)} {n : Nat} {cont : Out → List (Chunk Pd) → Nat → Prop}
    (hlen : σ.length = nin) (hargs : a ++ cargs ++ b = SV.renL (sg σ n) args) (hpick : pickC (idsOf (csRen (sg σ n) pre)) cs = some (csRen (sg σ n) pre, rest))
    (hσ : idsOk (belowB n) σ = true) (hrest : call (belowB n) rest = true)
    (hk : post fun out cs' => cont (outRen (sg σ n) out) (csRen (sg σ n) cs' ++ rest) (n + (nout - nin))) (hX : IsX X B G := by exact ⟨rfl, rfl, rfl⟩) :
    NodeX X (.call ⟨.value fo, as, ts⟩) type (.fn (.func f) a b :: cargs) cs n cont := by
  refine call_core hT hG σ (full := a ++ cargs ++ b) ?_ hlen hargs hpick hσ hrest hk hX
  intro ρ ρe o w ho _ hv
  obtain ⟨dst, op, ty', pos, after, guard⟩ := o
  simp only at ho
  subst ho
  have hops : (Op.call ⟨.value fo, as, ts⟩).operands.toList = fo :: as.toList := by simp [Op.operands, Call.operands]
  rw [hops] at hv
  simp only [List.map_cons, SV.denL, List.cons.injEq, SV.den] at hv
  obtain ⟨hf, has⟩ := hv
  have has' : as.map ρe = (SV.denL ρ cargs).toArray := by rw [← has]; apply Array.ext'; simp
  simp only [execOp, resolve, hf, has', Deferred.ofValue, Sem.run_bind, Sem.run_pure, Result.andThen_ok, invoke, hT.call]
  congr 2
  apply Array.ext'
  simp [SV.denL_eq]
/-- a method called through an interface -/
theorem invoke_ {f : FuncId} {nin nout : Nat} {args : List SV} {pre : List (Chunk Pd)} {post : (Out → List (Chunk Pd) → Prop) → Prop} (hT : Triple B f nin nout args pre post) (hG : B.GOk G)
    (σ : List Nat) {ro : Operand} {name : String} {as : Array Operand} {ts : Array TypeId} {T type : TypeId} {r : SV} {cargs : List SV} {cs rest : List (Chunk Pd)} {n : Nat} {cont : Out → List (Chunk Pd) → Nat → Prop}
    (hm : ∀ v w, (method (B.P.types.size + Made.depth) T v name).run B.P w = .ok (f, v) w)
    (hlen : σ.length = nin) (hargs : r :: cargs = SV.renL (sg σ n) args) (hpick : pickC (idsOf (csRen (sg σ n) pre)) cs = some (csRen (sg σ n) pre, rest))
    (hσ : idsOk (belowB n) σ = true) (hrest : call (belowB n) rest = true)
    (hk : post fun out cs' => cont (outRen (sg σ n) out) (csRen (sg σ n) cs' ++ rest) (n + (nout - nin))) (hX : IsX X B G := by exact ⟨rfl, rfl, rfl⟩) :
    NodeX X (.call ⟨.invoke ro name, as, ts⟩) type (.iface T r :: cargs) cs n cont := by
  refine call_core hT hG σ (full := r :: cargs) ?_ hlen hargs hpick hσ hrest hk hX
  intro ρ ρe o w ho _ hv
  obtain ⟨dst, op, ty', pos, after, guard⟩ := o
  simp only at ho
  subst ho
  have hops : (Op.call ⟨.invoke ro name, as, ts⟩).operands.toList = ro :: as.toList := by simp [Op.operands, Call.operands]
  rw [hops] at hv
  simp only [List.map_cons, SV.denL, List.cons.injEq, SV.den] at hv
  obtain ⟨hf, has⟩ := hv
  have has' : as.map ρe = (SV.denL ρ cargs).toArray := by rw [← has]; apply Array.ext'; simp
  have hx : ((#[(SV.iface T r).den ρ] ++ (SV.denL ρ cargs).toArray).extract 1 (#[(SV.iface T r).den ρ] ++ (SV.denL ρ cargs).toArray).size) = (SV.denL ρ cargs).toArray := by
    apply Array.ext'; simp
  have h0 : (#[(SV.iface T r).den ρ] ++ (SV.denL ρ cargs).toArray)[0]? = some ((SV.iface T r).den ρ) := by simp
  simp only [SV.den] at hx h0
  simp only [execOp, resolve, hf, has', Sem.run_bind, Sem.run_pure, Result.andThen_ok, invoke, hx, h0, callMethod, run_program, hm, hT.call]
  congr 2
  apply Array.ext'
  simp [SV.denL]

/-- the memory is said otherwise ahead of an operation -/
theorem op_ent {ι : Type _} {op : Op} {type : TypeId} {vals : List SV} {cs : List (Chunk Pd)} {n n' : Nat} {cont : Out → List (Chunk Pd) → Nat → Prop} (cs' : ι → List (Chunk Pd))
    (hv : SV.idOkL (belowB n) vals = true) (hn : n ≤ n')
    (he : ∀ ρ F w, SatC X.I X.G ρ cs F w → ∃ y ρ', Ext n ρ ρ' ∧ SatC X.I X.G ρ' (cs' y) F w)
    (h : ∀ y, NodeX X op type vals (cs' y) n' cont) : NodeX X op type vals cs n cont := by
  intro ρ F w ρe o ho ht hvals hs
  obtain ⟨y, ρ', h1, h2⟩ := he ρ F w hs
  have hvals' : op.operands.toList.map ρe = SV.denL ρ' vals := hvals.trans (SV.denL_congr (fun i hi => (h1 i (belowB_lt hi)).symm) vals hv)
  have := h y ρ' F w ρe o ho ht hvals' h2
  generalize (execOp ρe o).run X.P w = r at *
  cases r with
  | ok nx w' =>
    cases nx <;> simp only [Upon] at this ⊢
    case value v => obtain ⟨u, c2, n2, ρ2, g1, g2, g3, g4⟩ := this; exact ⟨u, c2, n2, ρ2, g1, Nat.le_trans hn g2, h1.trans (g3.le hn), g4⟩
    case skip => obtain ⟨c2, n2, ρ2, g2, g3, g4⟩ := this; exact ⟨c2, n2, ρ2, Nat.le_trans hn g2, h1.trans (g3.le hn), g4⟩
    case enter f args => exact this.mono fun e w'' ⟨out, c2, n2, ρ2, g1, g2, g3, g4⟩ => ⟨out, c2, n2, ρ2, g1, Nat.le_trans hn g2, h1.trans (g3.le hn), g4⟩
    case round l f tmps assign body => exact ⟨this.1, this.2.mono fun e w'' ⟨out, c2, n2, ρ2, g1, g2, g3, g4⟩ => ⟨out, c2, n2, ρ2, g1, Nat.le_trans hn g2, h1.trans (g3.le hn), g4⟩⟩
  | halt x w' =>
    cases x <;> simp only [Upon] at this ⊢
    obtain ⟨u, c2, n2, ρ2, g1, g2, g3, g4⟩ := this; exact ⟨u, c2, n2, ρ2, g1, Nat.le_trans hn g2, h1.trans (g3.le hn), g4⟩

/- A function's end. -/
def tau (nin : Nat) (τ : List Nat) (i : Nat) : Nat := if Nat.ble (i + 1) nin then i else match τ[i - nin]? with
  | some j => j
  | none => 0
theorem tau_lt {nin : Nat} {τ : List Nat} {i : Nat} (h : i < nin) : tau nin τ i = i := by
  unfold tau; rw [if_pos (Nat.ble_eq_true_of_le h)]

theorem fin_ {K : Out → List (Chunk Pd) → Prop} {nin : Nat} (τ : List Nat) {out out' : Out} {cs cs' rest : List (Chunk Pd)} (h1 : out = outRen (tau nin τ) out')
    (h2 : pickC (idsOf (csRen (tau nin τ) cs')) cs = some (csRen (tau nin τ) cs', rest)) (hk : K out' cs') : Fin B G K nin out cs := by
  intro ρ F w hs
  refine ⟨out', cs', fun i => ρ (tau nin τ i), hk, fun i hi => by simp [tau_lt hi], fun e he => ?_, SatC.renI.1 (hs.perm (pickC_perm h2)).appL⟩
  subst h1
  cases out' <;> cases e <;> simp only [OutRel, outRen, SV.den_ren] at he ⊢ <;> exact he

theorem fin_ent {ι : Type _} {K : Out → List (Chunk Pd) → Prop} {nin n : Nat} {out : Out} {cs : List (Chunk Pd)} (cs' : ι → List (Chunk Pd))
    (hv : (match out with | .ret v => v.idOk (belowB n) | .pan v => v.idOk (belowB n)) = true) (hn : nin ≤ n)
    (he : ∀ ρ F w, SatC B.I G ρ cs F w → ∃ y ρ', Ext n ρ ρ' ∧ SatC B.I G ρ' (cs' y) F w) (h : ∀ y, Fin B G K nin out (cs' y)) : Fin B G K nin out cs := by
  intro ρ F w hs
  obtain ⟨y, ρ', h1, h2⟩ := he ρ F w hs
  obtain ⟨out', c2, ρ2, g1, g2, g3, g4⟩ := h y ρ' F w h2
  refine ⟨out', c2, ρ2, g1, (h1.le hn).trans g2, fun e he' => g3 e ?_, g4⟩
  cases out <;> cases e <;> simp only [OutRel] at he' ⊢
  · rw [he']; exact SV.den_congr (fun i hi => (h1 i (belowB_lt hi)).symm) _ hv
  · rw [he']; rw [SV.den_congr (fun i hi => (h1 i (belowB_lt hi)).symm) _ hv]

/- A loop. -/
def envSub (f : Nat → Nat) (e : Env) : Env → Prop
  | [] => True
  | (t, v) :: r => eget e t = some (v.ren f) ∧ envSub f e r
theorem envSub_get {f : Nat → Nat} {e : Env} : ∀ {e' : Env} {t : Nat} {v : SV}, envSub f e e' → eget e' t = some v → eget e t = some (v.ren f)
  | (s, u) :: r, t, v, h, g => by
    by_cases hs : s = t
    · subst hs; simp [eget] at g; subst g; exact h.1
    · simp [eget, hs] at g; exact envSub_get h.2 g
/-- the state s is one of t's, whose blocks beyond the first are named by τ -/
structure Into (nin : Nat) (τ : List Nat) (s t : St Pd) (rest : List (Chunk Pd)) : Prop where
  env : envSub (tau nin τ) s.env t.env
  cs : pickC (idsOf (csRen (tau nin τ) t.cs)) s.cs = some (csRen (tau nin τ) t.cs, rest)
  n : nin ≤ t.n
theorem Into.rel {τ : List Nat} {s t : St Pd} {rest : List (Chunk Pd)} (h : Into X.nin τ s t rest) {ρ : Nat → Nat} {F : HP} {a : Act} {w : World} (hr : Rel X ρ s F a w) :
    ∃ ρ', Ext X.nin ρ ρ' ∧ Rel X ρ' t F a w :=
  ⟨fun i => ρ (tau X.nin τ i), fun i hi => by simp [tau_lt hi], fun k v g => by
    rw [hr.env k _ (envSub_get h.env g), SV.den_ren], SatC.renI.1 (hr.mem.perm (pickC_perm h.cs)).appL, hr.size, hr.dfs, h.n⟩

/-- what a state may become: itself, or one that it entails -/
def Leads (X : Cx Pd) (s : St Pd) (J : St Pd → Prop) : Prop :=
  ∀ ρ F a w, Rel X ρ s F a w → ∃ t ρ', J t ∧ Ext X.nin ρ ρ' ∧ Rel X ρ' t F a w
theorem Leads.into {s t : St Pd} {J : St Pd → Prop} {rest : List (Chunk Pd)} (τ : List Nat) (h : Into X.nin τ s t rest) (j : J t) : Leads X s J :=
  fun _ _ _ _ hr => let ⟨ρ', h1, h2⟩ := h.rel hr; ⟨t, ρ', j, h1, h2⟩
theorem Leads.ent {ι : Type _} {s : St Pd} {J : St Pd → Prop} {n : Nat} (cs' : ι → List (Chunk Pd)) (hv : eall (belowB s.n) s.env = true) (hn : s.n ≤ n)
    (he : ∀ ρ F w, SatC X.I X.G ρ s.cs F w → ∃ y ρ', Ext s.n ρ ρ' ∧ SatC X.I X.G ρ' (cs' y) F w) (h : ∀ y, Leads X ⟨s.env, cs' y, n⟩ J) : Leads X s J := by
  intro ρ F a w hr
  obtain ⟨y, ρ', h1, h2⟩ := he ρ F w hr.mem
  have hr' : Rel X ρ' ⟨s.env, cs' y, n⟩ F a w := ⟨hr.env.congr hv fun i hi => (h1 i (belowB_lt hi)).symm, h2, hr.size, hr.dfs, Nat.le_trans hr.nin hn⟩
  obtain ⟨t, ρ2, g1, g2, g3⟩ := h y ρ' F a w hr'
  exact ⟨t, ρ2, g1, (h1.le hr.nin).trans g2, g3⟩

theorem loop_ (hN : Nodes X W bits Ncond Nob Nop Nloop Nscope) (hty : X.ty.ok X.P) (hm : X.P.follows .mixedOrders = true) {ι : Type _} (st : ι → St Pd) (inv : ι → Prop) (μ : ι → Nat)
    {b : Code} {s : St Pd} {K : SX → St Pd → Prop} (h0 : Leads X s fun t => ∃ i, inv i ∧ t = st i)
    (body : ∀ i, inv i → ∀ Nnext : St Pd → Prop, (∀ s', Leads X s' (fun t => ∃ j, inv j ∧ μ j < μ i ∧ t = st j) → Nnext s') → (∀ s', Nnext s' → Leads X s' (fun t => ∃ j, inv j ∧ μ j < μ i ∧ t = st j)) →
      run W bits X.ty Ncond Nob Nop Nloop Nscope X.sz X.nin X.pl b (st i) (fun x s' => match x with
        | .normal => Nnext s'
        | x => K x s')) : LoopX X b s K := by
  intro hp ρ0 ρ F a w he hr
  obtain ⟨t, ρ1, ⟨i, hi, rfl⟩, he1, hr1⟩ := h0 ρ F a w hr
  refine wpIn_loop_ghost (fun n a w => ∃ i ρ', inv i ∧ μ i = n ∧ Ext X.nin ρ0 ρ' ∧ Rel X ρ' (st i) F a w) (μ i) ⟨i, ρ1, hi, rfl, he.trans he1, hr1⟩ ?_
  rintro n a w ⟨i, ρ', hi, rfl, he', hr'⟩
  have h1 := run_okI hN hty hm b (st i) _ hp (body i hi (fun s' => Leads X s' (fun t => ∃ j, inv j ∧ μ j < μ i ∧ t = st j)) (fun _ h => h) (fun _ h => h)) ρ0 ρ' F a w he' hr'
  refine wpIn_mono h1 fun e a w hq => ?_
  cases e with
  | normal =>
    obtain ⟨s', ρ2, h2, h3, h4⟩ := hq
    obtain ⟨t, ρ3, ⟨j, hj, hlt, rfl⟩, h5, h6⟩ := h2 ρ2 F a w h4
    exact ⟨μ j, hlt, j, ρ3, hj, rfl, h3.trans h5, h6⟩
  | exit i => exact hq
  | goto i => exact hq
  | ret => exact hq
  | panic c => exact hq
  | outgrown => exact hq
 end
end Sx
/- A table of types is checked by reckoning. -/
namespace Sx
open Go
mutual
def zchk : Value → SV → Bool
  | .int k n, .int k' m => kindEq k k' && decide (n = m)
  | .bool false, .ff => true
  | .string s, .str u => decide (s.data.toList = u.data.toList)
  | .pointer none, .nil => true
  | .slice none 0 0, .nilslice => true
  | .map none, .nilmap => true
  | .nilFunc, .nilfn => true
  | .nilIface, .niliface => true
  | .agg cs, .agg l => zchkL cs.toList l
  | _, _ => false
def zchkL : List Value → List SV → Bool
  | [], [] => true
  | v :: r, s :: q => zchk v s && zchkL r q
  | _, _ => false
 end
mutual
theorem zchk_ok : ∀ {v : Value} {s : SV}, zchk v s = true → v = s.den id ∧ s.idOk (fun _ => false) = true
  | .int k n, .int k' m, h => by
    simp only [zchk, Bool.and_eq_true, decide_eq_true_eq] at h
    rw [kindEq_eq h.1, h.2]; exact ⟨rfl, rfl⟩
  | .bool false, .ff, h => ⟨rfl, rfl⟩
  | .string s, .str u, h => by
    simp only [zchk, decide_eq_true_eq] at h
    have : s = u := by cases s; cases u; simp only at h; congr; exact Array.toList_inj.1 h
    subst this; exact ⟨rfl, rfl⟩
  | .pointer none, .nil, h => ⟨rfl, rfl⟩
  | .slice none 0 0, .nilslice, h => ⟨rfl, rfl⟩
  | .map none, .nilmap, h => ⟨rfl, rfl⟩
  | .nilFunc, .nilfn, h => ⟨rfl, rfl⟩
  | .nilIface, .niliface, h => ⟨rfl, rfl⟩
  | .agg cs, .agg l, h => by
    simp only [zchk] at h
    obtain ⟨h1, h2⟩ := zchkL_ok h
    refine ⟨?_, by simpa [SV.idOk] using h2⟩
    simp only [SV.den, ← h1]
theorem zchkL_ok : ∀ {v : List Value} {s : List SV}, zchkL v s = true → v = SV.denL id s ∧ SV.idOkL (fun _ => false) s = true
  | [], [], _ => ⟨rfl, rfl⟩
  | v :: r, s :: q, h => by
    simp only [zchkL, Bool.and_eq_true] at h
    obtain ⟨a, b⟩ := zchk_ok h.1
    obtain ⟨c, d⟩ := zchkL_ok h.2
    exact ⟨by simp [SV.denL, ← a, ← c], by simp [SV.idOkL, b, d]⟩
 end
def TD.chk (P : Program) (t : TypeId) (d : TD) : Bool :=
  match d, P.underlying t with
  | .bool, some .bool => true
  | .int k, some (.int k') => kindEq k k'
  | .str, some .string => true
  | .ptr, some (.pointer _) => true
  | .slice e, some (.slice e') => natEq e e'
  | .map k e, some (.map k' e') => natEq k k' && natEq e e'
  | .func, some (.func _ _ _) => true
  | .iface, some (.interface _) => true
  | .struct fs, some (.struct f) => decide (f.toList.map (fun x => (x.offset, P.cellsOf x.type)) = fs) && f.toList.all (fun x => (P.info? x.type).isSome)
  | .array n e, some (.array n' e') => natEq n n' && natEq e e'
  | _, _ => false
def TI.chk (P : Program) (t : TypeId) (x : TI) : Bool :=
  match P.info? t with
  | some i => natEq i.size x.size && natEq i.bytes x.bytes && (match i.zero with
    | some z => zchk z x.zero
    | none => false) && x.d.chk P t
  | none => false
theorem TD.chk_ok {P : Program} {t : TypeId} {d : TD} (h : d.chk P t = true) : d.ok P t := by
  unfold TD.chk at h
  split at h <;> rename_i hu <;> simp only [TD.ok]
  · exact hu
  · rw [kindEq_eq h]; exact hu
  · exact hu
  · exact ⟨_, hu⟩
  · rw [natEq_iff.1 h]; exact hu
  · simp only [Bool.and_eq_true] at h
    rw [natEq_iff.1 h.1, natEq_iff.1 h.2]; exact hu
  · exact ⟨_, _, _, hu⟩
  · exact ⟨_, hu⟩
  · simp only [Bool.and_eq_true, decide_eq_true_eq] at h
    exact ⟨_, hu, h.1, fun x hx => List.all_eq_true.1 h.2 x hx⟩
  · simp only [Bool.and_eq_true] at h
    rw [natEq_iff.1 h.1, natEq_iff.1 h.2]; exact hu
  · cases h
theorem TI.chk_ok {P : Program} {t : TypeId} {x : TI} (h : x.chk P t = true) : x.ok P t := by
  unfold TI.chk at h
  split at h
  · rename_i i hi
    simp only [Bool.and_eq_true] at h
    obtain ⟨⟨⟨h1, h2⟩, h3⟩, h4⟩ := h
    split at h3
    · rename_i z hz
      obtain ⟨a, b⟩ := zchk_ok h3
      exact ⟨⟨i, hi, natEq_iff.1 h1, natEq_iff.1 h2, by rw [hz, a]⟩, b, TD.chk_ok h4⟩
    · cases h3
  · cases h
/-- a tree of a table: where it is asked -/
inductive Tr where
  | leaf (t : Nat) (x : TI)
  | node (k : Nat) (l r : Unit → Tr)
def Tr.find : Tr → Nat → Option TI
  | .leaf t x, k => if natEq k t then some x else none
  | .node m l r, k => if Nat.blt k m then (l ()).find k else (r ()).find k
def Tr.chk (P : Program) : Tr → Bool
  | .leaf t x => x.chk P t
  | .node _ l r => (l ()).chk P && (r ()).chk P
theorem Tr.ok {P : Program} : ∀ {T : Tr}, T.chk P = true → Tab.ok P T.find
  | .leaf t x, h, k, y, e => by
    simp only [Tr.find] at e
    split at e
    · rename_i hk
      simp only [Option.some.injEq] at e; subst e
      rw [natEq_iff.1 hk]; exact TI.chk_ok h
    · cases e
  | .node m l r, h, k, y, e => by
    simp only [Tr.chk, Bool.and_eq_true] at h
    simp only [Tr.find] at e
    split at e
    · exact Tr.ok h.1 k y e
    · exact Tr.ok h.2 k y e
end Sx
/- Rules for arrays that read as a list: a load, a store, append, conversions between bytes and strings. -/
namespace Sx
open Go
def SV.ofLit : Lit → SV
  | .int k n => .int k n
  | .bool b => .bool b
  | .str s => .str s
  | .ptr g => .gptr g 0
  | .mref none => .nilmap
  | .mref (some g) => .raw (.map (some g))
  | .slref a len cap => .raw (.slice a len cap)
  | .nil => .nil
theorem SV.ofLit_den (ρ : Nat → Nat) (l : Lit) : (SV.ofLit l).den ρ = l.val := by
  cases l with
  | mref o => cases o <;> rfl
  | _ => rfl
theorem ofLits_den (ρ : Nat → Nat) (l : List Lit) : SV.denL ρ (l.map SV.ofLit) = l.map Lit.val := by
  rw [SV.denL_eq, List.map_map]; congr 1; funext x; exact SV.ofLit_den ρ x

/-- every row has w cells -/
def Wide {α : Type} (w : Nat) (enc : α → List Lit) : Prop := ∀ x, (enc x).length = w

theorem flat_len {α : Type} {w : Nat} {enc : α → List Lit} (h : Wide w enc) : ∀ xs : List α, (xs.flatMap enc).length = xs.length * w
  | [] => by simp
  | x :: r => by simp [h x, flat_len h r, Nat.add_mul, Nat.add_comm]
theorem flat_drop {α : Type} {w : Nat} {enc : α → List Lit} (h : Wide w enc) : ∀ (xs : List α) (i : Nat), (xs.flatMap enc).drop (i * w) = (xs.drop i).flatMap enc
  | xs, 0 => by simp
  | [], i + 1 => by simp
  | x :: r, i + 1 => by
    have := flat_drop h r i
    simp only [List.flatMap_cons, List.drop_succ_cons]
    rw [Nat.add_mul, Nat.one_mul, Nat.add_comm, ← List.drop_drop, ← h x, List.drop_left, h x, this]
theorem flat_take {α : Type} {w : Nat} {enc : α → List Lit} (h : Wide w enc) : ∀ (xs : List α) (i : Nat), (xs.flatMap enc).take (i * w) = (xs.take i).flatMap enc
  | xs, 0 => by simp
  | [], i + 1 => by simp
  | x :: r, i + 1 => by
    have := flat_take h r i
    simp only [List.flatMap_cons, List.take_succ_cons]
    rw [Nat.add_mul, Nat.one_mul, Nat.add_comm, ← h x, List.take_length_add_append, h x, this]
theorem flat_row {α : Type} {w : Nat} {enc : α → List Lit} (h : Wide w enc) {xs : List α} {i : Nat} {x : α} (hx : xs[i]? = some x) (f : Nat) (hf : f ≤ w) :
    (xs.flatMap enc).drop (i * w + f) = (enc x).drop f ++ (xs.drop (i + 1)).flatMap enc := by
  have hlt : i < xs.length := (List.getElem?_eq_some_iff.1 hx).1
  rw [← List.drop_drop, flat_drop h, List.drop_eq_getElem_cons hlt]
  have : xs[i] = x := by rw [List.getElem?_eq_getElem hlt] at hx; exact Option.some.inj hx
  rw [this, List.flatMap_cons, List.drop_append_of_le_length (by rw [h x]; exact hf)]

section
variable {Pd : Type} {I : Pd → List Nat → HP} {P : Program} {G : Gl} {ρ : Nat → Nat} {cs rest : List (Chunk Pd)} {F : HP} {w : World} {ty : Tab} {α : Type}

theorem SatC.arr {p wr : Bool} {id : Nat} {T : TypeId} {enc : α → List Lit} {xs : List α} (h : SatC I G ρ (.arr p wr id T enc xs :: rest) F w) (hp : p = true) :
    ∃ fz, (wr = true → notFrozen fz (arrCells enc xs).size) ∧ w.heap[ρ id]? = some (.cells (arrCells enc xs) T fz) := by
  obtain ⟨g, h0, h3⟩ := h.mem (.head _)
  obtain ⟨fz, h1, h2⟩ := h0 hp
  exact ⟨fz, h1, h3 _ _ h2.1⟩
theorem pick_one {id : Nat} {c : Chunk Pd} (h : pickC [id] cs = some ([c], rest)) : cs.Perm (c :: rest) := pickC_perm h

def rowVal (t : TI) (row : List Lit) (f : Nat) : SV :=
  if t.d.isAgg then .agg (((row.drop f).take t.size).map SV.ofLit) else match row[f]? with
    | some l => SV.ofLit l
    | none => .tuple []
def rowRoom (t : TI) : Nat := if t.d.isAgg then t.size else 1

theorem load_arr_run (hty : ty.ok P) {t : TypeId} {ti : TI} (ht : ty t = some ti) {id wd idx f : Nat} {T : TypeId} {p wr : Bool} {enc : α → List Lit} {xs : List α} {x : α} (hw : Wide wd enc)
    (hs : SatC I G ρ (.arr p wr id T enc xs :: rest) F w) (hp : p = true) (hx : xs[idx]? = some x) (hf : f + rowRoom ti ≤ wd) :
    (Instr.loadAt t ((SV.eptr id wd idx f).den ρ)).run P w = .ok ((rowVal ti (enc x) f).den ρ) w := by
  obtain ⟨fz, _, hb⟩ := hs.arr hp
  have ha := (hty _ _ ht).run_isAgg w
  have hz := (hty _ _ ht).run_sizeOf w
  have hlt : idx < xs.length := (List.getElem?_eq_some_iff.1 hx).1
  have hsize : (arrCells enc xs).size = xs.length * wd := by simp [arrCells, flat_len hw]
  have hroom : idx * wd + wd ≤ xs.length * wd := by
    rw [show idx * wd + wd = (idx + 1) * wd by rw [Nat.add_mul]; omega]; exact Nat.mul_le_mul_right _ (by omega)
  unfold rowRoom at hf
  simp only [Instr.loadAt, SV.den, Instr.sureAddr, Sem.run_bind, Sem.run_pure, Result.andThen_ok, loadVar, ha]
  by_cases hagg : ti.d.isAgg = true
  · simp only [hagg, if_true] at hf ⊢
    have := loadCellsFrom_run (P := P) hb ti.size (idx * wd + f) 0 #[] (by omega)
    simp only [Sem.run_bind, hz, Result.andThen_ok, loadCells, this, Sem.run_pure, rowVal, hagg, if_true, SV.den]
    congr 2
    simp only [Nat.add_zero]
    apply Array.ext'
    rw [ofLits_den]
    simp only [Array.toList_append, Array.toList_extract, arrCells, List.extract_eq_take_drop, ← List.map_drop, ← List.map_take]
    rw [flat_row hw hx f (by omega)]
    rw [List.take_append_of_le_length (by simp [hw x]; omega)]
    simp [show idx * wd + f + ti.size - (idx * wd + f) = ti.size by omega]
  · simp only [hagg] at hf ⊢
    have hlt2 : f < (enc x).length := by rw [hw x]; simp at hf; omega
    have hc : w.cell? ⟨ρ id, idx * wd + f, none⟩ = some ((enc x)[f].val) := by
      simp only [World.cell?, hb, Option.isSome_none, Bool.false_eq_true, if_false]
      have h1 := flat_row hw hx f (by simp at hf; omega)
      have h2 : (xs.flatMap enc)[idx * wd + f]? = some (enc x)[f] := by
        have : ((xs.flatMap enc).drop (idx * wd + f))[0]? = some (enc x)[f] := by
          rw [h1, List.drop_eq_getElem_cons hlt2]; rfl
        simpa using this
      simp [arrCells, h2]
    simp [load, Sem.run, hc, rowVal, hagg, List.getElem?_eq_getElem hlt2, SV.ofLit_den]

variable {X : Cx Pd}
theorem load_arr (hty : X.ty.ok X.P) {id wd idx f n : Nat} {T t type : TypeId} {ti : TI} {a : Operand} {p wr : Bool} {enc : α → List Lit} {xs : List α} {cont : Out → List (Chunk Pd) → Nat → Prop}
    (hp : pickC [id] cs = some ([.arr p wr id T enc xs], rest)) (hpr : p = true) (ht : X.ty t = some ti) (hw : Wide wd enc) (hf : f + rowRoom ti ≤ wd) (hi : idx < xs.length)
    (hk : ∀ x, xs[idx]? = some x → cont (.ret (rowVal ti (enc x) f)) cs n) : NodeX X (.load t a) type [.eptr id wd idx f] cs n cont := by
  intro ρ F w ρe o ho _ hv hs
  obtain ⟨dst, op, ty', pos, after, guard⟩ := o
  simp only at ho; subst ho
  have ha : ρe a = (SV.eptr id wd idx f).den ρ := by simpa [Op.operands, SV.denL] using hv
  have hx : xs[idx]? = some xs[idx] := List.getElem?_eq_getElem hi
  have := load_arr_run (P := X.P) hty ht hw (hs.perm (pick_one hp)) hpr hx hf
  simp only [execOp, ha, Sem.run_bind, this, Result.andThen_ok, Sem.run_pure, Upon]
  exact ⟨_, cs, n, ρ, rfl, Nat.le_refl _, Ext.refl _ _, hs, hk _ hx⟩

theorem TI.ok.und_not_int {P : Program} {t : TypeId} {x : TI} (h : x.ok P t) (hd : ∀ k, x.d ≠ .int k) : ∃ d, P.underlying t = some d ∧ ∀ k, d ≠ .int k := by
  have d := h.desc
  cases e : x.d <;> simp only [e, TD.ok] at d
  case ptr => obtain ⟨_, d⟩ := d; exact ⟨_, d, by simp⟩
  case func => obtain ⟨_, _, _, d⟩ := d; exact ⟨_, d, by simp⟩
  case iface => obtain ⟨_, d⟩ := d; exact ⟨_, d, by simp⟩
  case struct => obtain ⟨_, d, _⟩ := d; exact ⟨_, d, by simp⟩
  case int k => exact absurd e (hd k)
  all_goals exact ⟨_, d, by simp⟩

/-- what 'append' reads of what is put behind -/
def Src (X : Cx Pd) (wd : Nat) (x : SV) (cs : List (Chunk Pd)) (enc : α → List Lit) (new : List α) : Prop :=
  ∀ ρ F w, SatC X.I X.G ρ cs F w → (Builtin.lenOf (x.den ρ)).run X.P w = .ok new.length w ∧
    (Builtin.firstCells wd new.length (x.den ρ)).run X.P w = .ok ((new.flatMap enc).map Lit.val).toArray w

theorem src_cells {id wd : Nat} {T : TypeId} {vs : List SV} {enc : α → List Lit} {new : List α} (hw : Wide wd enc) (hg : cget cs id = some (T, vs)) (hvs : ∀ ρ F w, SatC X.I X.G ρ cs F w → SV.denL ρ vs = (new.flatMap enc).map Lit.val) {m c : Nat} (hm : m = new.length) :
    Src X wd (.slice id wd 0 m c) cs enc new := by
  intro ρ F w hs
  have hb := hs.cell hg
  have hvs := hvs ρ F w hs
  refine ⟨by simp [Builtin.lenOf, SV.den, hm], ?_⟩
  have hlen : (SV.denL ρ vs).length = new.length * wd := by rw [hvs, List.length_map, flat_len hw]
  have := loadCellsFrom_run (P := X.P) hb (new.length * wd) 0 0 #[] (by simp [hlen])
  simp only [Builtin.firstCells, SV.den, Nat.zero_mul, loadCells, this]
  congr 1
  apply Array.ext'
  simp only [Array.toList_append, Array.toList_extract, List.extract_eq_take_drop, Nat.zero_add, Nat.sub_zero, Nat.add_zero, List.drop_zero, ← hlen, List.take_length, List.nil_append]
  exact hvs
theorem src_arr {id wd lo len cap : Nat} {T : TypeId} {p wr : Bool} {enc : α → List Lit} {xs : List α} (hw : Wide wd enc) (hp : pickC [id] cs = some ([.arr p wr id T enc xs], rest)) (hl : lo + len ≤ xs.length)
    (hpr : p = false → len = 0) : Src X wd (.vec p id wd lo len cap) cs enc ((xs.drop lo).take len) := by
  intro ρ F w hs
  have e : ((xs.drop lo).take len).length = len := by simp; omega
  refine ⟨by simp [Builtin.lenOf, SV.den]; omega, ?_⟩
  cases p with
  | false => have := hpr rfl; subst this; simp [Builtin.firstCells, SV.den]
  | true =>
    obtain ⟨fz, _, hb⟩ := (hs.perm (pick_one hp)).arr rfl
    have hsize : (arrCells enc xs).size = xs.length * wd := by simp [arrCells, flat_len hw]
    have hroom : lo * wd + len * wd ≤ xs.length * wd := by rw [← Nat.add_mul]; exact Nat.mul_le_mul_right _ hl
    have := loadCellsFrom_run (P := X.P) hb (len * wd) (lo * wd) 0 #[] (by omega)
    simp only [Builtin.firstCells, SV.den, if_true, loadCells, e, this]
    congr 1
    apply Array.ext'
    simp only [Array.toList_append, Array.toList_extract, arrCells, List.extract_eq_take_drop, ← List.map_drop, ← List.map_take, Nat.add_zero]
    rw [show lo * wd + len * wd - lo * wd = len * wd by omega, flat_drop hw, flat_take hw]
    simp
theorem src_nil {wd : Nat} {enc : α → List Lit} : Src X wd .nilslice cs enc ([] : List α) := by
  intro ρ F w hs
  exact ⟨by simp [Builtin.lenOf, SV.den], by simp [Builtin.firstCells, SV.den]⟩
def encB (b : UInt8) : List Lit := [.int .u8 (b.toNat : Nat)]
theorem wideB : Wide 1 encB := fun _ => rfl
theorem encB_cells (l : List UInt8) : (l.flatMap encB).map Lit.val = l.map fun b => Value.int .u8 (b.toNat : Nat) := by
  induction l with
  | nil => rfl
  | cons b r ih => simp [encB, Lit.val, ← ih, List.flatMap_cons]
theorem src_str {s : ByteArray} : Src X 1 (.str s) cs encB s.data.toList := by
  intro ρ F w hs
  refine ⟨by simp [Builtin.lenOf, SV.den], ?_⟩
  have e : s.extract 0 s.data.toList.length = s := by
    have : s.data.toList.length = s.size := rfl
    rw [this]; simp
  simp only [Builtin.firstCells, SV.den, e, Sem.run_pure]
  congr 1
  rw [encB_cells]
  apply Array.ext'; simp

theorem run_appendCap (need old : Nat) (e : TypeId) (w : World) : ∃ c, need ≤ c ∧ (choose (.appendCap need old e)).run P w = .ok c { w with drawn := w.drawn + 1 } := by
  refine ⟨need + w.tape w.drawn (.appendCap need old e) % (2 ^ 63 - need), Nat.le_add_right _ _, ?_⟩
  simp [Question.forced, Question.cut]

theorem zeroCells_eq (z : List Value) (n : Nat) : Builtin.zeroCells z.toArray n = ((List.replicate n z).flatten).toArray := by
  induction n with
  | zero => simp [Builtin.zeroCells]
  | succ n ih =>
    simp only [Builtin.zeroCells] at ih ⊢
    apply Array.ext'
    have ih' := congrArg Array.toList ih
    simp only [Array.toList_map, Array.toList_range, List.size_toArray] at ih' ⊢
    rw [List.replicate_succ', List.flatten_append, Nat.add_mul, Nat.one_mul, List.range_add, List.map_append, ih']
    congr 1
    simp only [List.flatten_cons, List.flatten_nil, List.append_nil, List.map_map]
    apply List.ext_getElem
    · simp
    · intro i h1 h2
      simp at h1
      simp [Nat.add_mod, Nat.mul_mod_left, Nat.mod_eq_of_lt h1, h1]

theorem flat_rep {enc : α → List Lit} {z : α} (n : Nat) : ((List.replicate n z).flatMap enc).map Lit.val = (List.replicate n ((enc z).map Lit.val)).flatten := by
  induction n with
  | zero => simp
  | succ n ih => simp [List.replicate_succ, ih]

/-- the cells of a slice that is read whole -/
theorem append_grow_run (hty : X.ty.ok X.P) {s x : SV} {e t1 t2 rt : TypeId} {te T1 T2 : TI} {enc : α → List Lit} {z : α} {ys new : List α} {len cap : Nat}
    (h1 : X.ty t1 = some T1) (hT1 : T1.d = .slice e) (he : X.ty e = some te) (h2 : X.ty t2 = some T2) (hT2 : ∀ k, T2.d ≠ .int k) (hz : te.zero.cellsL = some ((enc z).map SV.ofLit))
    {base : Option Addr} (hden : s.den ρ = .slice base len cap) (hold : (Builtin.firstCells te.size len (s.den ρ)).run X.P { w with drawn := w.drawn + 1 } = .ok ((ys.flatMap enc).map Lit.val).toArray { w with drawn := w.drawn + 1 })
    (hsrc : Src X te.size x cs enc new) (hs : SatC X.I X.G ρ cs F w) (hgrow : cap < len + new.length) (hroom : (len + new.length) * te.bytes ≤ 140737488355328) (hb0 : 0 < te.bytes) :
    ∃ (c : Nat) (w1 : World), len + new.length ≤ c ∧ w1.heap = w.heap ∧ io w1 = io w ∧ (Builtin.append_ #[t1, t2] rt #[s.den ρ, x.den ρ]).run X.P w =
      .ok (.slice (some ⟨w.heap.size, 0, none⟩) (len + new.length) c) { w1 with heap := w1.heap.push (.cells (arrCells enc (ys ++ new ++ List.replicate (c - (len + new.length)) z)) e (0, 0)) } := by
  have hd1 := (hty _ _ h1).desc
  rw [hT1] at hd1
  simp only [TD.ok] at hd1
  obtain ⟨ti2, hti2, hb1, hb2, hz2⟩ := (hty _ _ he).run_typeInfo w
  have hz1 := (hty _ _ he).run_sizeOf w
  obtain ⟨u2, hu2, hu2'⟩ := (hty _ _ h2).und_not_int hT2
  obtain ⟨hs1, hs2⟩ := hsrc ρ F w hs
  have hs' : SatC X.I X.G ρ cs F { w with drawn := w.drawn + 1 } := hs.same rfl
  obtain ⟨_, hs3⟩ := hsrc ρ F _ hs'
  obtain ⟨c, hc1, hc2⟩ := run_appendCap (P := X.P) (len + new.length) cap e w
  refine ⟨c, { w with drawn := w.drawn + 1 }, hc1, rfl, rfl, ?_⟩
  have hfit := growslice_fits (need := len + new.length) (old := cap) (bytes := te.bytes) hgrow hroom
  have hzero := (hty _ _ he).run_zeroValue ρ { w with drawn := w.drawn + 1 }
  have hzc := SV.cellsL_den (ρ := ρ) hz
  have hzc' : (te.zero.den ρ).cells = ((enc z).map Lit.val).toArray := by rw [← ofLits_den ρ, ← hzc]
  obtain ⟨ti3, hti3, hb3, hb4, hz3⟩ := (hty _ _ he).run_typeInfo { w with drawn := w.drawn + 1 }
  have e1 : ¬ ((len + new.length : Nat) : Int) > IntKind.i64.max := by
    have : IntKind.i64.max = 9223372036854775807 := by rfl
    rw [this]
    have : len + new.length ≤ (len + new.length) * te.bytes := Nat.le_mul_of_pos_right _ hb0
    omega
  rw [hden] at hold ⊢
  simp only [Builtin.append_, List.getElem?_toArray, List.getElem?_cons_zero, List.getElem?_cons_succ, Sem.run_bind, run_underlying hd1, Result.andThen_ok, hz1, run_underlying hu2, Sem.run_pure]
  simp only [Bool.false_eq_true, if_false, hs1, Result.andThen_ok, Bool.not_false, if_true, Sem.run_bind, Sem.run_ite, hti2, hb2]
  rw [if_neg (by omega), if_neg (by rintro ⟨h, _⟩; exact e1 h), if_neg (by omega)]
  simp only [Sem.run_bind, Sem.run_pure, Result.andThen_ok, hc2, hti3, run_askRoom, hold, hs3, hzero, hzc', zeroCells_eq, newRow, run_newObj]
  congr 2
  simp only [arrCells]
  congr 3
  apply Array.ext'
  simp [List.flatMap_append, flat_rep]

theorem notFrozen_of {fz : Nat × Nat} {n i : Nat} (h : notFrozen fz n) (hi : i < n) : (fz.1 ≤ i && i < fz.2) = false := h i hi

theorem append_stay_run (hty : X.ty.ok X.P) {x : SV} {id lo len cap : Nat} {e t1 t2 rt : TypeId} {te T1 T2 : TI} {enc : α → List Lit} {xs new : List α}
    (h1 : X.ty t1 = some T1) (hT1 : T1.d = .slice e) (he : X.ty e = some te) (h2 : X.ty t2 = some T2) (hT2 : ∀ k, T2.d ≠ .int k) (hw : Wide te.size enc)
    (hsrc : Src X te.size x cs enc new) (hs : SatC X.I X.G ρ cs F w) {fz : Nat × Nat} {T : TypeId} (hb : w.heap[ρ id]? = some (.cells (arrCells enc xs) T fz)) (hfz : notFrozen fz (arrCells enc xs).size)
    (hstay : len + new.length ≤ cap) (hcap : lo + cap ≤ xs.length) :
    ∃ w', (Builtin.append_ #[t1, t2] rt #[(SV.vec true id te.size lo len cap).den ρ, x.den ρ]).run X.P w = .ok (.slice (some ⟨ρ id, lo * te.size, none⟩) (len + new.length) cap) w' ∧
      w'.heap = w.heap.setIfInBounds (ρ id) (.cells (arrCells enc (xs.take (lo + len) ++ new ++ xs.drop (lo + len + new.length))) T fz) ∧ io w' = io w := by
  have hd1 := (hty _ _ h1).desc
  rw [hT1] at hd1
  simp only [TD.ok] at hd1
  have hz1 := (hty _ _ he).run_sizeOf w
  obtain ⟨u2, hu2, hu2'⟩ := (hty _ _ h2).und_not_int hT2
  obtain ⟨hs1, hs2⟩ := hsrc ρ F w hs
  have hsize : (arrCells enc xs).size = xs.length * te.size := by simp [arrCells, flat_len hw]
  have hroom : lo * te.size + len * te.size + new.length * te.size ≤ xs.length * te.size := by
    rw [← Nat.add_mul, ← Nat.add_mul]; exact Nat.mul_le_mul_right _ (by omega)
  have hnl : ((new.flatMap enc).map Lit.val).length = new.length * te.size := by rw [List.length_map, flat_len hw]
  obtain ⟨w', h3, h4, h5⟩ := storeCells_run (P := X.P) ((new.flatMap enc).map Lit.val) (lo * te.size + len * te.size) 0 _ w hb (by omega)
    (by intro v hv; obtain ⟨l, _, rfl⟩ := List.mem_map.1 hv; cases l <;> rfl) (by intro j hj; exact hfz _ (by omega))
  refine ⟨w', ?_, ?_, h5⟩
  · simp only [SV.den, if_true]
    simp only [Builtin.append_, List.getElem?_toArray, List.getElem?_cons_zero, List.getElem?_cons_succ, Sem.run_bind, run_underlying hd1, Result.andThen_ok, hz1, run_underlying hu2, Sem.run_pure]
    simp only [Bool.false_eq_true, if_false, hs1, Result.andThen_ok, Bool.not_false, if_true, Sem.run_bind, Sem.run_ite, hstay, hs2, addr_add, h3, Sem.run_pure]
  · rw [h4]
    congr 3
    simp only [arrCells, Nat.add_zero, hnl, ← Nat.add_mul, ← List.map_take, ← List.map_drop, flat_take hw, flat_drop hw]
    simp [List.flatMap_append]

theorem firstCells_arr {id wd lo len cap : Nat} {enc : α → List Lit} {xs : List α} (hw : Wide wd enc) {fz : Nat × Nat} {T : TypeId} (hb : w.heap[ρ id]? = some (.cells (arrCells enc xs) T fz)) (hl : lo + len ≤ xs.length) :
    (Builtin.firstCells wd len ((SV.vec true id wd lo len cap).den ρ)).run P w = .ok ((((xs.drop lo).take len).flatMap enc).map Lit.val).toArray w := by
  have hsize : (arrCells enc xs).size = xs.length * wd := by simp [arrCells, flat_len hw]
  have hroom : lo * wd + len * wd ≤ xs.length * wd := by rw [← Nat.add_mul]; exact Nat.mul_le_mul_right _ hl
  have := loadCellsFrom_run (P := P) hb (len * wd) (lo * wd) 0 #[] (by omega)
  simp only [Builtin.firstCells, SV.den, if_true, loadCells, this]
  congr 1
  apply Array.ext'
  simp only [Array.toList_append, Array.toList_extract, arrCells, List.extract_eq_take_drop, ← List.map_drop, ← List.map_take, Nat.add_zero]
  rw [show lo * wd + len * wd - lo * wd = len * wd by omega, flat_drop hw, flat_take hw]
  simp

theorem newArr {n : Nat} {T : TypeId} {enc : α → List Lit} {xs : List α} {w1 : World} (h : SatC X.I X.G ρ rest F w1) (hr : call (belowB n) rest = true) :
    SatC X.I X.G (upd1 ρ n w1.heap.size) (.arr true true n T enc xs :: rest) F { w1 with heap := w1.heap.push (.cells (arrCells enc xs) T (0, 0)) } := by
  have h1 : SatC X.I X.G (upd1 ρ n w1.heap.size) rest F w1 := h.congr hr fun i hi => (upd1_ne (by have := belowB_lt hi; omega)).symm
  have h2 := Sat.new h1 (.cells (arrCells enc xs) T (0, 0))
  obtain ⟨a, b, g, p, s, t⟩ := h2
  refine ⟨a, b, g, fun _ => ⟨(0, 0), fun _ i _ => by simp, ?_⟩, s, t⟩
  simpa [upd1] using p

theorem call_perm {p : Nat → Bool} : ∀ {a b : List (Chunk Pd)}, a.Perm b → call p a = call p b := by
  intro a b h
  induction h with
  | nil => rfl
  | cons c _ ih => simp [call, ih]
  | swap c d l => simp [call, Bool.and_left_comm]
  | trans _ _ ih1 ih2 => exact ih1.trans ih2

theorem vals2 {ρe : Operand → Value} {a b : Operand} {ts : Array TypeId} {u v : SV} {bi : Builtin} (h : (Op.call ⟨.builtin bi, #[a, b], ts⟩).operands.toList.map ρe = SV.denL ρ [u, v]) : ρe a = u.den ρ ∧ ρe b = v.den ρ := by
  simpa [Op.operands, Call.operands, SV.denL] using h

/-- append behind a slice of an array that is owned, or nil -/
theorem append_vec (hty : X.ty.ok X.P) {x : SV} {a b : Operand} {p : Bool} {id wd lo len cap n : Nat} {e t1 t2 type : TypeId} {te T1 T2 : TI} {enc : α → List Lit} {z : α} {xs new : List α} {cont : Out → List (Chunk Pd) → Nat → Prop}
    (h1 : X.ty t1 = some T1) (hT1 : T1.d = .slice e) (he : X.ty e = some te) (h2 : X.ty t2 = some T2) (hT2 : ∀ k, T2.d ≠ .int k) (hz : te.zero.cellsL = some ((enc z).map SV.ofLit)) (hwd : te.size = wd) (hw : Wide te.size enc)
    (hp : pickC [id] cs = some ([.arr p true id e enc xs], rest)) (hr : call (belowB n) rest = true) (hsrc : Src X te.size x cs enc new) (hpr : p = false → cap = 0) (hcap : lo + cap ≤ xs.length) (hlen : len ≤ cap)
    (hroom : (len + new.length) * te.bytes ≤ 140737488355328) (hb0 : 0 < te.bytes)
    (hk : ∀ p' lo' m cap' xs', m = len + new.length → (p' = false → cap' = 0) → lo' + cap' ≤ xs'.length → m ≤ cap' → (xs'.drop lo').take m = (xs.drop lo).take len ++ new →
      cont (.ret (.vec p' n wd lo' m cap')) (.arr p' true n e enc xs' :: rest) (n + 1)) :
    NodeX X (.call ⟨.builtin .append, #[a, b], #[t1, t2]⟩) type [.vec p id wd lo len cap, x] cs n cont := by
  subst hwd
  intro ρ F w ρe o ho _ hv hs
  obtain ⟨dst, op, ty', pos, after, guard⟩ := o
  simp only at ho; subst ho
  obtain ⟨ha, hb⟩ := vals2 hv
  have hs1 := hs.perm (pick_one hp)
  have hrest : SatC X.I X.G ρ rest F w := SatC.appR (a := [.arr p true id e enc xs]) hs1
  by_cases hst : len + new.length ≤ cap
  · cases p with
    | false =>
      have := hpr rfl
      have hn : new = [] := List.eq_nil_of_length_eq_zero (by omega)
      have hl0 : len = 0 := by omega
      subst hn; subst hl0; subst this
      have hd1 := (hty _ _ h1).desc
      rw [hT1] at hd1
      simp only [TD.ok] at hd1
      have hz1 := (hty _ _ he).run_sizeOf w
      obtain ⟨u2, hu2, hu2'⟩ := (hty _ _ h2).und_not_int hT2
      obtain ⟨hs1', hs2⟩ := hsrc ρ F w hs
      have h3 : (Builtin.append_ #[t1, t2] ty' #[(SV.vec false id te.size lo 0 0).den ρ, x.den ρ]).run X.P w = .ok (.slice none 0 0) w := by
        simp only [SV.den, Bool.false_eq_true, if_false]
        simp only [Builtin.append_, List.getElem?_toArray, List.getElem?_cons_zero, List.getElem?_cons_succ, Sem.run_bind, run_underlying hd1, Result.andThen_ok, hz1, run_underlying hu2, Sem.run_pure]
        simp only [Bool.false_eq_true, if_false, hs1', Result.andThen_ok, Bool.not_false, if_true, Sem.run_bind, Sem.run_ite, List.length_nil, Nat.add_zero, Nat.le_refl, Sem.run_pure]
        simp only [List.length_nil] at hs2
        rw [hs2, Result.andThen_ok]
      have hrun : (execOp ρe ⟨dst, .call ⟨.builtin .append, #[a, b], #[t1, t2]⟩, ty', pos, after, guard⟩).run X.P w = .ok (.value (.slice none 0 0)) w := by
        simp only [execOp, resolve, List.map_toArray, List.map_cons, List.map_nil, ha, hb, Sem.run_bind, Sem.run_pure, Result.andThen_ok, invoke, builtin, h3]
      rw [hrun]
      refine ⟨.vec false n te.size lo 0 0, _, n + 1, ρ, by simp [SV.den], Nat.le_succ _, Ext.refl _ _, ?_, hk false lo 0 0 xs rfl (fun _ => rfl) hcap hst (by simp)⟩
      obtain ⟨p1, p2, g, pp, s, t⟩ := hs1
      exact ⟨p1, p2, g, fun h => by simp at h, s, t⟩
    | true =>
      obtain ⟨fz, hfz, hheap⟩ := hs1.arr rfl
      obtain ⟨w', h3, h4, h5⟩ := append_stay_run (rt := ty') hty h1 hT1 he h2 hT2 hw hsrc hs hheap (hfz rfl) hst hcap
      have hrun : (execOp ρe ⟨dst, .call ⟨.builtin .append, #[a, b], #[t1, t2]⟩, ty', pos, after, guard⟩).run X.P w = .ok (.value (.slice (some ⟨ρ id, lo * te.size, none⟩) (len + new.length) cap)) w' := by
        simp only [execOp, resolve, List.map_toArray, List.map_cons, List.map_nil, ha, hb, Sem.run_bind, Sem.run_pure, Result.andThen_ok, invoke, builtin, h3]
      rw [hrun]
      refine ⟨.vec true n te.size lo (len + new.length) cap, _, n + 1, upd1 ρ n (ρ id), by simp [SV.den, upd1], Nat.le_succ _, fun i hi => upd1_ne (by omega), ?_, hk true lo _ cap (xs.take (lo + len) ++ new ++ xs.drop (lo + len + new.length)) rfl (fun h => by simp at h) (by simp; omega) hst ?_⟩
      · have h6 : Sat X.G (pts (ρ id) (.cells (arrCells enc xs) e fz) :: (rest.map (Chunk.den X.I ρ) ++ [F])) w := by
          obtain ⟨p1, p2, g, p0, s, t⟩ := hs1
          obtain ⟨fz', _, p⟩ := p0 rfl
          have : fz' = fz := by
            have := (s _ _ p.1).1
            simp only [Sx.hp] at this
            rw [hheap] at this; cases this; rfl
          subst this
          exact ⟨p1, p2, g, p, s, t⟩
        have h7 := Sat.put h6 h4 h5
        have h8 : rest.map (Chunk.den X.I ρ) = rest.map (Chunk.den X.I (upd1 ρ n (ρ id))) := cs_congr X.I (fun i hi => (upd1_ne (by have := belowB_lt hi; omega)).symm) rest hr
        rw [h8] at h7
        obtain ⟨p1, p2, g, p, s, t⟩ := h7
        refine ⟨p1, p2, g, fun _ => ⟨fz, fun _ => ?_, by simpa [upd1] using p⟩, s, t⟩
        have e1 : (arrCells enc (xs.take (lo + len) ++ new ++ xs.drop (lo + len + new.length))).size = (arrCells enc xs).size := by
          simp only [arrCells, List.size_toArray, List.length_map, flat_len hw]
          congr 1; simp; omega
        rw [e1]; exact hfz rfl
      · rw [List.append_assoc, List.drop_append_of_le_length (by simp; omega)]
        rw [List.take_append, List.take_append]
        simp only [List.length_drop, List.length_take]
        have e1 : min (lo + len) xs.length - lo = len := by omega
        rw [e1, show len + new.length - len = new.length by omega, show new.length - new.length = 0 by omega, List.take_zero, List.append_nil, List.take_length]
        congr 1
        rw [List.take_of_length_le (by simp; omega), List.drop_take]
        congr 1; omega
  · have hold : (Builtin.firstCells te.size len ((SV.vec p id te.size lo len cap).den ρ)).run X.P { w with drawn := w.drawn + 1 } = .ok ((((xs.drop lo).take len).flatMap enc).map Lit.val).toArray { w with drawn := w.drawn + 1 } := by
      cases p with
      | false =>
        have := hpr rfl
        have hl0 : len = 0 := by omega
        subst hl0
        simp [Builtin.firstCells, SV.den]
      | true =>
        obtain ⟨fz, hfz, hheap⟩ := hs1.arr rfl
        exact firstCells_arr (P := X.P) (cap := cap) hw (w := { w with drawn := w.drawn + 1 }) (ρ := ρ) (id := id) (lo := lo) (len := len) hheap (by omega)
    obtain ⟨c, w1, h3, h4, h6, h5⟩ := append_grow_run (rt := ty') (ys := (xs.drop lo).take len) (s := .vec p id te.size lo len cap) hty h1 hT1 he h2 hT2 hz rfl hold hsrc hs (by omega) hroom hb0
    have hrun : (execOp ρe ⟨dst, .call ⟨.builtin .append, #[a, b], #[t1, t2]⟩, ty', pos, after, guard⟩).run X.P w = .ok (.value (.slice (some ⟨w.heap.size, 0, none⟩) (len + new.length) c)) { w1 with heap := w1.heap.push (.cells (arrCells enc ((xs.drop lo).take len ++ new ++ List.replicate (c - (len + new.length)) z)) e (0, 0)) } := by
      simp only [execOp, resolve, List.map_toArray, List.map_cons, List.map_nil, ha, hb, Sem.run_bind, Sem.run_pure, Result.andThen_ok, invoke, builtin, h5]
    rw [hrun]
    have hlen' : ((xs.drop lo).take len).length = len := by simp; omega
    refine ⟨.vec true n te.size 0 (len + new.length) c, _, n + 1, upd1 ρ n w1.heap.size, by simp [SV.den, upd1, h4], Nat.le_succ _, fun i hi => upd1_ne (by omega), newArr (hrest.same h4 h6) hr, hk true 0 _ c _ rfl (fun h => by simp at h) (by simp [hlen']; omega) h3 ?_⟩
    rw [List.drop_zero, List.take_append_of_le_length (by simp [hlen'])]
    rw [List.take_of_length_le (by simp [hlen'])]

/- Bytes and strings. -/
theorem bytes_str (hty : X.ty.ok X.P) {a : Operand} {id lo len cap n : Nat} {S D e T type : TypeId} {ti td tee : TI} {p wr : Bool} {xs : List UInt8} {cont : Out → List (Chunk Pd) → Nat → Prop}
    (hS : X.ty S = some ti) (hSd : ti.d = .slice e) (hD : X.ty D = some td) (hDd : td.d = .str) (he : X.ty e = some tee) (hee : tee.d = .int .u8)
    (hp : pickC [id] cs = some ([.arr p wr id T encB xs], rest)) (hl : lo + len ≤ xs.length) (hpr : p = false → len = 0)
    (hk : ∀ s : ByteArray, s.data.toList = (xs.drop lo).take len → cont (.ret (.str s)) cs n) : NodeX X (.convert S D a) type [.vec p id 1 lo len cap] cs n cont := by
  intro ρ F w ρe o ho _ hv hs
  obtain ⟨dst, op, ty', pos, after, guard⟩ := o
  simp only at ho; subst ho
  have ha : ρe a = (SV.vec p id 1 lo len cap).den ρ := by simpa [Op.operands, SV.denL] using hv
  have hd1 := (hty _ _ hS).desc
  have hd2 := (hty _ _ hD).desc
  have hd3 := (hty _ _ he).desc
  rw [hSd] at hd1; rw [hDd] at hd2; rw [hee] at hd3
  simp only [TD.ok] at hd1 hd2 hd3
  have h3 : ∀ (l : List UInt8) (s : ByteArray), (forIn (l.map fun b => Value.int .u8 (b.toNat : Nat)).toArray s (fun c r => (match c with
      | .int .u8 n => pure (ForInStep.yield (r.push (UInt8.ofNat n.toNat)))
      | _ => do stuck "bytesToString: byte expected") : Value → ByteArray → Sem (ForInStep ByteArray))).run X.P w = .ok (l.foldl (fun s b => s.push b) s) w := by
    intro l
    induction l with
    | nil => intro s; simp
    | cons b r ih =>
      intro s
      simp only [List.map_cons, List.forIn_toArray, List.forIn_cons, Sem.run_bind, Sem.run_pure, Result.andThen_ok, List.foldl_cons]
      have e : UInt8.ofNat ((b.toNat : Nat) : Int).toNat = b := by simp
      rw [e]
      have := ih (s.push b)
      rw [List.forIn_toArray] at this
      exact this
  have h4 : ∀ (l : List UInt8) (s : ByteArray), (l.foldl (fun s b => s.push b) s).data.toList = s.data.toList ++ l := by
    intro l
    induction l with
    | nil => intro s; simp
    | cons b r ih =>
      intro s
      rw [List.foldl_cons, ih]
      obtain ⟨a⟩ := s
      simp [ByteArray.push]
  have hrun : (execOp ρe ⟨dst, .convert S D a, ty', pos, after, guard⟩).run X.P w = .ok (.value (.string (((xs.drop lo).take len).foldl (fun s b => s.push b) .empty))) w := by
    simp only [execOp, ha, Sem.run_bind]
    have : (convert S D ((SV.vec p id 1 lo len cap).den ρ)).run X.P w = .ok (.string (((xs.drop lo).take len).foldl (fun s b => s.push b) .empty)) w := by
      cases p with
      | false =>
        have := hpr rfl
        subst this
        simp only [SV.den, Bool.false_eq_true, if_false, convert, Sem.run_bind, run_underlying hd1, run_underlying hd2, run_underlying hd3, Result.andThen_ok, Conv.bytesToString]
        simp
      | true =>
        obtain ⟨fz, _, hb⟩ := (hs.perm (pick_one hp)).arr rfl
        have hsize : (arrCells encB xs).size = xs.length := by simp [arrCells, flat_len wideB]
        have h1 := loadCellsFrom_run (P := X.P) hb len lo 0 #[] (by omega)
        have h2 : (#[] ++ (arrCells encB xs).extract (lo + 0) (lo + 0 + len) : Array Value) = (((xs.drop lo).take len).map fun b => Value.int .u8 (b.toNat : Nat)).toArray := by
          apply Array.ext'
          simp only [Array.toList_append, Array.toList_extract, arrCells, encB_cells, List.extract_eq_take_drop, Nat.add_zero, ← List.map_drop, ← List.map_take]
          rw [show lo + len - lo = len by omega]; simp
        simp only [SV.den, if_true, Nat.mul_one, convert, Sem.run_bind, run_underlying hd1, run_underlying hd2, run_underlying hd3, Result.andThen_ok, Conv.bytesToString, loadCells, h1, h2]
        have := h3 ((xs.drop lo).take len) .empty
        refine (congrArg (fun r : Result ByteArray => r.andThen fun s w => (pure (Value.string s) : Sem Value).run X.P w) this)
    rw [this]; rfl
  rw [hrun]
  exact ⟨.str _, cs, n, ρ, rfl, Nat.le_refl _, Ext.refl _ _, hs, hk _ (by rw [h4]; rfl)⟩
theorem str_bytes (hty : X.ty.ok X.P) {a : Operand} {s : ByteArray} {n : Nat} {S D e type : TypeId} {ti td tee : TI} {cont : Out → List (Chunk Pd) → Nat → Prop}
    (hS : X.ty S = some ti) (hSd : ti.d = .str) (hD : X.ty D = some td) (hDd : td.d = .slice e) (he : X.ty e = some tee) (hee : tee.d = .int .u8) (hr : call (belowB n) cs = true)
    (hk : ∀ m cap xs, m = s.size → cap = xs.length → m ≤ cap → xs.take m = s.data.toList → cont (.ret (.vec true n 1 0 m cap)) (.arr true true n e encB xs :: cs) (n + 1)) :
    NodeX X (.convert S D a) type [.str s] cs n cont := by
  intro ρ F w ρe o ho _ hv hs
  obtain ⟨dst, op, ty', pos, after, guard⟩ := o
  simp only at ho; subst ho
  have ha : ρe a = (SV.str s).den ρ := by simpa [Op.operands, SV.denL] using hv
  have hd1 := (hty _ _ hS).desc
  have hd2 := (hty _ _ hD).desc
  have hd3 := (hty _ _ he).desc
  rw [hSd] at hd1; rw [hDd] at hd2; rw [hee] at hd3
  simp only [TD.ok] at hd1 hd2 hd3
  obtain ⟨c, hc1, hc2⟩ := run_appendCap (P := X.P) s.size 0 e w
  have hcells : (s.data.map fun b => Value.int .u8 (b.toNat : Nat)) ++ Array.replicate (c - s.size) (.int .u8 0) = arrCells encB (s.data.toList ++ List.replicate (c - s.size) 0) := by
    apply Array.ext'; simp [arrCells, encB_cells]
  have hlen : (s.data.toList ++ List.replicate (c - s.size) (0 : UInt8)).length = c := by
    have : s.data.toList.length = s.size := rfl
    simp only [List.length_append, this, List.length_replicate]; omega
  let w1 : World := { w with drawn := w.drawn + 1 }
  let w2 : World := { w1 with heap := w1.heap.push (.cells (arrCells encB (s.data.toList ++ List.replicate (c - s.size) 0)) e (0, 0)) }
  let w3 : World := w2.freeze { block := w.heap.size, off := (arrCells encB (s.data.toList ++ List.replicate (c - s.size) 0)).size } 1
  have hsz : (arrCells encB (s.data.toList ++ List.replicate (c - s.size) 0)).size = c := by simp only [arrCells, List.size_toArray, List.length_map, flat_len wideB, hlen]; omega
  have hrun : (execOp ρe ⟨dst, .convert S D a, ty', pos, after, guard⟩).run X.P w = .ok (.value (.slice (some ⟨w.heap.size, 0, none⟩) s.size c)) w3 := by
    simp only [execOp, ha, SV.den, Sem.run_bind, convert, run_underlying hd1, run_underlying hd2, run_underlying hd3, Result.andThen_ok, Conv.stringToBytes, hc2, newRow, run_newObj, hcells, markStringish, run_shape, Sem.run_pure]
    have : (World.shape? w2 w.heap.size) = some (e, (arrCells encB (s.data.toList ++ List.replicate (c - s.size) 0)).size) := by simp [World.shape?, w2, w1]
    simp only [w2, w1] at this
    simp only [this, run_freeze, Result.andThen_ok]
    rfl
  rw [hrun]
  refine ⟨.vec true n 1 0 s.size c, _, n + 1, upd1 ρ n w.heap.size, by simp [SV.den, upd1], Nat.le_succ _, fun i hi => upd1_ne (by omega), ?_, hk _ c _ rfl hlen.symm hc1 ?_⟩
  · have h0 : SatC X.I X.G ρ cs F w1 := hs.same rfl
    have h1 : SatC X.I X.G (upd1 ρ n w.heap.size) cs F w1 := h0.congr hr fun i hi => (upd1_ne (by have := belowB_lt hi; omega)).symm
    have h2 := Sat.new h1 (.cells (arrCells encB (s.data.toList ++ List.replicate (c - s.size) 0)) e (0, 0))
    have h3 : Sat X.G (pts w.heap.size (.cells (arrCells encB (s.data.toList ++ List.replicate (c - s.size) 0)) e (c, c + 1)) :: (cs.map (Chunk.den X.I (upd1 ρ n w.heap.size)) ++ [F])) w3 := by
      refine Sat.put h2 ?_ rfl
      show (w2.freeze _ 1).heap = _
      simp only [World.freeze]
      rw [if_neg (by omega)]
      rw [modify_eq_set _ _ _ _ h2.get]
      simp [hsz]; rfl
    obtain ⟨p1, p2, g, p, s', t⟩ := h3
    refine ⟨p1, p2, g, fun _ => ⟨(c, c + 1), fun _ i hi => by rw [hsz] at hi; simp; omega, by simpa [upd1] using p⟩, s', t⟩
  · have : s.size = s.data.toList.length := rfl
    rw [this, List.take_left]
 end
end Sx
/- Objects: predicates that hide blocks, and what else is of no matter. -/
namespace Sx
open Go
theorem SatR.imp {α : Type _} {f g : α → HP} : ∀ {l : List α} {r : List HP} {U : Nat → Prop} {H : Hp}, (∀ c ∈ l, ∀ h, f c h → g c h) → SatR (l.map f ++ r) U H → SatR (l.map g ++ r) U H
  | [], _, _, _, _, h => h
  | c :: l, r, U, H, hi, ⟨h1, a, s, t⟩ => ⟨h1, hi c (.head _) h1 a, s, SatR.imp (fun d hd => hi d (.tail _ hd)) t⟩

section
variable {Pd : Type}
theorem Chunk.den_mono {I I' : Pd → List Nat → HP} (hi : ∀ p ids h, I p ids h → I' p ids h) {ρ : Nat → Nat} : ∀ (c : Chunk Pd) (h : Hp), c.den I ρ h → c.den I' ρ h
  | .cells .., _, h => h
  | .arr .., _, h => h
  | .map .., _, h => h
  | .abs p ids, h, x => hi _ _ _ x
  | .at_ .., _, h => h
  | .obj .., _, h => h
  | .own .., _, h => h

variable (Tm : Pd → List (Chunk Pd) → Prop)
def Ik : Nat → Pd → List Nat → HP
  | 0, _, _ => fun _ => False
  | k + 1, p, ids => fun h => ∃ cs ρ, Tm p cs ∧ (∀ i, i < ids.length → ids[i]? = some (ρ i)) ∧ starL (cs.map (Chunk.den (Ik k) ρ)) h
def Im (p : Pd) (ids : List Nat) : HP := fun h => ∃ k, Ik Tm k p ids h
variable {Tm}
theorem starL_imp {α : Type _} {f g : α → HP} {l : List α} {h : Hp} (hi : ∀ c ∈ l, ∀ h, f c h → g c h) (x : starL (l.map f) h) : starL (l.map g) h := by
  have := SatR.imp (r := []) hi (by simpa [starL] using x)
  simpa [starL] using this
theorem Ik_mono : ∀ {k : Nat} {p : Pd} {ids : List Nat} {h : Hp}, Ik Tm k p ids h → Ik Tm (k + 1) p ids h
  | k + 1, p, ids, h, ⟨cs, ρ, a, b, c⟩ => ⟨cs, ρ, a, b, starL_imp (fun d _ g x => d.den_mono (fun _ _ _ y => Ik_mono y) g x) c⟩
theorem Ik_le {k m : Nat} (hkm : k ≤ m) {p : Pd} {ids : List Nat} {h : Hp} (x : Ik Tm k p ids h) : Ik Tm m p ids h := by
  induction hkm with
  | refl => exact x
  | step _ ih => exact Ik_mono ih
theorem fit_one {ρ : Nat → Nat} : ∀ (c : Chunk Pd) (h : Hp), c.den (Im Tm) ρ h → ∃ k, c.den (Ik Tm k) ρ h
  | .cells .., _, h => ⟨0, h⟩
  | .arr .., _, h => ⟨0, h⟩
  | .map .., _, h => ⟨0, h⟩
  | .abs _ _, _, ⟨k, x⟩ => ⟨k, x⟩
  | .at_ .., _, h => ⟨0, h⟩
  | .obj .., _, h => ⟨0, h⟩
  | .own .., _, h => ⟨0, h⟩
theorem fit {ρ : Nat → Nat} : ∀ {cs : List (Chunk Pd)} {U : Nat → Prop} {H : Hp}, SatR (cs.map (Chunk.den (Im Tm) ρ)) U H → ∃ k, SatR (cs.map (Chunk.den (Ik Tm k) ρ)) U H
  | [], _, _, _ => ⟨0, trivial⟩
  | c :: cs, U, H, ⟨h1, a, s, t⟩ => by
    obtain ⟨k1, a'⟩ := fit_one c h1 a
    obtain ⟨k2, t'⟩ := fit t
    refine ⟨max k1 k2, h1, c.den_mono (fun _ _ _ y => Ik_le (Nat.le_max_left _ _) y) h1 a', s, ?_⟩
    have := SatR.imp (f := Chunk.den (Ik Tm k2) ρ) (g := Chunk.den (Ik Tm (max k1 k2)) ρ) (l := cs) (r := []) (fun d _ g x => d.den_mono (fun _ _ _ y => Ik_le (Nat.le_max_right _ _) y) g x) (by simpa using t')
    simpa using this

/-- by the names that are told -/
def nm (l : List Nat) (i : Nat) : Nat :=
  match l[i]? with
  | some j => j
  | none => 0

section
variable {G : Gl} {ρ : Nat → Nat} {cs rest : List (Chunk Pd)} {F : HP} {w : World}
theorem SatC.open {p : Pd} {ids : List Nat} {n : Nat} (h : SatC (Im Tm) G ρ (.abs p ids :: rest) F w) (hi : idsOk (belowB n) ids = true) (hr : call (belowB n) rest = true) :
    ∃ cs', Tm p cs' ∧ ∃ ρ', Ext n ρ ρ' ∧ SatC (Im Tm) G ρ' (csRen (sg ids n) cs' ++ rest) F w := by
  obtain ⟨a, b, h1, ⟨k, hk⟩, s, t⟩ := h
  cases k with
  | zero => exact hk.elim
  | succ k =>
    obtain ⟨cs', ρ1, c1, c2, c3⟩ := hk
    let ρ2 : Nat → Nat := fun j => if j < n then ρ j else ρ1 (ids.length + (j - n))
    have hcomp : (fun i => ρ2 (sg ids n i)) = ρ1 := by
      funext i
      simp only [sg]
      cases hii : ids[i]? with
      | some j =>
        have hj := belowB_lt (idsOk_mem hi hii)
        have hlt := (List.getElem?_eq_some_iff.1 hii).1
        have := c2 i (by simpa using hlt)
        rw [List.getElem?_map, hii] at this
        simp only [ρ2, hj, if_true]
        simpa using this
      | none =>
        have hge : ids.length ≤ i := List.getElem?_eq_none_iff.1 hii
        simp only [ρ2]
        rw [if_neg (by omega)]
        congr 1; omega
    have hext : Ext n ρ ρ2 := fun i hi => by simp [ρ2, hi]
    refine ⟨cs', c1, ρ2, hext, a, b, ?_⟩
    rw [List.map_append, csRen_den, hcomp, ← cs_congr (Im Tm) (fun i hi => (hext i (belowB_lt hi)).symm) rest hr, List.append_assoc]
    refine SatR.flat ⟨h1, ?_, s, t⟩
    exact starL_imp (fun d _ g x => d.den_mono (fun _ _ _ y => ⟨k, y⟩) g x) c3
theorem SatC.close {p : Pd} {ids : List Nat} (τ : List Nat) {cs' : List (Chunk Pd)} (hT : Tm p cs') (h : SatC (Im Tm) G ρ (csRen (nm (ids ++ τ)) cs' ++ rest) F w) : SatC (Im Tm) G ρ (.abs p ids :: rest) F w := by
  obtain ⟨a, b, s⟩ := h
  refine ⟨a, b, ?_⟩
  rw [List.map_append, csRen_den, List.append_assoc] at s
  obtain ⟨h1, c1, c2, c3⟩ := SatR.fold s
  obtain ⟨k, c1⟩ := fit (Tm := Tm) c1
  refine ⟨h1, ⟨k + 1, cs', fun i => ρ (nm (ids ++ τ) i), hT, fun i hi => ?_, c1⟩, c2, c3⟩
  simp only [List.length_map] at hi
  rw [List.getElem?_map]
  simp [nm, List.getElem?_append_left hi, List.getElem?_eq_getElem hi]
 end

variable {X : Cx Pd} {B : Base Pd} {G : Gl} {cs rest : List (Chunk Pd)}
theorem op_open (hI : X.I = Im Tm) (id k : Nat) {p : Pd} {ids : List Nat} {op : Op} {type : TypeId} {vals : List SV} {n : Nat} {cont : Out → List (Chunk Pd) → Nat → Prop}
    (hp : pickC [id] cs = some ([.abs p ids], rest)) (hi : idsOk (belowB n) ids = true) (hr : call (belowB n) rest = true) (hv : SV.idOkL (belowB n) vals = true)
    (h : ∀ cs', Tm p cs' → NodeX X op type vals (csRen (sg ids n) cs' ++ rest) (n + k) cont) : NodeX X op type vals cs n cont := by
  refine op_ent (ι := {cs' // Tm p cs'}) (fun y => csRen (sg ids n) y.1 ++ rest) hv (Nat.le_add_right n k) (fun ρ F w hs => ?_) fun y => h y.1 y.2
  rw [hI] at hs ⊢
  obtain ⟨cs', c1, ρ', c2, c3⟩ := (hs.perm (pick_one hp)).open hi hr
  exact ⟨⟨cs', c1⟩, ρ', c2, c3⟩
theorem op_close (hI : X.I = Im Tm) (p : Pd) (ids τ : List Nat) (cs' : List (Chunk Pd)) (hT : Tm p cs') {op : Op} {type : TypeId} {vals : List SV} {n : Nat} {cont : Out → List (Chunk Pd) → Nat → Prop}
    (hp : pickC (idsOf (csRen (nm (ids ++ τ)) cs')) cs = some (csRen (nm (ids ++ τ)) cs', rest)) (hv : SV.idOkL (belowB n) vals = true)
    (h : NodeX X op type vals (.abs p ids :: rest) n cont) : NodeX X op type vals cs n cont := by
  refine op_ent (ι := Unit) (fun _ => .abs p ids :: rest) hv (Nat.le_refl n) (fun ρ F w hs => ?_) fun y => h
  rw [hI] at hs ⊢
  exact ⟨(), ρ, Ext.refl _ _, SatC.close τ hT (hs.perm (pickC_perm hp))⟩
theorem fin_close (hI : B.I = Im Tm) (p : Pd) (ids τ : List Nat) (cs' : List (Chunk Pd)) (hT : Tm p cs') {K : Out → List (Chunk Pd) → Prop} {nin : Nat} {out : Out}
    (hp : pickC (idsOf (csRen (nm (ids ++ τ)) cs')) cs = some (csRen (nm (ids ++ τ)) cs', rest))
    (h : Fin B G K nin out (.abs p ids :: rest)) : Fin B G K nin out cs := by
  intro ρ F w hs
  refine h ρ F w ?_
  rw [hI] at hs ⊢
  exact SatC.close τ hT (hs.perm (pickC_perm hp))
theorem leads_open (hI : X.I = Im Tm) (id k : Nat) {p : Pd} {ids : List Nat} {s : St Pd} {J : St Pd → Prop}
    (hp : pickC [id] s.cs = some ([.abs p ids], rest)) (hi : idsOk (belowB s.n) ids = true) (hr : call (belowB s.n) rest = true) (hv : eall (belowB s.n) s.env = true)
    (h : ∀ cs', Tm p cs' → Leads X ⟨s.env, csRen (sg ids s.n) cs' ++ rest, s.n + k⟩ J) : Leads X s J := by
  refine Leads.ent (ι := {cs' // Tm p cs'}) (fun y => csRen (sg ids s.n) y.1 ++ rest) hv (Nat.le_add_right s.n k) (fun ρ F w hs => ?_) fun y => h y.1 y.2
  rw [hI] at hs ⊢
  obtain ⟨cs', c1, ρ', c2, c3⟩ := (hs.perm (pick_one hp)).open hi hr
  exact ⟨⟨cs', c1⟩, ρ', c2, c3⟩
theorem leads_close (hI : X.I = Im Tm) (p : Pd) (ids τ : List Nat) (cs' : List (Chunk Pd)) (hT : Tm p cs') {s : St Pd} {J : St Pd → Prop}
    (hp : pickC (idsOf (csRen (nm (ids ++ τ)) cs')) s.cs = some (csRen (nm (ids ++ τ)) cs', rest)) (h : Leads X ⟨s.env, .abs p ids :: rest, s.n⟩ J) : Leads X s J := by
  intro ρ F a w hr
  refine h ρ F a w ⟨hr.env, ?_, hr.size, hr.dfs, hr.nin⟩
  have hs := hr.mem
  rw [hI] at hs ⊢
  exact SatC.close τ hT (hs.perm (pickC_perm hp))
/-- the memory ahead of a function: its first chunk is opened -/
theorem pre_open (hI : B.I = Im Tm) {p : Pd} {ids : List Nat} {n : Nat} (hi : idsOk (belowB n) ids = true) (hr : call (belowB n) rest = true) :
    ∀ G, B.GOk G → ∀ ρ F w, SatC B.I G ρ (.abs p ids :: rest) F w → ∃ (y : {cs' // Tm p cs'}) (ρ' : Nat → Nat), Ext n ρ ρ' ∧ SatC B.I G ρ' (csRen (sg ids n) y.1 ++ rest) F w := by
  intro G _ ρ F w hs
  rw [hI] at hs ⊢
  obtain ⟨cs', c1, ρ', c2, c3⟩ := hs.open hi hr
  exact ⟨⟨cs', c1⟩, ρ', c2, c3⟩
theorem pre_none {n : Nat} {pre : List (Chunk Pd)} : ∀ G, B.GOk G → ∀ ρ F w, SatC B.I G ρ pre F w → ∃ (_ : Unit) (ρ' : Nat → Nat), Ext n ρ ρ' ∧ SatC B.I G ρ' pre F w :=
  fun _ _ ρ _ _ h => ⟨(), ρ, Ext.refl _ _, h⟩
 end
end Sx
