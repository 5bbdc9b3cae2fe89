/-
  Part of a proof.
-/
import Derived.Test.YtkkifbjdbhjhaaaGreatDoorV05
import Derived.Test.YtkkifbjdbhjhaaaGreatDoorV01
set_option linter.unusedVariables false
set_option linter.unusedSimpArgs false
/- Ranges over a function: the statement, its rounds, the calls of yield. -/
namespace Sx
open Go
section
variable {Pd : Type} {B : Base Pd} {G : Gl}
/-- the contract of a yield: at a state st of the loop, handed x -/
structure YOk (B : Base Pd) (G : Gl) (yv : Value) {σT αT : Type} (argv : αT → List Value) (ok : σT → αT → Prop) (go : σT → αT → σT → Prop) (S : σT → HP) (D : σT → αT → HP) (E : σT → αT → Value → HP) : Prop where
  call : ∃ l, yv = .func (.yield l) #[] #[] ∧ ∀ st x, ok st x → ∀ (Ps : List HP) (w : World), Sat G (S st :: Ps) w → ∃ f tmps assign body, (Instr.yield l (argv x).toArray).run B.P w = .ok (.round l f tmps assign body) w ∧
    RoundIn Fence.wide 0 B.P l f tmps assign body w fun e w' => (∃ st', go st x st' ∧ e = .returned (.bool true) ∧ Sat G (S st' :: Ps) w') ∨ (e = .returned (.bool false) ∧ Sat G (D st x :: Ps) w') ∨ (∃ v, e = .panicked (chainOf v) ∧ Sat G (E st x v :: Ps) w')

theorem YOk.only {yv : Value} {σT αT : Type} {argv : αT → List Value} {ok : σT → αT → Prop} {go : σT → αT → σT → Prop} {S : σT → HP} {D : σT → αT → HP} {E : σT → αT → Value → HP} (h : YOk B G yv argv ok go S D E) :
    YOk ⟨B.P, B.I, B.ty, fun G' => G' = G⟩ G yv argv ok go S D E := ⟨h.call⟩
theorem yield_ {X : Cx Pd} {yv : Value} {σT αT : Type} {argv : αT → List Value} {ok : σT → αT → Prop} {go : σT → αT → σT → Prop} {S : σT → HP} {D : σT → αT → HP} {E : σT → αT → Value → HP} (hY : YOk B G yv argv ok go S D E)
    (st : σT) (x : αT) (hok : ok st x) (i : Nat) {fo : Operand} {as : Array Operand} {ts : Array TypeId} {type : TypeId} {cargs : List SV} {cs rest : List (Chunk Pd)} {n : Nat} {cont : Out → List (Chunk Pd) → Nat → Prop}
    (hp : pickC [i + 3000] cs = some ([.own i (S st)], rest)) (ha : ∀ ρ, SV.denL ρ cargs = argv x)
    (h1 : ∀ st', go st x st' → cont (.ret .tt) (.own i (S st') :: rest) n) (h2 : cont (.ret .ff) (.own i (D st x) :: rest) n) (h3 : ∀ v, cont (.pan (.raw v)) (.own i (E st x v) :: rest) n)
    (hX : IsX X B G := by exact ⟨rfl, rfl, rfl⟩) (hr : X.rnd = true := by rfl) : NodeX X (.call ⟨.value fo, as, ts⟩) type (.raw yv :: cargs) cs n cont := by
  intro ρ F w ρe o ho _ hv hs
  obtain ⟨hP, hI, hGe⟩ := hX
  obtain ⟨dst, op, ty', pos, after, guard⟩ := o
  simp only at ho
  subst ho
  obtain ⟨l, rfl, hcall⟩ := hY.call
  have hops : (Op.call ⟨.value fo, as, ts⟩).operands.toList = fo :: as.toList := by simp [Op.operands, Call.operands]
  rw [hops] at hv
  simp only [List.map_cons, SV.denL, List.cons.injEq, SV.den] at hv
  obtain ⟨hfo, has⟩ := hv
  have has' : as.map ρe = (argv x).toArray := by rw [← ha ρ, ← has]; apply Array.ext'; simp
  rw [hI, hGe] at hs
  have hs2 : Sat G (S st :: (rest.map (Chunk.den B.I ρ) ++ [F])) w := hs.perm (pickC_perm hp)
  obtain ⟨f, tmps, assign, body, hyr, hround⟩ := hcall st x hok _ w hs2
  have hrun : (execOp ρe ⟨dst, .call ⟨.value fo, as, ts⟩, ty', pos, after, guard⟩).run X.P w = .ok (.round l f tmps assign body) w := by
    rw [hP, ← hyr]
    simp [execOp, resolve, hfo, has', Deferred.ofValue, invoke]
  rw [hrun]
  simp only [Upon, hP, hI, hGe]
  refine ⟨hr, hround.mono fun e w' he => ?_⟩
  rcases he with ⟨st', hgo, rfl, hs'⟩ | ⟨rfl, hs'⟩ | ⟨v, rfl, hs'⟩
  · exact ⟨.ret .tt, .own i (S st') :: rest, n, ρ, by simp [OutRel, SV.den], Nat.le_refl _, Ext.refl _ _, hs', h1 st' hgo⟩
  · exact ⟨.ret .ff, .own i (D st x) :: rest, n, ρ, by simp [OutRel, SV.den], Nat.le_refl _, Ext.refl _ _, hs', h2⟩
  · exact ⟨.pan (.raw v), .own i (E st x v) :: rest, n, ρ, by simp [OutRel, SV.den], Nat.le_refl _, Ext.refl _ _, hs', h3 v⟩

/- The iterator: a function that calls yield. -/
def cxY (B : Base Pd) (G : Gl) (sz nin : Nat) (pl : List (Nat × Plan)) : Cx Pd := { P := B.P, I := B.I, G := G, ty := B.ty, sz := sz % 65536, nin := nin, D := [], pl := pl, rnd := true }
/-- a round's body -/
def cxR (B : Base Pd) (G : Gl) (sz nin : Nat) (pl : List (Nat × Plan)) (l : Nat) : Cx Pd := { P := B.P, I := B.I, G := G, ty := B.ty, sz := sz % 65536, nin := nin, D := [], pl := pl, ro := some l }
/-- behind a range -/
def cxM (B : Base Pd) (G : Gl) (sz nin : Nat) (pl : List (Nat × Plan)) (D : List Deferred) : Cx Pd := { P := B.P, I := B.I, G := G, ty := B.ty, sz := sz % 65536, nin := nin, D := D, pl := pl }

theorem triple_iter (hB : B.ok) {f : FuncId} {fn : Func} {c : Code} {nin nout n0 : Nat} {args : List SV} {pre : List (Chunk Pd)} {post : (Out → List (Chunk Pd) → Prop) → Prop} {ι : Type _} {tb : Tab} (htb : B.ty = tb) (pre' : ι → List (Chunk Pd))
    (pl : List (Nat × Plan)) (hcall : ∀ as w, (callFunc f as).run B.P w = .ok (.enter f as) w) (hf : B.P.funcs[f]? = some fn) (hb : fn.body = some c) (hpl : plansOk pl c = true) (hargs : args.length ≤ fn.ntmps) (hn : nin ≤ n0)
    (hidx : SV.idOkL (belowB nin) args = true)
    (hpre : ∀ G, B.GOk G → ∀ ρ F w, SatC B.I G ρ pre F w → ∃ i ρ', Ext nin ρ ρ' ∧ SatC B.I G ρ' (pre' i) F w)
    (h : ∀ G, B.GOk G → ∀ K, post K → ∀ W bi bc bs bk bu bb bo bg bl bp bn be Ncond Nob Nop Nloop Nscope, Nodes (cxY B G fn.ntmps nin pl) W ⟨bi, bc, bs, bk, bu, bb, bo, bg, bl, bp, bn, be⟩ Ncond Nob Nop Nloop Nscope →
      ∀ Nfin : Out → List (Chunk Pd) → Prop, (∀ out cs, Fin B G K nin out cs → Nfin out cs) → (∀ out cs, Nfin out cs → Fin B G K nin out cs) →
      ∀ i, run W ⟨bi, bc, bs, bk, bu, bb, bo, bg, bl, bp, bn, be⟩ tb Ncond Nob Nop Nloop Nscope (fn.ntmps % 65536) nin pl c ⟨envOf 0 args, pre' i, n0⟩ (finK tb fn.results.toList Nfin)) : Triple B f nin nout args pre post := by
  subst htb
  refine ⟨hcall, fun G hG K hK ρ F w hs => ?_⟩
  obtain ⟨i, ρ1, he1, hs1⟩ := hpre G hG ρ F w hs
  let X := cxY B G fn.ntmps nin pl
  have hN : Nodes X IntKind.wrap bitsOf (fun b x y => (b = true → x ()) ∧ (b = false → y ())) (fun l k => obsP l ∧ k ()) (NodeX X) (LoopX X) (ScopeX X) := ⟨rfl, rfl, rfl, rfl, rfl, rfl, rfl⟩
  have hrun := h G hG K hK _ _ _ _ _ _ _ _ _ _ _ _ _ _ _ _ _ _ hN (Fin B G K nin) (fun _ _ x => x) (fun _ _ x => x) i
  have hargs' : SV.denL ρ args = SV.denL ρ1 args := SV.denL_congr (fun j hj => (he1 j (belowB_lt hj)).symm) args hidx
  rw [hargs']
  have hrel : Rel X ρ1 ⟨envOf 0 args, pre' i, n0⟩ F { tmps := (SV.denL ρ1 args).toArray ++ Array.replicate (fn.ntmps - (SV.denL ρ1 args).toArray.size) undef, defers := [] } w := by
    refine ⟨fun t v g => ?_, hs1, ?_, ⟨rfl, fun k hk => by simp only [X, cxY] at hk; omega⟩, hn⟩
    · obtain ⟨_, h2⟩ := envOf_get g
      simp only [Nat.sub_zero] at h2
      have h3 : (SV.denL ρ1 args)[t]? = some (v.den ρ1) := by rw [denL_get, h2]; rfl
      have hlt : t < (SV.denL ρ1 args).length := (List.getElem?_eq_some_iff.1 h3).1
      rw [Array.getD_eq_getD_getElem?, Array.getElem?_append_left (by simpa using hlt)]
      simp [h3]
    · have : (SV.denL ρ1 args).length = args.length := by simp [SV.denL_eq]
      simp [this, X, cxY]; omega
  have hwp := run_okI hN hB.ty hB.mixed c _ _ hpl hrun ρ1 ρ1 F _ w (Ext.refl _ _) hrel
  refine callsIn_wide (n := 0).1 (callsIn_of_wp hf hb trivial (wpIn_mono hwp fun e a w' hq => ?_))
  have hret : ∀ s ρ2, (match resOf B.ty s fn.results.toList with | some l => Fin B G K nin (.ret (resV l)) s.cs | none => False) → Ext nin ρ1 ρ2 → Rel X ρ2 s F a w' →
      a.defers = [] ∧ ∃ v, (results fn a.tmps).run B.P w' = .ok v w' ∧ ∃ out cs ρ', OutRel ρ' out (.returned v) ∧ K out cs ∧ Ext nin ρ ρ' ∧ SatC B.I G ρ' cs F w' := by
    intro s ρ2 hk he2 hr
    split at hk
    · rename_i l hl
      have h3 := results_run (X := X) hB.ty hr hl
      obtain ⟨out', cs', ρ', h4, h5, h6, h7⟩ := hk ρ2 F w' hr.mem
      exact ⟨hr.dfs.1, _, h3, out', cs', ρ', h6 _ rfl, h4, (he1.trans he2).trans h5, h7⟩
    · exact hk.elim
  cases e with
  | normal => obtain ⟨s, ρ2, hk, he2, hr⟩ := hq; exact hret s ρ2 hk he2 hr
  | ret => obtain ⟨s, ρ2, hk, he2, hr⟩ := hq; exact hret s ρ2 hk he2 hr
  | panic ch =>
    obtain ⟨v, s, ρ2, hk, he2, rfl, hr⟩ := hq
    obtain ⟨out', cs', ρ', h4, h5, h6, h7⟩ := hk ρ2 F w' hr.mem
    exact ⟨hr.dfs.1, out', cs', ρ', h6 _ rfl, h4, (he1.trans he2).trans h5, h7⟩
  | exit i => obtain ⟨s, ρ2, hk, _⟩ := hq; exact hk.elim
  | goto i => obtain ⟨s, ρ2, hk, _⟩ := hq; exact hk.elim
  | outgrown => exact hq.elim
 end
end Sx
/- Ranges over a function: the rule. -/
namespace Sx
open Go
section
variable {G : Gl} {Ps : List HP} {w : World}
theorem Sat.exStar {ι : Type _} {Qs : ι → List HP} {p : ι → Prop} (h : Sat G ((fun h => ∃ i, p i ∧ starL (Qs i) h) :: Ps) w) : ∃ i, p i ∧ Sat G (Qs i ++ Ps) w := by
  obtain ⟨a, b, h1, ⟨i, hp, hq⟩, s, t⟩ := h
  exact ⟨i, hp, a, b, SatR.flat ⟨h1, hq, s, t⟩⟩
theorem Sat.inStar {Qs : List HP} {A : HP} (hA : ∀ h, starL Qs h → A h) (h : Sat G (Qs ++ Ps) w) : Sat G (A :: Ps) w := by
  obtain ⟨a, b, s⟩ := h
  exact ⟨a, b, SatR.map1 hA s.fold⟩
theorem Sat.foldEnd {A Qs : List HP} (h : Sat G (A ++ Qs) w) : Sat G (A ++ [starL Qs]) w := by
  obtain ⟨a, b, s⟩ := h
  have h2 : SatR (Qs ++ A) _ _ := s.perm List.perm_append_comm
  exact ⟨a, b, h2.fold.perm (List.perm_append_singleton _ _).symm⟩
theorem Sat.unfoldEnd {A Qs : List HP} (h : Sat G (A ++ [starL Qs]) w) : Sat G (A ++ Qs) w := by
  obtain ⟨a, b, s⟩ := h
  have h1 : SatR (starL Qs :: A) _ _ := s.perm (List.perm_append_singleton _ _)
  exact ⟨a, b, h1.flat.perm List.perm_append_comm⟩
theorem Sat.tail {A : HP} (h : Sat G (A :: Ps) w) : Sat G Ps w := ⟨h.size, h.old, h.sep.tail⟩
theorem Sat.putObj {b : Nat} {o o' : Obj} (h : Sat G (pts b o :: Ps) w) : Sat G (pts b o' :: Ps) (w.putObj b o') := h.put rfl rfl
 end

section
variable {Pd : Type} {B : Base Pd} {G : Gl}
def penv (e : Env) : List Tmp → List SV → Env
  | t :: ts, v :: vs => penv (eset e t v) ts vs
  | _, _ => e
def psOk (sz : Nat) : List Tmp → Bool
  | [] => true
  | t :: ts => Nat.ble (t + 1) sz && psOk sz ts
theorem penv_ok {ρ : Nat → Nat} : ∀ {ts : List Tmp} {vs : List SV} {e : Env} {tmps : Array Value} {ds : List Deferred} {sz : Nat}, EnvOk ρ e { tmps := tmps, defers := ds } → psOk sz ts = true → sz ≤ tmps.size →
    EnvOk ρ (penv e ts vs) { tmps := (ts.zip (SV.denL ρ vs)).foldl (fun tmps (t, a) => tmps.setIfInBounds t a) tmps, defers := ds } ∧ ((ts.zip (SV.denL ρ vs)).foldl (fun tmps (t, a) => tmps.setIfInBounds t a) tmps).size = tmps.size
  | [], vs, e, tmps, ds, sz, h, _, _ => by
    cases vs <;> simp [penv, SV.denL] <;> exact h
  | t :: ts, [], e, tmps, ds, sz, h, _, _ => by simp [penv, SV.denL]; exact h
  | t :: ts, v :: vs, e, tmps, ds, sz, h, hp, hs => by
    simp only [psOk, Bool.and_eq_true] at hp
    have ht := Nat.le_of_ble_eq_true hp.1
    have h1 := h.put (d := t) (v := v) (by simp only; omega)
    simp only [Act.put] at h1
    obtain ⟨h2, h3⟩ := penv_ok (vs := vs) h1 hp.2 (by simpa using hs)
    simp only [penv, SV.denL, List.zip_cons_cons, List.foldl_cons]
    exact ⟨h2, by rw [h3]; simp⟩
def jumpOf : SX → Option Code
  | .ret => some .ret
  | .exit i => some (.exit i)
  | _ => none

/-- where a round ends -/
def roundEnd (B : Base Pd) (G : Gl) (n : Nat) {σT αT : Type} (csOf : σT → List (Chunk Pd)) (go : σT → αT → σT → Prop) (KD : SX → σT → αT → List (Chunk Pd) → Prop) (KP : SV → σT → αT → List (Chunk Pd) → Prop) (st : σT) (x : αT) : SX → List (Chunk Pd) → Prop
  | .normal, cs => Fin B G (fun _ cs' => ∃ st', go st x st' ∧ cs' = csOf st') n (.ret (.tuple [])) cs
  | .panic v, cs => Fin B G (fun out cs' => ∃ v', out = .pan v' ∧ KP v' st x cs') n (.pan v) cs
  | .goto _, _ => False
  | .ret, cs => Fin B G (fun _ cs' => KD .ret st x cs') n (.ret (.tuple [])) cs
  | .exit i, cs => Fin B G (fun _ cs' => KD (.exit i) st x cs') n (.ret (.tuple [])) cs
/-- what an iterator comes to -/
def IterPost {σT αT : Type} (ok : σT → αT → Prop) (fin : σT → Prop) (preI : List (Chunk Pd)) (S : σT → HP) (D : σT → αT → HP) (E : σT → αT → Value → HP) (K2 : Out → List (Chunk Pd) → Prop) : Prop :=
  (∀ st, fin st → K2 (.ret (.tuple [])) (preI ++ [.own 0 (S st)])) ∧ (∀ st x, ok st x → K2 (.ret (.tuple [])) (preI ++ [.own 0 (D st x)])) ∧ (∀ st x v, ok st x → K2 (.pan (.raw v)) (preI ++ [.own 0 (E st x v)]))

def RangeAt (B : Base Pd) (G : Gl) (K : Out → List (Chunk Pd) → Prop) (nin : Nat) (f : FuncId) (fn : Func) (pl : List (Nat × Plan)) (blk post : Code) (s : St Pd) : Prop :=
  ∀ ρ0 ρ F a w, Ext nin ρ0 ρ → Rel (cxOf B G fn.ntmps nin pl) ρ s F a w → ∀ Q, Q = bodyPostM Fence.wide 0 B.P fn (fun e w' => ∃ out cs ρ', OutRel ρ' out e ∧ K out cs ∧ Ext nin ρ0 ρ' ∧ SatC B.I G ρ' cs F w') →
    wpB f B.P blk (Exit.then (wpB f B.P post Q) Q) a w

theorem permA {α : Type _} (p r F : α) (J C : List α) : (p :: r :: (J ++ C ++ [F])).Perm ((C ++ [p]) ++ (J ++ [r, F])) := by
  classical
  rw [List.perm_iff_count]
  intro a
  simp only [List.count_cons, List.count_append, List.count_nil]
  omega
/-- the mark is taken, where the function is left -/
theorem leave_mark {K : Out → List (Chunk Pd) → Prop} {nin sz r : Nat} {fn : Func} {pl : List (Nat × Plan)} {s : St Pd} {ρ0 ρ : Nat → Nat} {F : HP} {a : Act} {w : World} {u : FrameMode} (hu : u ≠ .run)
    (hr : Rel (cxM B G sz nin pl [{ target := .collected r, args := #[] }]) ρ s (starL [pts r (.deferred (some [])), F]) a w)
    (h : ∀ w', Rel (cxM B G sz nin pl [{ target := .collected r, args := #[] }]) ρ s F a w' →
      LeavesIn Fence.wide 0 B.P fn a.tmps (fun e w' => ∃ out cs ρ', OutRel ρ' out e ∧ K out cs ∧ Ext nin ρ0 ρ' ∧ SatC B.I G ρ' cs F w') [] u w') :
    LeavesInM Fence.wide 0 B.P fn a.tmps (fun e w' => ∃ out cs ρ', OutRel ρ' out e ∧ K out cs ∧ Ext nin ρ0 ρ' ∧ SatC B.I G ρ' cs F w') a.defers u w := by
  have hd : a.defers = [{ target := .collected r, args := #[] }] := hr.dfs.1
  rw [hd]
  have hm : Sat G (s.cs.map (Chunk.den B.I ρ) ++ [pts r (.deferred (some [])), F]) w := Sat.unfoldEnd hr.mem
  have hm2 : Sat G (pts r (.deferred (some [])) :: (s.cs.map (Chunk.den B.I ρ) ++ [F])) w := hm.perm List.perm_middle
  refine ⟨hu, .inl ⟨r, _, rfl, run_takeDeferred hm2.get, ?_⟩⟩
  have hm3 : Sat G (s.cs.map (Chunk.den B.I ρ) ++ [F]) (w.putObj r (.deferred none)) := hm2.putObj.tail
  exact h _ ⟨hr.env, hm3, hr.size, hr.dfs, hr.nin⟩

theorem fin_leaves (hB : B.ok) {K : Out → List (Chunk Pd) → Prop} {nin sz : Nat} {fn : Func} {pl : List (Nat × Plan)} {D : List Deferred} {s : St Pd} {ρ0 ρ : Nat → Nat} {F : HP} {a : Act} {w : World} {e : SX} (he : e = .normal ∨ e = .ret)
    (hk : finK B.ty fn.results.toList (Fin B G K nin) e s) (hext : Ext nin ρ0 ρ) (hr : Rel (cxM B G sz nin pl D) ρ s F a w) :
    LeavesIn Fence.wide 0 B.P fn a.tmps (fun e w' => ∃ out cs ρ', OutRel ρ' out e ∧ K out cs ∧ Ext nin ρ0 ρ' ∧ SatC B.I G ρ' cs F w') [] .returning w := by
  have hk : match resOf B.ty s fn.results.toList with | some l => Fin B G K nin (.ret (resV l)) s.cs | none => False := by
    rcases he with rfl | rfl <;> exact hk
  split at hk
  · rename_i l hl
    have h3 := results_run (X := cxM B G sz nin pl D) hB.ty hr hl
    obtain ⟨out', cs', ρ', h4, h5, h6, h7⟩ := hk ρ F w hr.mem
    exact ⟨_, h3, out', cs', ρ', h6 _ rfl, h4, hext.trans h5, h7⟩
  · exact hk.elim

theorem range_at (hB : B.ok) {f : FuncId} {fn : Func} (hf : B.P.funcs[f]? = some fn) {K : Out → List (Chunk Pd) → Prop} {nin : Nat} {pl : List (Nat × Plan)} {tb : Tab} (htb : B.ty = tb) {s : St Pd}
    {bid : Nat} {g : Operand} {ps : Array Tmp} {assign body post : Code} {f2 : FuncId} {a0 b0 : List SV} (hg : evO s.env g = some (.fn (.func f2) a0 b0))
    {σT αT : Type} (csOf : σT → List (Chunk Pd)) (n2 : Nat) (av : αT → List SV) (argv : αT → List Value) (ok : σT → αT → Prop) (go : σT → αT → σT → Prop)
    (KD : SX → σT → αT → List (Chunk Pd) → Prop) (KP : SV → σT → αT → List (Chunk Pd) → Prop) (fin : σT → Prop) (st0 : σT)
    {nin2 nout2 : Nat} {args2 : Value → List SV} {preI rest2 : List (Chunk Pd)} (σ : List Nat)
    (hT : ∀ yv S D E, YOk B G yv argv ok go S D E → Triple ⟨B.P, B.I, B.ty, fun G' => G' = G⟩ f2 nin2 nout2 (args2 yv) (preI ++ [.own 0 (S st0)]) (IterPost ok fin preI S D E))
    (hn2 : Nat.ble s.n n2 = true) (henv : eall (belowB s.n) s.env = true) (hav : ∀ ρ x, SV.denL ρ (av x) = argv x) (hlen : ∀ x, (av x).length = ps.size) (hps : psOk (fn.ntmps % 65536) ps.toList = true)
    (hlenσ : σ.length = nin2) (hargs : ∀ yv, a0 ++ [.raw yv] ++ b0 = SV.renL (sg σ s.n) (args2 yv)) (hp : pickC (idsOf (csRen (sg σ s.n) preI ++ csOf st0)) s.cs = some (csRen (sg σ s.n) preI ++ csOf st0, rest2))
    (hpreI : call (belowB nin2) preI = true) (hpreJ : call (belowB s.n) (csRen (sg σ s.n) preI) = true) (hpla : plansOk pl assign = true) (hplb : plansOk pl body = true) (hplp : plansOk pl post = true)
    (hround : ∀ l st x, ok st x → ∀ W bi bc bs bk bu bb bo bg bl bp bn be Ncond Nob Nop Nloop Nscope, Nodes (cxR B G fn.ntmps s.n pl l) W ⟨bi, bc, bs, bk, bu, bb, bo, bg, bl, bp, bn, be⟩ Ncond Nob Nop Nloop Nscope →
      ∀ Nend : SX → List (Chunk Pd) → Prop, (∀ e cs, roundEnd B G s.n csOf go KD KP st x e cs → Nend e cs) → (∀ e cs, Nend e cs → roundEnd B G s.n csOf go KD KP st x e cs) →
      run W ⟨bi, bc, bs, bk, bu, bb, bo, bg, bl, bp, bn, be⟩ tb Ncond Nob Nop Nloop Nscope (fn.ntmps % 65536) s.n pl assign ⟨penv s.env ps.toList (av x), csOf st, n2⟩ (fun e s1 => match e with
        | .normal => run W ⟨bi, bc, bs, bk, bu, bb, bo, bg, bl, bp, bn, be⟩ tb Ncond Nob Nop Nloop Nscope (fn.ntmps % 65536) s.n pl body s1 (fun e s2 => Nend e s2.cs)
        | _ => False))
    (hpost : ∀ cs, ((∃ st, fin st ∧ cs = csOf st) ∨ (∃ st x, ok st x ∧ KD (.exit bid) st x cs)) → ∀ D W bi bc bs bk bu bb bo bg bl bp bn be Ncond Nob Nop Nloop Nscope, Nodes (cxM B G fn.ntmps nin pl D) W ⟨bi, bc, bs, bk, bu, bb, bo, bg, bl, bp, bn, be⟩ Ncond Nob Nop Nloop Nscope →
      ∀ Nfin : Out → List (Chunk Pd) → Prop, (∀ out cs, Fin B G K nin out cs → Nfin out cs) → (∀ out cs, Nfin out cs → Fin B G K nin out cs) →
      run W ⟨bi, bc, bs, bk, bu, bb, bo, bg, bl, bp, bn, be⟩ tb Ncond Nob Nop Nloop Nscope (fn.ntmps % 65536) nin pl post ⟨s.env, csRen (sg σ s.n) preI ++ cs, n2⟩ (finK tb fn.results.toList Nfin))
    (hdone : ∀ st x cs, ok st x → KD .ret st x cs → finK tb fn.results.toList (Fin B G K nin) .ret ⟨s.env, csRen (sg σ s.n) preI ++ cs, n2⟩)
    (hexit : ∀ st x cs j, ok st x → KD (.exit j) st x cs → j = bid)
    (hpan : ∀ st x v cs, ok st x → KP v st x cs → Fin B G K nin (.pan v) (csRen (sg σ s.n) preI ++ cs)) :
    RangeAt B G K nin f fn pl (.block bid (.rangeFunc g ps assign body)) post s := by
  subst htb
  rintro ρ0 ρ F a w he hr _ rfl
  have hn2 := Nat.le_of_ble_eq_true hn2
  have hsz : fn.ntmps % 65536 ≤ a.tmps.size := by have := hr.size; simp only [cxOf] at this; omega
  have hdf : a.defers = [] := hr.dfs.1
  have hnin : nin ≤ s.n := hr.nin
  generalize hpJ : csRen (sg σ s.n) preI = preJ at hp hpreJ hpost hdone hpan
  have hs0 : SatC B.I G ρ (preJ ++ csOf st0) F w := SatC.appL (hr.mem.perm (pickC_perm hp))
  refine wpB_block (wpB_range ?_)
  obtain ⟨r, hrr⟩ : ∃ r, r = w.heap.size := ⟨_, rfl⟩
  obtain ⟨l, hl⟩ : ∃ l, l = w.heap.size + 1 := ⟨_, rfl⟩
  obtain ⟨rec0, hrec⟩ : ∃ rec0 : Loop, rec0 = { state := .ready, pending := none, fn := f, tmps := a.tmps, params := ps, assign := assign, body := body, defers := w.heap.size } := ⟨_, rfl⟩
  have henter := run_enterLoop_outer (P := B.P) (w := w) f a.tmps ps assign body
  rw [← hrec, ← hl, ← hrr] at henter
  have hw1 : Sat G (pts l (.loop rec0) :: pts r (.deferred (some [])) :: ((preJ ++ csOf st0).map (Chunk.den B.I ρ) ++ [F])) ((w.alloc (.deferred (some []))).alloc (.loop rec0)) := by
    have h1 := Sat.new hs0 (.deferred (some []))
    have h2 := Sat.new h1 (.loop rec0)
    have e2 : ({ w with heap := w.heap.push (.deferred (some [])) } : World).heap.size = w.heap.size + 1 := by simp
    rw [e2, ← hl, ← hrr] at h2
    exact h2
  generalize ((w.alloc (.deferred (some []))).alloc (.loop rec0)) = w1 at henter hw1
  -- what the rounds keep
  let S : σT → HP := fun st h => ∃ ρ' : Nat → Nat, Ext s.n ρ ρ' ∧ starL ((csOf st).map (Chunk.den B.I ρ') ++ [pts l (.loop rec0)]) h
  let D : σT → αT → HP := fun st x h => ∃ y : (Nat → Nat) × SX × List (Chunk Pd) × Code, (Ext s.n ρ y.1 ∧ KD y.2.1 st x y.2.2.1 ∧ jumpOf y.2.1 = some y.2.2.2) ∧ starL (y.2.2.1.map (Chunk.den B.I y.1) ++ [pts l (.loop { rec0 with state := .done, pending := some y.2.2.2 })]) h
  let E : σT → αT → Value → HP := fun st x u h => ∃ y : (Nat → Nat) × SV × List (Chunk Pd), (Ext s.n ρ y.1 ∧ KP y.2.1 st x y.2.2 ∧ u = y.2.1.den y.1) ∧ starL (y.2.2.map (Chunk.den B.I y.1)) h
  have hY : YOk B G (.func (.yield l) #[] #[]) argv ok go S D E := by
    refine ⟨l, rfl, fun st x hok Ps w hs => ?_⟩
    obtain ⟨ρ', he', hs'⟩ := Sat.exStar (ι := Nat → Nat) (Qs := fun ρ' => (csOf st).map (Chunk.den B.I ρ') ++ [pts l (.loop rec0)]) (p := fun ρ' => Ext s.n ρ ρ') hs
    rw [List.append_assoc] at hs'
    have hget := (hs'.perm (List.perm_middle (l₁ := (csOf st).map (Chunk.den B.I ρ')) (l₂ := Ps))).get
    have hasz : (argv x).toArray.size = rec0.params.size := by
      have h1 := hlen x
      have h2 := hav ρ x
      rw [hrec, ← h2, SV.denL_eq]; simp [h1]
    have hfn : rec0.fn = f := by rw [hrec]
    have has : rec0.assign = assign := by rw [hrec]
    have hbo : rec0.body = body := by rw [hrec]
    have htm : rec0.tmps = a.tmps := by rw [hrec]
    have hpa : rec0.params = ps := by rw [hrec]
    refine ⟨rec0.fn, _, rec0.assign, rec0.body, run_yield hget hasz, ?_⟩
    rw [hfn, has, hbo, htm, hpa]
    let X := cxR B G fn.ntmps s.n pl l
    have hN : Nodes X IntKind.wrap bitsOf (fun b x y => (b = true → x ()) ∧ (b = false → y ())) (fun l k => obsP l ∧ k ()) (NodeX X) (LoopX X) (ScopeX X) := ⟨rfl, rfl, rfl, rfl, rfl, rfl, rfl⟩
    have hrunA := hround l st x hok _ _ _ _ _ _ _ _ _ _ _ _ _ _ _ _ _ _ hN (roundEnd B G s.n csOf go KD KP st x) (fun _ _ h => h) (fun _ _ h => h)
    have henv' : EnvOk ρ' s.env { tmps := a.tmps, defers := [] } := by
      have h1 : EnvOk ρ' s.env a := hr.env.congr henv fun i hi => (he' i (belowB_lt hi)).symm
      exact h1
    obtain ⟨hpe1, hpe2⟩ := penv_ok (vs := av x) henv' hps hsz
    have hfold : (ps.zip (argv x).toArray).foldl (fun tmps (t, a) => tmps.setIfInBounds t a) a.tmps = (ps.toList.zip (SV.denL ρ' (av x))).foldl (fun tmps (t, a) => tmps.setIfInBounds t a) a.tmps := by
      rw [hav ρ' x, ← Array.foldl_toList]; simp
    rw [hfold]
    have hrel : Rel X ρ' ⟨penv s.env ps.toList (av x), csOf st, n2⟩ (starL (pts l (.loop rec0) :: Ps)) { tmps := (ps.toList.zip (SV.denL ρ' (av x))).foldl (fun tmps (t, a) => tmps.setIfInBounds t a) a.tmps, defers := [] } w :=
      ⟨hpe1, Sat.foldEnd hs', by show fn.ntmps % 65536 % 65536 ≤ _; rw [hpe2]; omega, ⟨rfl, fun k hk => by simp only [X, cxR] at hk; omega⟩, hn2⟩
    have hwp := run_okI hN hB.ty hB.mixed assign _ _ hpla hrunA ρ' ρ' _ _ w (Ext.refl _ _) hrel
    refine round_of_wp hf (wpIn_mono hwp fun e a1 w1 hq => ?_)
    cases e with
    | normal =>
      obtain ⟨s1, ρ1, hk1, hext1, hr1⟩ := hq
      have hm1 : Sat G (s1.cs.map (Chunk.den B.I ρ1) ++ pts l (.loop rec0) :: Ps) w1 := Sat.unfoldEnd hr1.mem
      have hm1' := hm1.perm (List.perm_middle (l₁ := s1.cs.map (Chunk.den B.I ρ1)) (l₂ := Ps))
      have hbr := run_beginRound (P := B.P) hm1'.get (by rw [hrec])
      refine ⟨_, hbr, ?_⟩
      have hm2 := (hm1'.putObj (o' := .loop { rec0 with state := .busy })).perm (List.perm_middle (l₁ := s1.cs.map (Chunk.den B.I ρ1)) (l₂ := Ps)).symm
      generalize w1.putObj l (.loop { rec0 with state := .busy }) = w2 at hm2
      have hr2 : Rel X ρ1 s1 (starL (pts l (.loop { rec0 with state := .busy }) :: Ps)) a1 w2 := ⟨hr1.env, Sat.foldEnd hm2, hr1.size, hr1.dfs, hr1.nin⟩
      have hwp2 := run_okI hN hB.ty hB.mixed body s1 _ hplb hk1 ρ' ρ1 _ a1 w2 hext1 hr2
      refine wpIn_mono hwp2 fun e a3 w3 hq => ?_
      have jump : ∀ (e : SX) (j : Code) (s3 : St Pd) (ρ3 : Nat → Nat), jumpOf e = some j → Fin B G (fun _ cs' => KD e st x cs') s.n (.ret (.tuple [])) s3.cs → Ext s.n ρ' ρ3 → Rel X ρ3 s3 (starL (pts l (.loop { rec0 with state := .busy }) :: Ps)) a3 w3 →
          ∃ v w', (Instr.endRound l (some j)).run B.P w3 = .ok v w' ∧ ((∃ st', go st x st' ∧ Ending.returned v = .returned (.bool true) ∧ Sat G (S st' :: Ps) w') ∨ (Ending.returned v = .returned (.bool false) ∧ Sat G (D st x :: Ps) w') ∨ (∃ u, Ending.returned v = .panicked (chainOf u) ∧ Sat G (E st x u :: Ps) w')) := by
        intro e j s3 ρ3 hj hk3 hext3 hr3
        obtain ⟨out', cs', ρ4, hkd, he4, _, hs4⟩ := hk3 ρ3 _ w3 hr3.mem
        have hm4 : Sat G (cs'.map (Chunk.den B.I ρ4) ++ pts l (.loop { rec0 with state := .busy }) :: Ps) w3 := Sat.unfoldEnd hs4
        have hm4' := hm4.perm (List.perm_middle (l₁ := cs'.map (Chunk.den B.I ρ4)) (l₂ := Ps))
        refine ⟨_, _, run_endRound (P := B.P) (some j) hm4'.get, .inr (.inl ⟨rfl, ?_⟩)⟩
        have hm5 := (hm4'.putObj (o' := .loop { rec0 with state := .done, pending := some j })).perm (List.perm_middle (l₁ := cs'.map (Chunk.den B.I ρ4)) (l₂ := Ps)).symm
        rw [show cs'.map (Chunk.den B.I ρ4) ++ pts l (.loop { rec0 with state := .done, pending := some j }) :: Ps = (cs'.map (Chunk.den B.I ρ4) ++ [pts l (.loop { rec0 with state := .done, pending := some j })]) ++ Ps by simp] at hm5
        exact Sat.inStar (fun h hst => ⟨⟨ρ4, e, cs', j⟩, ⟨he'.trans (hext3.trans he4), hkd, hj⟩, hst⟩) hm5
      cases e with
      | normal =>
        obtain ⟨s3, ρ3, hk3, hext3, hr3⟩ := hq
        obtain ⟨out', cs', ρ4, ⟨st', hgo, rfl⟩, he4, _, hs4⟩ := hk3 ρ3 _ w3 hr3.mem
        have hm4 : Sat G ((csOf st').map (Chunk.den B.I ρ4) ++ pts l (.loop { rec0 with state := .busy }) :: Ps) w3 := Sat.unfoldEnd hs4
        have hm4' := hm4.perm (List.perm_middle (l₁ := (csOf st').map (Chunk.den B.I ρ4)) (l₂ := Ps))
        refine ⟨_, _, run_endRound (P := B.P) none hm4'.get, .inl ⟨st', hgo, rfl, ?_⟩⟩
        have hre : ({ ({ rec0 with state := .busy } : Loop) with state := if (none : Option Code).isNone then .ready else .done, pending := none } : Loop) = rec0 := by rw [hrec]; rfl
        rw [hre]
        have hm5 := (hm4'.putObj (o' := .loop rec0)).perm (List.perm_middle (l₁ := (csOf st').map (Chunk.den B.I ρ4)) (l₂ := Ps)).symm
        rw [show (csOf st').map (Chunk.den B.I ρ4) ++ pts l (.loop rec0) :: Ps = ((csOf st').map (Chunk.den B.I ρ4) ++ [pts l (.loop rec0)]) ++ Ps by simp] at hm5
        exact Sat.inStar (fun h hst => ⟨ρ4, he'.trans (hext3.trans he4), hst⟩) hm5
      | ret => obtain ⟨s3, ρ3, hk3, hext3, hr3⟩ := hq; exact jump .ret .ret s3 ρ3 rfl hk3 hext3 hr3
      | exit i => obtain ⟨s3, ρ3, hk3, hext3, hr3⟩ := hq; exact jump (.exit i) (.exit i) s3 ρ3 rfl hk3 hext3 hr3
      | goto i => obtain ⟨s3, ρ3, hk3, _⟩ := hq; exact hk3.elim
      | panic ch =>
        obtain ⟨v, s3, ρ3, hk3, hext3, rfl, hr3⟩ := hq
        obtain ⟨out', cs', ρ4, ⟨v', rfl, hkp⟩, he4, ho4, hs4⟩ := hk3 ρ3 _ w3 hr3.mem
        have hm4 : Sat G (cs'.map (Chunk.den B.I ρ4) ++ pts l (.loop { rec0 with state := .busy }) :: Ps) w3 := Sat.unfoldEnd hs4
        have hm5 : Sat G (cs'.map (Chunk.den B.I ρ4) ++ Ps) w3 := (hm4.perm (List.perm_middle (l₁ := cs'.map (Chunk.den B.I ρ4)) (l₂ := Ps))).tail
        have ho : chainOf (v.den ρ3) = chainOf (v'.den ρ4) := ho4 (.panicked (chainOf (v.den ρ3))) rfl
        refine ⟨hr3.dfs.1, .inr (.inr ⟨v'.den ρ4, by rw [ho], Sat.inStar (fun h hst => ⟨⟨ρ4, v', cs'⟩, ⟨he'.trans (hext3.trans he4), hkp, rfl⟩, hst⟩) hm5⟩)⟩
      | outgrown => exact hq.elim
    | exit i => obtain ⟨s1, ρ1, hk1, _⟩ := hq; exact hk1.elim
    | goto i => obtain ⟨s1, ρ1, hk1, _⟩ := hq; exact hk1.elim
    | ret => obtain ⟨s1, ρ1, hk1, _⟩ := hq; exact hk1.elim
    | panic ch => obtain ⟨v, s1, ρ1, hk1, _⟩ := hq; exact hk1.elim
    | outgrown => exact hq.elim
  have hTi := hT _ S D E hY
  -- the function that is ranged over
  have hga : a.eval g = .func (.func f2) (SV.denL ρ a0).toArray (SV.denL ρ b0).toArray := by
    have := evO_den hr.env hg
    rw [this]; simp [SV.den]
  refine ⟨l, [{ target := .collected r, args := #[] }], w1, ⟨.fn (.func f2) (SV.denL ρ b0).toArray, (SV.denL ρ a0).toArray ++ #[.func (.yield l) #[] #[]]⟩, w1, f2, (SV.denL ρ (a0 ++ [.raw (.func (.yield l) #[] #[])] ++ b0)).toArray, w1, henter, ?_, ?_, ?_⟩
  · have e1 : Act.eval a (.const (.func (.yield l) #[] #[])) = .func (.yield l) #[] #[] := rfl
    simp [resolve, hga, e1, Deferred.ofValue]
  · simp only [invoke]
    rw [hTi.call]
    congr 2
    apply Array.ext'
    simp [SV.denL_eq, SV.den]
  rw [hargs, SV.denL_ren]
  have hpre2 : SatC B.I G (fun i => ρ (sg σ s.n i)) (preI ++ [.own 0 (S st0)]) (starL [pts r (.deferred (some [])), F]) w1 := by
    have e1 : (preI ++ [.own 0 (S st0)] : List (Chunk Pd)).map (Chunk.den B.I (fun i => ρ (sg σ s.n i))) = preJ.map (Chunk.den B.I ρ) ++ [S st0] := by
      rw [List.map_append, ← hpJ, csRen_den]; rfl
    unfold SatC
    rw [e1]
    refine Sat.foldEnd ?_
    have h1 : Sat G (((csOf st0).map (Chunk.den B.I ρ) ++ [pts l (.loop rec0)]) ++ (preJ.map (Chunk.den B.I ρ) ++ [pts r (.deferred (some [])), F])) w1 := by
      refine hw1.perm ?_
      simp only [List.map_append]
      exact permA _ _ _ _ _
    have h2 : Sat G (S st0 :: (preJ.map (Chunk.den B.I ρ) ++ [pts r (.deferred (some [])), F])) w1 := Sat.inStar (fun h hst => ⟨ρ, Ext.refl _ _, hst⟩) h1
    refine h2.perm ?_
    rw [List.append_assoc]
    exact List.perm_middle.symm
  let K2 : Out → List (Chunk Pd) → Prop := fun out cs => (∃ st, fin st ∧ out = .ret (.tuple []) ∧ cs = preI ++ [.own 0 (S st)]) ∨ (∃ st x, ok st x ∧ out = .ret (.tuple []) ∧ cs = preI ++ [.own 0 (D st x)]) ∨ (∃ st x v, ok st x ∧ out = .pan (.raw v) ∧ cs = preI ++ [.own 0 (E st x v)])
  have hK2 : IterPost ok fin preI S D E K2 := ⟨fun st h => .inl ⟨st, h, rfl, rfl⟩, fun st x h => .inr (.inl ⟨st, x, h, rfl, rfl⟩), fun st x v h => .inr (.inr ⟨st, x, v, h, rfl, rfl⟩)⟩
  refine (hTi.goes G rfl K2 hK2 _ _ w1 hpre2).mono fun e w3 ⟨out, cs3, ρ3, ho, hk3, he3, hs3⟩ => ?_
  -- the chunks by the caller's names
  have back : ∀ A : HP, SatC B.I G ρ3 (preI ++ [.own 0 A]) (starL [pts r (.deferred (some [])), F]) w3 → Sat G (A :: (preJ.map (Chunk.den B.I ρ) ++ [starL [pts r (.deferred (some [])), F]])) w3 := by
    intro A hA
    have e1 : (preI ++ [.own 0 A] : List (Chunk Pd)).map (Chunk.den B.I ρ3) = preJ.map (Chunk.den B.I ρ) ++ [A] := by
      rw [List.map_append, ← hpJ, csRen_den, cs_congr B.I (fun i hi => he3 i (belowB_lt hi)) preI hpreI]; rfl
    unfold SatC at hA
    rw [e1, List.append_assoc] at hA
    exact hA.perm List.perm_middle
  have jn : ∀ ρ' : Nat → Nat, Ext s.n ρ ρ' → preJ.map (Chunk.den B.I ρ) = preJ.map (Chunk.den B.I ρ') := fun ρ' h => cs_congr B.I (fun i hi => (h i (belowB_lt hi)).symm) preJ hpreJ
  -- behind the loop
  have behind : ∀ (cs : List (Chunk Pd)) (ρ' : Nat → Nat) (w4 : World), ((∃ st, fin st ∧ cs = csOf st) ∨ (∃ st x, ok st x ∧ KD (.exit bid) st x cs)) → Ext s.n ρ ρ' → SatC B.I G ρ' (preJ ++ cs) (starL [pts r (.deferred (some [])), F]) w4 →
      wpB f B.P post (bodyPostM Fence.wide 0 B.P fn (fun e w' => ∃ out cs ρ', OutRel ρ' out e ∧ K out cs ∧ Ext nin ρ0 ρ' ∧ SatC B.I G ρ' cs F w')) { a with defers := [{ target := .collected r, args := #[] }] ++ a.defers } w4 := by
    intro cs ρ' w4 hc he4 hs4
    let X := cxM B G fn.ntmps nin pl [{ target := .collected r, args := #[] }]
    have hN : Nodes X IntKind.wrap bitsOf (fun b x y => (b = true → x ()) ∧ (b = false → y ())) (fun l k => obsP l ∧ k ()) (NodeX X) (LoopX X) (ScopeX X) := ⟨rfl, rfl, rfl, rfl, rfl, rfl, rfl⟩
    have hrunP := hpost cs hc _ _ _ _ _ _ _ _ _ _ _ _ _ _ _ _ _ _ _ hN (Fin B G K nin) (fun _ _ h => h) (fun _ _ h => h)
    have hrel : Rel X ρ' ⟨s.env, preJ ++ cs, n2⟩ (starL [pts r (.deferred (some [])), F]) { a with defers := [{ target := .collected r, args := #[] }] ++ a.defers } w4 :=
      ⟨hr.env.congr henv fun i hi => (he4 i (belowB_lt hi)).symm, hs4, by show fn.ntmps % 65536 % 65536 ≤ _; have := hsz; simp only; omega, ⟨by rw [hdf]; rfl, fun k hk => by simp only [X, cxM] at hk; omega⟩, Nat.le_trans hnin hn2⟩
    have hwp := run_ok hN hB.ty hB.mixed post _ _ hplp hrunP ρ0 ρ' _ _ w4 (he.trans (he4.le hnin)) hrel
    refine wpB_of (wp_mono hwp fun e a5 w5 hq => ?_)
    cases e with
    | normal => obtain ⟨s5, ρ5, hk5, he5, hr5⟩ := hq; exact leave_mark (by simp) hr5 fun w' hr' => fin_leaves hB (.inl rfl) hk5 he5 hr'
    | ret => obtain ⟨s5, ρ5, hk5, he5, hr5⟩ := hq; exact leave_mark (by simp) hr5 fun w' hr' => fin_leaves hB (.inr rfl) hk5 he5 hr'
    | panic ch =>
      obtain ⟨v, s5, ρ5, hk5, he5, rfl, hr5⟩ := hq
      refine leave_mark (by simp) hr5 fun w' hr' => ?_
      obtain ⟨out', cs', ρ6, h4, h5, h6, h7⟩ := hk5 ρ5 F w' hr'.mem
      exact ⟨out', cs', ρ6, h6 _ rfl, h4, he5.trans h5, h7⟩
    | exit i => obtain ⟨s5, ρ5, hk5, _⟩ := hq; exact hk5.elim
    | goto i => obtain ⟨s5, ρ5, hk5, _⟩ := hq; exact hk5.elim
    | outgrown => exact hq.elim
  have hrM : ∀ (cs : List (Chunk Pd)) (ρ' : Nat → Nat) (w4 : World) (e : Env), EnvOk ρ' e a → SatC B.I G ρ' (preJ ++ cs) (starL [pts r (.deferred (some [])), F]) w4 →
      Rel (cxM B G fn.ntmps nin pl [{ target := .collected r, args := #[] }]) ρ' ⟨e, preJ ++ cs, n2⟩ (starL [pts r (.deferred (some [])), F]) { a with defers := [{ target := .collected r, args := #[] }] ++ a.defers } w4 :=
    fun cs ρ' w4 e h1 h2 => ⟨h1, h2, by show fn.ntmps % 65536 % 65536 ≤ _; have := hsz; simp only; omega, ⟨by rw [hdf]; rfl, fun k hk => by simp only [cxM] at hk; omega⟩, Nat.le_trans hnin hn2⟩
  rcases hk3 with ⟨st, hfin, rfl, rfl⟩ | ⟨st, x, hok, rfl, rfl⟩ | ⟨st, x, v, hok, rfl, rfl⟩
  · cases e with
    | panicked _ => exact (show False from ho).elim
    | outgrown => exact (show False from ho).elim
    | returned v3 =>
      obtain ⟨ρ', he', hs'⟩ := Sat.exStar (ι := Nat → Nat) (Qs := fun ρ' => (csOf st).map (Chunk.den B.I ρ') ++ [pts l (.loop rec0)]) (p := fun ρ' => Ext s.n ρ ρ') (back (S st) hs3)
      rw [List.append_assoc, List.singleton_append] at hs'
      have hs'' := hs'.perm (List.perm_middle (l₁ := (csOf st).map (Chunk.den B.I ρ')))
      have hpend : rec0.pending = none := by rw [hrec]
      have hend := run_endLoop (P := B.P) hs''.get (by rw [hrec]; simp)
      have hm4 := (hs''.putObj (o' := .loop { rec0 with state := .exhausted })).tail
      generalize w3.putObj l (.loop { rec0 with state := .exhausted }) = w4 at hend hm4
      rw [hpend] at hend
      refine ⟨none, w4, hend, ?_⟩
      refine behind (csOf st) ρ' _ (.inl ⟨st, hfin, rfl⟩) he' ?_
      unfold SatC
      rw [jn ρ' he'] at hm4
      rw [List.map_append]
      refine hm4.perm ?_
      rw [← List.append_assoc]
      exact List.Perm.append_right _ List.perm_append_comm
  · cases e with
    | panicked _ => exact (show False from ho).elim
    | outgrown => exact (show False from ho).elim
    | returned v3 =>
      obtain ⟨⟨ρ', e', cs', j⟩, ⟨he', hkd, hj⟩, hs'⟩ := Sat.exStar (ι := (Nat → Nat) × SX × List (Chunk Pd) × Code) (Qs := fun y => y.2.2.1.map (Chunk.den B.I y.1) ++ [pts l (.loop { rec0 with state := .done, pending := some y.2.2.2 })]) (p := fun y => Ext s.n ρ y.1 ∧ KD y.2.1 st x y.2.2.1 ∧ jumpOf y.2.1 = some y.2.2.2) (back (D st x) hs3)
      simp only at he' hkd hj hs'
      rw [List.append_assoc, List.singleton_append] at hs'
      have hs'' := hs'.perm (List.perm_middle (l₁ := cs'.map (Chunk.den B.I ρ')))
      refine ⟨_, _, run_endLoop hs''.get (by simp), ?_⟩
      have hm4 := (hs''.putObj (o' := .loop { ({ rec0 with state := .done, pending := some j } : Loop) with state := .exhausted })).tail
      have hm5 : SatC B.I G ρ' (preJ ++ cs') (starL [pts r (.deferred (some [])), F]) (w3.putObj l (.loop { ({ rec0 with state := .done, pending := some j } : Loop) with state := .exhausted })) := by
        unfold SatC
        rw [jn ρ' he'] at hm4
        rw [List.map_append]
        refine hm4.perm ?_
        rw [← List.append_assoc]
        exact List.Perm.append_right _ List.perm_append_comm
      simp only
      cases e' <;> simp only [jumpOf] at hj <;> (try cases hj)
      · rename_i i
        have hi := hexit st x cs' i hok hkd
        subst hi
        refine wpB_of (wp_exit ?_)
        simp only [Exit.inBlock, if_true, Exit.then]
        exact behind cs' ρ' _ (.inr ⟨st, x, hok, hkd⟩) he' hm5
      · refine wpB_of (wp_ret ?_)
        simp only [Exit.inBlock, Exit.then]
        exact leave_mark (by simp) (hrM cs' ρ' _ s.env (hr.env.congr henv fun i hi => (he' i (belowB_lt hi)).symm) hm5) fun w' hr' => fin_leaves hB (.inr rfl) (hdone st x cs' hok hkd) (he.trans (he'.le hnin)) hr'
  · cases e with
    | returned _ => exact (show False from ho).elim
    | outgrown => exact (show False from ho).elim
    | panicked ch =>
      have ho : ch = chainOf ((SV.raw v).den ρ3) := ho
      obtain ⟨⟨ρ', v', cs'⟩, ⟨he', hkp, hv'⟩, hs'⟩ := Sat.exStar (ι := (Nat → Nat) × SV × List (Chunk Pd)) (Qs := fun y => y.2.2.map (Chunk.den B.I y.1)) (p := fun y => Ext s.n ρ y.1 ∧ KP y.2.1 st x y.2.2 ∧ v = y.2.1.den y.1) (back (E st x v) hs3)
      simp only at he' hkp hv' hs'
      have hm5 : SatC B.I G ρ' (preJ ++ cs') (starL [pts r (.deferred (some [])), F]) w3 := by
        unfold SatC
        rw [jn ρ' he'] at hs'
        rw [List.map_append]
        refine hs'.perm ?_
        rw [← List.append_assoc]
        exact List.Perm.append_right _ List.perm_append_comm
      simp only [rangePostB, Exit.inBlock, Exit.then]
      refine leave_mark (by simp) (hrM cs' ρ' _ [] (fun _ _ g => by simp [eget] at g) hm5) fun w' hr' => ?_
      obtain ⟨out', cs6, ρ6, h4, h5, h6, h7⟩ := hpan st x v' cs' hok hkp ρ' F w' hr'.mem
      have ho2 : ch = chainOf (v'.den ρ') := by rw [ho, SV.den, hv']
      exact ⟨out', cs6, ρ6, h6 _ (by simpa [OutRel] using ho2), h4, (he.trans (he'.le hnin)).trans h5, h7⟩

theorem runs_wpB {X : Cx Pd} {W : IntKind → Int → Int} {bits : Bits} {Ncond : Bool → (Unit → Prop) → (Unit → Prop) → Prop} {Nob : List Ob → (Unit → Prop) → Prop}
    {Nop : Op → TypeId → List SV → List (Chunk Pd) → Nat → (Out → List (Chunk Pd) → Nat → Prop) → Prop} {Nloop Nscope : Code → St Pd → (SX → St Pd → Prop) → Prop} {f : FuncId}
    (hN : Nodes X W bits Ncond Nob Nop Nloop Nscope) (hty : X.ty.ok X.P) (hm : X.P.follows .mixedOrders = true) {c : Code} {K : St Pd → Prop} {ρ0 : Nat → Nat} {F : HP} {Q : Exit → Act → World → Prop}
    (hK : ∀ s ρ a w, K s → Ext X.nin ρ0 ρ → Rel X ρ s F a w → wpB f X.P c Q a w) (hro : X.ro = none) :
    ∀ (rs : List Code) (s : St Pd) (ρ : Nat → Nat) (a : Act) (w : World), plansOkL X.pl rs = true → runs W bits X.ty Ncond Nob Nop Nloop Nscope X.sz X.nin X.pl rs s K → Ext X.nin ρ0 ρ → Rel X ρ s F a w → wpB f X.P (seqs rs c) Q a w
  | [], s, ρ, a, w, _, h, he, hr => hK s ρ a w h he hr
  | r :: rs, s, ρ, a, w, hp, h, he, hr => by
    simp only [plansOkL, Bool.and_eq_true] at hp
    simp only [runs] at h
    refine wpB_seq (wpB_of (wp_mono (run_ok hN hty hm r s _ hp.1 h ρ0 ρ F a w he hr hro) fun e a w hq => ?_))
    cases e with
    | normal => obtain ⟨s', ρ', h1, h2, h3⟩ := hq; exact runs_wpB hN hty hm hK hro rs s' ρ' a w hp.2 h1 h2 h3
    | exit i => obtain ⟨s', ρ', h1, _⟩ := hq; exact h1.elim
    | goto i => obtain ⟨s', ρ', h1, _⟩ := hq; exact h1.elim
    | ret => obtain ⟨s', ρ', h1, _⟩ := hq; exact h1.elim
    | panic ch => obtain ⟨v, s', ρ', h1, _⟩ := hq; exact h1.elim
    | outgrown => exact hq.elim

theorem triple_range (hB : B.ok) {f : FuncId} {fn : Func} {rs rs2 : List Code} {blk po : Code} {nin nout n0 : Nat} {args : List SV} {pre : List (Chunk Pd)} {post : (Out → List (Chunk Pd) → Prop) → Prop} {ι : Type _} {tb : Tab} (htb : B.ty = tb) (pre' : ι → List (Chunk Pd))
    (pl : List (Nat × Plan)) (hcall : ∀ as w, (callFunc f as).run B.P w = .ok (.enter f as) w) (hf : B.P.funcs[f]? = some fn) (hb : fn.body = some (seqs rs (.seq (seqs rs2 blk) po)))
    (hplr : plansOkL pl rs = true) (hplr2 : plansOkL pl rs2 = true) (hargs : Nat.ble args.length fn.ntmps = true) (hn : Nat.ble nin n0 = true) (hidx : SV.idOkL (belowB nin) args = true)
    (hpre : ∀ G, B.GOk G → ∀ ρ F w, SatC B.I G ρ pre F w → ∃ i ρ', Ext nin ρ ρ' ∧ SatC B.I G ρ' (pre' i) F w)
    (h : ∀ G, B.GOk G → ∀ K, post K → ∀ W bi bc bs bk bu bb bo bg bl bp bn be Ncond Nob Nop Nloop Nscope, Nodes (cxOf B G fn.ntmps nin pl) W ⟨bi, bc, bs, bk, bu, bb, bo, bg, bl, bp, bn, be⟩ Ncond Nob Nop Nloop Nscope →
      ∀ Nr : St Pd → Prop, (∀ s, RangeAt B G K nin f fn pl blk po s → Nr s) →
      ∀ i, runs W ⟨bi, bc, bs, bk, bu, bb, bo, bg, bl, bp, bn, be⟩ tb Ncond Nob Nop Nloop Nscope (fn.ntmps % 65536) nin pl rs ⟨envOf 0 args, pre' i, n0⟩ (fun s1 =>
        runs W ⟨bi, bc, bs, bk, bu, bb, bo, bg, bl, bp, bn, be⟩ tb Ncond Nob Nop Nloop Nscope (fn.ntmps % 65536) nin pl rs2 s1 Nr)) :
    Triple B f nin nout args pre post := by
  subst htb
  refine ⟨hcall, fun G hG K hK ρ F w hs => ?_⟩
  obtain ⟨i, ρ1, he1, hs1⟩ := hpre G hG ρ F w hs
  have hargs := Nat.le_of_ble_eq_true hargs
  have hn := Nat.le_of_ble_eq_true hn
  have hN : Nodes (cxOf B G fn.ntmps nin pl) IntKind.wrap bitsOf (fun b x y => (b = true → x ()) ∧ (b = false → y ())) (fun l k => obsP l ∧ k ()) (NodeX (cxOf B G fn.ntmps nin pl)) (LoopX (cxOf B G fn.ntmps nin pl)) (ScopeX (cxOf B G fn.ntmps nin pl)) := ⟨rfl, rfl, rfl, rfl, rfl, rfl, rfl⟩
  have hrun := h G hG K hK _ _ _ _ _ _ _ _ _ _ _ _ _ _ _ _ _ _ hN (RangeAt B G K nin f fn pl blk po) (fun _ x => x) i
  have hargs' : SV.denL ρ args = SV.denL ρ1 args := SV.denL_congr (fun j hj => (he1 j (belowB_lt hj)).symm) args hidx
  rw [hargs']
  have hrel0 := start_rel (B := B) (G := G) (f := f) (nin := nin) (pl := pl) hargs hs1
  have hrel : Rel (cxOf B G fn.ntmps nin pl) ρ1 ⟨envOf 0 args, pre' i, n0⟩ F { tmps := (SV.denL ρ1 args).toArray ++ Array.replicate (fn.ntmps - (SV.denL ρ1 args).toArray.size) undef, defers := [] } w :=
    ⟨hrel0.env, hrel0.mem, hrel0.size, hrel0.dfs, hn⟩
  refine calls_of_wpB hf hb (runs_wpB (X := cxOf B G fn.ntmps nin pl) (ρ0 := ρ1) (F := F) hN hB.ty hB.mixed (fun s ρ2 a w hk he2 hr => ?_) rfl rs _ ρ1 _ w hplr hrun (Ext.refl _ _) hrel)
  refine wpB_seq (runs_wpB (X := cxOf B G fn.ntmps nin pl) (ρ0 := ρ1) (F := F) hN hB.ty hB.mixed (fun s ρ2 a w hk he2 hr => ?_) rfl rs2 _ ρ2 _ w hplr2 hk he2 hr)
  exact hk ρ ρ2 F a w (he1.trans he2) hr _ rfl
 end
end Sx
/- Functions that defer one closure, with ways out ahead of it; of two results. -/
namespace Sx
open Go
section
variable {Pd : Type} {B : Base Pd} {G : Gl}
def DEnd2 (B : Base Pd) (G : Gl) (K : Out → List (Chunk Pd) → Prop) (nin g : Nat) (caps : List SV) (k kid : Nat) (t : TypeId) (kid2 : Nat) (t2 : TypeId) (u : FrameMode) (cs : List (Chunk Pd)) (n : Nat) : Prop :=
  ∀ ρ F w, SatC B.I G ρ cs F w → CallsD B.P g (SV.denL ρ caps).toArray u w fun e u' w' => (∃ v, e = .returned v) ∧ settle u' = .returning ∧
    ∃ cs' ρ' l, Ext n ρ ρ' ∧ SatC B.I G ρ' cs' F w' ∧ resOf B.ty ⟨[(k, .ptr kid 0), (k + 1, .ptr kid2 0)], cs', 0⟩ [.cell k t, .cell (k + 1) t2] = some l ∧ Fin B G K nin (.ret (resV l)) cs'
theorem dend2_ {K : Out → List (Chunk Pd) → Prop} {nin g nin' : Nat} {caps args' : List SV} {pre' : List (Chunk Pd)} {u : FrameMode} {post' : (List (Chunk Pd) → Prop) → Prop} (hT : DTriple B g nin' args' pre' u post') (hG : B.GOk G) (σ : List Nat)
    {k kid kid2 : Nat} {t t2 : TypeId} {cs rest : List (Chunk Pd)} {n : Nat} (hlen : σ.length = nin') (hargs : caps = SV.renL (sg σ n) args') (hpick : pickC (idsOf (csRen (sg σ n) pre')) cs = some (csRen (sg σ n) pre', rest))
    (hσ : idsOk (belowB n) σ = true) (hrest : call (belowB n) rest = true) (hset : settle (recM u).2 = .returning)
    (hk : post' fun cs' => ∃ l, resOf B.ty ⟨[(k, .ptr kid 0), (k + 1, .ptr kid2 0)], csRen (sg σ n) cs' ++ rest, 0⟩ [.cell k t, .cell (k + 1) t2] = some l ∧ Fin B G K nin (.ret (resV l)) (csRen (sg σ n) cs' ++ rest)) : DEnd2 B G K nin g caps k kid t kid2 t2 u cs n := by
  intro ρ F w hs
  have hsplit := hs.perm (pickC_perm hpick)
  have hpre : SatC B.I G (fun i => ρ (sg σ n i)) pre' (starL (rest.map (Chunk.den B.I ρ) ++ [F])) w := SatC.renI.1 hsplit.frame
  rw [hargs, SV.denL_ren]
  refine CallsD.mono (hT.goes G hG _ hk _ _ w hpre) fun e u' w' ⟨hv, hu, cs', ρ', ⟨l, hl, hf⟩, h3, h4⟩ => ?_
  refine ⟨hv, hu ▸ hset, ?_⟩
  let ρ2 : Nat → Nat := fun j => if j < n then ρ j else ρ' (σ.length + (j - n))
  have hext : Ext n ρ ρ2 := fun i hi => by simp [ρ2, hi]
  have hcomp : (fun i => ρ2 (sg σ n i)) = ρ' := by
    funext i
    simp only [sg]
    cases hi : σ[i]? with
    | some j =>
      have hj := belowB_lt (idsOk_mem hσ hi)
      have hlt : i < nin' := by rw [← hlen]; exact (List.getElem?_eq_some_iff.1 hi).1
      simp only [ρ2, hj, if_true]
      rw [h3 i hlt]
      simp [sg, hi]
    | none =>
      have hge : σ.length ≤ i := List.getElem?_eq_none_iff.1 hi
      simp only [ρ2]
      rw [if_neg (by omega)]
      congr 1; omega
  have h5 : SatC B.I G ρ2 (csRen (sg σ n) cs') (starL (rest.map (Chunk.den B.I ρ) ++ [F])) w' := SatC.renI.2 (by rw [hcomp]; exact h4)
  exact ⟨_, ρ2, l, hext, h5.unframe (cs_congr B.I (fun i hi => (hext i (belowB_lt hi)).symm) rest hrest), hl, hf⟩
section
variable (W : IntKind → Int → Int) (bits : Bits) (ty : Tab) (Ncond : Bool → (Unit → Prop) → (Unit → Prop) → Prop) (Nob : List Ob → (Unit → Prop) → Prop)
  (Nop : Op → TypeId → List SV → List (Chunk Pd) → Nat → (Out → List (Chunk Pd) → Nat → Prop) → Prop) (Nloop Nscope : Code → St Pd → (SX → St Pd → Prop) → Prop) (sz nin : Nat) (pl : List (Nat × Plan)) (KR : SX → St Pd → Prop)
def runsR : List Code → St Pd → (St Pd → Prop) → Prop
  | [], s, K => K s
  | r :: rs, s, K => run W bits ty Ncond Nob Nop Nloop Nscope sz nin pl r s (fun x s' => match x with
    | .normal => runsR rs s' K
    | .ret => KR .ret s'
    | _ => False)
 end
theorem runsR_wp {X : Cx Pd} {W : IntKind → Int → Int} {bits : Bits} {Ncond : Bool → (Unit → Prop) → (Unit → Prop) → Prop} {Nob : List Ob → (Unit → Prop) → Prop}
    {Nop : Op → TypeId → List SV → List (Chunk Pd) → Nat → (Out → List (Chunk Pd) → Nat → Prop) → Prop} {Nloop Nscope : Code → St Pd → (SX → St Pd → Prop) → Prop}
    (hN : Nodes X W bits Ncond Nob Nop Nloop Nscope) (hty : X.ty.ok X.P) (hm : X.P.follows .mixedOrders = true) {c : Code} {K : St Pd → Prop} {KR : SX → St Pd → Prop} {ρ0 : Nat → Nat} {F : HP} {Q : Exit → Act → World → Prop}
    (hK : ∀ s ρ a w, K s → Ext X.nin ρ0 ρ → Rel X ρ s F a w → c.wp X.P Q a w) (hR : ∀ s ρ a w, KR .ret s → Ext X.nin ρ0 ρ → Rel X ρ s F a w → Q .ret a w) (hro : X.ro = none := by rfl) :
    ∀ (rs : List Code) (s : St Pd) (ρ : Nat → Nat) (a : Act) (w : World), plansOkL X.pl rs = true → runsR W bits X.ty Ncond Nob Nop Nloop Nscope X.sz X.nin X.pl KR rs s K → Ext X.nin ρ0 ρ → Rel X ρ s F a w → (seqs rs c).wp X.P Q a w
  | [], s, ρ, a, w, _, h, he, hr => hK s ρ a w h he hr
  | r :: rs, s, ρ, a, w, hp, h, he, hr => by
    simp only [plansOkL, Bool.and_eq_true] at hp
    simp only [runsR] at h
    refine wp_seq (wp_mono (run_ok hN hty hm r s _ hp.1 h ρ0 ρ F a w he hr hro) fun e a w hq => ?_)
    cases e with
    | normal => obtain ⟨s', ρ', h1, h2, h3⟩ := hq; exact runsR_wp hN hty hm hK hR hro rs s' ρ' a w hp.2 h1 h2 h3
    | exit i => obtain ⟨s', ρ', h1, _⟩ := hq; exact h1.elim
    | goto i => obtain ⟨s', ρ', h1, _⟩ := hq; exact h1.elim
    | ret => obtain ⟨s', ρ', h1, h2, h3⟩ := hq; exact hR s' ρ' a w h1 h2 h3
    | panic ch => obtain ⟨v, s', ρ', h1, _⟩ := hq; exact h1.elim
    | outgrown => exact hq.elim
theorem triple_defer2 (hB : B.ok) {f : FuncId} {fn : Func} {rs : List Code} {id dt g k t t2 : Nat} {ops : Array Oper} {mk df : Oper} {cops : Array Operand} {rest : Code} {nin nout n0 : Nat} {args : List SV} {pre : List (Chunk Pd)} {post : (Out → List (Chunk Pd) → Prop) → Prop} {ι : Type _} {tb : Tab} (htb : B.ty = tb) (pre' : ι → List (Chunk Pd))
    (pl : List (Nat × Plan)) (hcall : ∀ as w, (callFunc f as).run B.P w = .ok (.enter f as) w) (hgcall : ∀ as w, (callFunc g as).run B.P w = .ok (.enter g as) w) (hf : B.P.funcs[f]? = some fn) (hb : fn.body = some (seqs rs (.seq (.region id ops false) rest)))
    (hplr : plansOkL pl rs = true) (hpl : plansOk pl rest = true) (hops : ops.toList = [mk, df]) (hmk : mk.op = .makeFunc (.func g) #[] cops) (hmg : mk.guard = none) (hmd : mk.dst = some dt) (hdf : df.op = .defer ⟨.value (.tmp dt), #[], #[]⟩) (hdg : df.guard = none) (hdd : df.dst = none)
    (hres : fn.results = #[.cell k t, .cell (k + 1) t2]) (hkd : (Nat.beq k dt || Nat.beq (k + 1) dt) = false) (hsz : Nat.ble (fn.ntmps + 1) 65536 = true) (hdt : Nat.ble (dt + 1) fn.ntmps = true) (hargs : Nat.ble args.length fn.ntmps = true) (hn : Nat.ble nin n0 = true)
    (hidx : SV.idOkL (belowB nin) args = true)
    (hpre : ∀ G, B.GOk G → ∀ ρ F w, SatC B.I G ρ pre F w → ∃ i ρ', Ext nin ρ ρ' ∧ SatC B.I G ρ' (pre' i) F w)
    (h : ∀ G, B.GOk G → ∀ K, post K → ∀ W bi bc bs bk bu bb bo bg bl bp bn be Ncond Nob Nop Nloop Nscope, Nodes (cxOf B G fn.ntmps nin pl) W ⟨bi, bc, bs, bk, bu, bb, bo, bg, bl, bp, bn, be⟩ Ncond Nob Nop Nloop Nscope →
      ∀ Nfin : Out → List (Chunk Pd) → Prop, (∀ out cs, Fin B G K nin out cs → Nfin out cs) → (∀ out cs, Nfin out cs → Fin B G K nin out cs) →
      ∀ i, runsR W ⟨bi, bc, bs, bk, bu, bb, bo, bg, bl, bp, bn, be⟩ tb Ncond Nob Nop Nloop Nscope (fn.ntmps % 65536) nin pl (finK tb [.cell k t, .cell (k + 1) t2] Nfin) rs ⟨envOf 0 args, pre' i, n0⟩ (fun s =>
        ∃ caps kid kid2, evOs s.env cops.toList = some caps ∧ SV.idOkL (belowB s.n) caps = true ∧ (Nat.ble (kid + 1) s.n && Nat.ble (kid2 + 1) s.n) = true ∧ eget s.env k = some (.ptr kid 0) ∧ eget s.env (k + 1) = some (.ptr kid2 0) ∧
          ∀ D kv W bi bc bs bk bu bb bo bg bl bp bn be Ncond Nob Nop Nloop Nscope, Nodes (cxD B G (fn.ntmps % 65536 + 65536 * (2 * k + 3)) s.n pl D kv) W ⟨bi, bc, bs, bk, bu, bb, bo, bg, bl, bp, bn, be⟩ Ncond Nob Nop Nloop Nscope →
            run W ⟨bi, bc, bs, bk, bu, bb, bo, bg, bl, bp, bn, be⟩ tb Ncond Nob Nop Nloop Nscope (fn.ntmps % 65536 + 65536 * (2 * k + 3)) s.n pl rest ⟨eset s.env dt (.fn (.func g) [] caps), s.cs, s.n⟩ (endK (DEnd2 B G K nin g caps k kid t kid2 t2)))) :
    Triple B f nin nout args pre post := by
  subst htb
  refine ⟨hcall, fun G hG K hK ρ F w hs => ?_⟩
  obtain ⟨i, ρ1, he1, hs1⟩ := hpre G hG ρ F w hs
  have hargs := Nat.le_of_ble_eq_true hargs
  have hn := Nat.le_of_ble_eq_true hn
  have hN : Nodes (cxOf B G fn.ntmps nin pl) IntKind.wrap bitsOf (fun b x y => (b = true → x ()) ∧ (b = false → y ())) (fun l k => obsP l ∧ k ()) (NodeX (cxOf B G fn.ntmps nin pl)) (LoopX (cxOf B G fn.ntmps nin pl)) (ScopeX (cxOf B G fn.ntmps nin pl)) := ⟨rfl, rfl, rfl, rfl, rfl, rfl, rfl⟩
  have hrun := h G hG K hK _ _ _ _ _ _ _ _ _ _ _ _ _ _ _ _ _ _ hN (Fin B G K nin) (fun _ _ x => x) (fun _ _ x => x) i
  have hargs' : SV.denL ρ args = SV.denL ρ1 args := SV.denL_congr (fun j hj => (he1 j (belowB_lt hj)).symm) args hidx
  rw [hargs']
  have hrel0 := start_rel (B := B) (G := G) (f := f) (nin := nin) (pl := pl) hargs hs1
  have hrel : Rel (cxOf B G fn.ntmps nin pl) ρ1 ⟨envOf 0 args, pre' i, n0⟩ F { tmps := (SV.denL ρ1 args).toArray ++ Array.replicate (fn.ntmps - (SV.denL ρ1 args).toArray.size) undef, defers := [] } w :=
    ⟨hrel0.env, hrel0.mem, hrel0.size, hrel0.dfs, hn⟩
  refine calls_of_wp_defers hf hb (runsR_wp (X := cxOf B G fn.ntmps nin pl) (ρ0 := ρ1) (F := F) hN hB.ty hB.mixed ?_ ?_ rfl rs _ ρ1 _ w hplr hrun (Ext.refl _ _) hrel)
  rotate_left
  · intro s ρ2 a w hq he2 hr
    simp only [finK] at hq
    split at hq
    · rename_i l hl
      have hres4 := results_run (X := cxOf B G fn.ntmps nin pl) hB.ty hr (fn := fn) (l := l) (by rw [hres]; exact hl)
      obtain ⟨out', cs'', ρ5, h4, h5, h6, h7⟩ := hq ρ2 F w hr.mem
      show Leaves B.P fn a.tmps _ a.defers .returning w
      have hd0 : a.defers = [] := hr.dfs.1
      rw [hd0]
      exact ⟨_, hres4, out', cs'', ρ5, h6 _ rfl, h4, (he1.trans he2).trans h5, h7⟩
    · exact hq.elim
  rintro s ρ2 a w ⟨caps, kid, kid2, hcaps, hcid, hkids, hkenv, hkenv2, hrest⟩ he2 hr
  simp only [Bool.and_eq_true] at hkids
  have hkid := Nat.le_of_ble_eq_true hkids.1
  have hkid2 := Nat.le_of_ble_eq_true hkids.2
  simp only [Bool.or_eq_false_iff] at hkd
  have hkd1 : k ≠ dt := fun e => by have := hkd.1; subst e; rw [Nat.beq_refl] at this; cases this
  have hkd2 : k + 1 ≠ dt := fun e => by have := hkd.2; rw [e, Nat.beq_refl] at this; cases this
  have hsz := Nat.le_of_ble_eq_true hsz
  have hdt := Nat.le_of_ble_eq_true hdt
  -- the closure
  have hmrun : (execOp a.eval mk).run B.P w = .ok (.value ((SV.fn (.func g) [] caps).den ρ2)) w := by
    refine pureV_run (W := IntKind.wrap) (bits := bitsOf) rfl rfl hB.ty (evOk_of hr.env) (obs := []) ?_ trivial w
    simp only [hmk, pureV, evOs, hcaps, noOb]
  have hrm : Rel (cxOf B G fn.ntmps nin pl) ρ2 ⟨eset s.env dt (.fn (.func g) [] caps), s.cs, s.n⟩ F (a.put (some dt) ((SV.fn (.func g) [] caps).den ρ2)) w := by
    refine hr.put (d := some dt) (v := .fn (.func g) [] caps) (e := eset s.env dt (.fn (.func g) [] caps)) ?_ hr.env hr.mem hr.nin
    simp only [setD, cxOf]
    have hk : okT (fn.ntmps % 65536) dt = true := okT_plain (by omega) hsz
    exact if_pos hk
  have hdtv : (a.put (some dt) ((SV.fn (.func g) [] caps).den ρ2)).tmps.getD dt undef = .func (.func g) #[] (SV.denL ρ2 caps).toArray := by
    have := hrm.env dt (.fn (.func g) [] caps) (by simp only; rw [eget_eset]; simp)
    rw [this]; simp [SV.den, SV.denL]
  generalize ha1 : a.put (some dt) ((SV.fn (.func g) [] caps).den ρ2) = a1 at hrm hdtv
  obtain ⟨d, fv, cap, hdrun, hdtar, hdinv⟩ := defer_ops (P := B.P) hgcall (w := w) hdf hdtv
  have hkv : a1.tmps.getD k undef = (SV.ptr kid 0).den ρ2 := hrm.env k (.ptr kid 0) (by simp only; rw [eget_eset]; simp [Ne.symm hkd1, hkenv])
  have hkv2 : a1.tmps.getD (k + 1) undef = (SV.ptr kid2 0).den ρ2 := hrm.env (k + 1) (.ptr kid2 0) (by simp only; rw [eget_eset]; simp [Ne.symm hkd2, hkenv2])
  have hdf0 : a1.defers = [] := hrm.dfs.1
  let kv : Value := .tuple #[(SV.ptr kid 0).den ρ2, (SV.ptr kid2 0).den ρ2]
  let X' := cxD B G (fn.ntmps % 65536 + 65536 * (2 * k + 3)) s.n pl [d] kv
  have hN' : Nodes X' IntKind.wrap bitsOf (fun b x y => (b = true → x ()) ∧ (b = false → y ())) (fun l k => obsP l ∧ k ()) (NodeX X') (LoopX X') (ScopeX X') := ⟨rfl, rfl, rfl, rfl, rfl, rfl, rfl⟩
  have hrun2 := hrest [d] kv _ _ _ _ _ _ _ _ _ _ _ _ _ _ _ _ _ _ hN'
  have hkeep : ∀ k', X'.sz / 65536 = k' + 1 → k' = 2 * k + 2 := fun k' hk' => by
    simp only [X', cxD] at hk'
    omega
  have hrel2 : Rel X' ρ2 ⟨eset s.env dt (.fn (.func g) [] caps), s.cs, s.n⟩ F { a1 with defers := [d] } w := by
    refine ⟨hrm.env, hrm.mem, ?_, ⟨rfl, fun k' hk' => ?_⟩, Nat.le_refl _⟩
    · have := hrm.size; simp only [cxOf] at this; simp only [X', cxD]; omega
    · rw [hkeep k' hk']
      simp only [keptV]
      rw [if_neg (by omega), show (2 * k + 2) / 2 - 1 = k by omega, show (2 * k + 2) / 2 = k + 1 by omega, hkv, hkv2]
      rfl
  have hwp := run_ok (X := X') hN' hB.ty hB.mixed rest _ _ hpl hrun2 ρ2 ρ2 F _ w (Ext.refl _ _) hrel2
  -- the end
  have hend : ∀ s' ρ3 a w (u : FrameMode), u ≠ .run → DEnd2 B G K nin g caps k kid t kid2 t2 u s'.cs s'.n → Ext s.n ρ2 ρ3 → Rel X' ρ3 (noEnv s') F a w →
      Leaves B.P fn a.tmps (fun e w' => ∃ out cs ρ', OutRel ρ' out e ∧ K out cs ∧ Ext nin ρ ρ' ∧ SatC B.I G ρ' cs F w') a.defers u w := by
    intro s' ρ3 a w u hu hd he3 hr3
    rw [hr3.dfs.1]
    have hk0 := hr3.dfs.2 (2 * k + 2) (by simp only [X', cxD]; omega)
    simp only [keptV] at hk0
    rw [if_neg (by omega), show (2 * k + 2) / 2 - 1 = k by omega, show (2 * k + 2) / 2 = k + 1 by omega] at hk0
    have hk0 : Value.tuple #[a.tmps.getD k undef, a.tmps.getD (k + 1) undef] = Value.tuple #[(SV.ptr kid 0).den ρ2, (SV.ptr kid2 0).den ρ2] := hk0
    simp only [Value.tuple.injEq, Array.mk.injEq, List.cons.injEq, and_true] at hk0
    obtain ⟨hk3, hk4⟩ := hk0
    refine ⟨hu, fv, cap, g, (SV.denL ρ2 caps).toArray, hdtar, hdinv w, ?_⟩
    have hce : SV.denL ρ2 caps = SV.denL ρ3 caps := SV.denL_congr (fun j hj => (he3 j (belowB_lt hj)).symm) caps hcid
    rw [hce]
    refine CallsD.mono (hd ρ3 F w hr3.mem) ?_
    rintro e u' w' ⟨⟨v, rfl⟩, hset, cs', ρ4, l, he4, hs4, hl, hfin⟩
    simp only [hset]
    have hle2 : s.n ≤ s'.n := hr3.nin
    have hr4 : Rel X' ρ4 ⟨[(k, .ptr kid 0), (k + 1, .ptr kid2 0)], cs', s'.n⟩ F a w' := by
      refine ⟨fun t v g => ?_, hs4, hr3.size, hr3.dfs, hr3.nin⟩
      simp only [eget] at g
      split at g
      · rename_i hkt
        simp only [beq_iff_eq] at hkt
        simp only [Option.some.injEq] at g
        subst g; subst hkt
        rw [hk3]
        have h1 : ρ3 kid = ρ2 kid := he3 kid (by omega)
        have h2 : ρ4 kid = ρ3 kid := he4 kid (by omega)
        simp [SV.den, h1, h2]
      · split at g
        · rename_i hkt
          simp only [beq_iff_eq] at hkt
          simp only [Option.some.injEq] at g
          subst g; subst hkt
          rw [hk4]
          have h1 : ρ3 kid2 = ρ2 kid2 := he3 kid2 (by omega)
          have h2 : ρ4 kid2 = ρ3 kid2 := he4 kid2 (by omega)
          simp [SV.den, h1, h2]
        · cases g
    have hres4 := results_run (X := X') hB.ty hr4 (fn := fn) (l := l) (by rw [hres]; exact hl)
    obtain ⟨out', cs'', ρ5, h4, h5, h6, h7⟩ := hfin ρ4 F w' hs4
    refine ⟨_, hres4, out', cs'', ρ5, h6 _ rfl, h4, ?_, h7⟩
    have hle : nin ≤ s.n := hr.nin
    exact (he1.trans (he2.trans (he3.le hle))).trans ((he4.le (Nat.le_trans hle hle2)).trans h5)
  have hend2 : (rest).wp B.P (bodyPostD B.P fn (fun e w' => ∃ out cs ρ', OutRel ρ' out e ∧ K out cs ∧ Ext nin ρ ρ' ∧ SatC B.I G ρ' cs F w')) { a1 with defers := [d] } w := by
    refine wp_mono hwp fun e a w hq => ?_
    cases e with
    | normal => obtain ⟨s', ρ3, h1, h2, h3⟩ := hq; exact hend s' ρ3 a w .returning (by simp) h1 h2 h3.drop
    | ret => obtain ⟨s', ρ3, h1, h2, h3⟩ := hq; exact hend s' ρ3 a w .returning (by simp) h1 h2 h3.drop
    | panic ch =>
      obtain ⟨v, s', ρ3, ⟨pv, hpv, h1⟩, h2, rfl, h3⟩ := hq
      rw [show chainOf (v.den ρ3) = [{ v := pv, recovered := false }] by simp [chainOf, hpv]]
      exact hend s' ρ3 a w _ (by simp) h1 h2 h3
    | exit i => obtain ⟨s', ρ3, h1, _⟩ := hq; exact h1.elim
    | goto i => obtain ⟨s', ρ3, h1, _⟩ := hq; exact h1.elim
    | outgrown => exact hq.elim
  refine wp_seq (wp_region_list ?_)
  rw [hops]
  have hw1 : Region.wanted mk (yielded ops a.tmps) = true := by simp [Region.wanted, hmg]
  simp only [wpList]
  rw [if_pos hw1]
  refine .inl ?_
  have hmrun' : (execOp a.eval mk).run (cxOf B G fn.ntmps nin pl).P w = .ok (.value ((SV.fn (.func g) [] caps).den ρ2)) w := hmrun
  unfold Oper.wp
  rw [hmrun', Oper.upon_value, hmd, ha1]
  rw [if_pos (by simp [Region.wanted, hdg])]
  refine .inl ?_
  have hdrun' : (execOp a1.eval df).run (cxOf B G fn.ntmps nin pl).P w = .ok (.defer d) w := hdrun
  rw [hdrun', Oper.upon_defer, hdd, hdf0]
  exact hend2
 end
end Sx
/- A value whose blocks are let go; a call beside all that is held; contracts of the library that read memory. -/
namespace Sx
open Go
section
variable {Pd : Type} {B : Base Pd}
theorem fin_forget {G : Gl} {K : Out → List (Chunk Pd) → Prop} {nin : Nat} {cs : List (Chunk Pd)} (f : SV → Out) (v : SV) (hf : ∀ ρ e, OutRel ρ (f v) e → OutRel ρ (f (.raw (v.den ρ))) e) (h : ∀ u, Fin B G K nin (f (.raw u)) cs) : Fin B G K nin (f v) cs := by
  intro ρ F w hs
  obtain ⟨out', cs', ρ', h1, h2, h3, h4⟩ := h (v.den ρ) ρ F w hs
  exact ⟨out', cs', ρ', h1, h2, fun e he => h3 e (hf ρ e he), h4⟩
/-- a slice at a real address -/
def slG (u : Bool × Nat × Nat × Nat × Nat) : SV := .gsl u.1 u.2.1 u.2.2.1 1 u.2.2.2.1 u.2.2.2.2
theorem slG_any (p : Bool) (g o len cap : Nat) : ∃ u, ∀ ρ, (slG u).den ρ = .slice (if p then some ⟨g, o, none⟩ else none) len cap := by
  obtain ⟨off, h, _⟩ := gad_len ⟨g, o, none⟩ len (fun _ => rfl)
  exact ⟨(p, g, off, len, cap), fun ρ => by simp only [slG, SV.den]; rw [show gad g off len = ⟨g, o, none⟩ from h]⟩
theorem fin_forgetS {G : Gl} {K : Out → List (Chunk Pd) → Prop} {nin : Nat} {cs : List (Chunk Pd)} {p : Bool} {id wd lo len cap : Nat} (f : SV → Out) (hf : ∀ ρ x y, x.den ρ = y.den ρ → ∀ e, OutRel ρ (f x) e → OutRel ρ (f y) e) (h : ∀ u, Fin B G K nin (f (slG u)) cs) : Fin B G K nin (f (.vec p id wd lo len cap)) cs := by
  intro ρ F w hs
  obtain ⟨u, hu⟩ := slG_any p (ρ id) (lo * wd) len cap
  obtain ⟨out', cs', ρ', h1, h2, h3, h4⟩ := h u ρ F w hs
  exact ⟨out', cs', ρ', h1, h2, fun e he => h3 e (hf ρ (.vec p id wd lo len cap) (slG u) ((hu ρ).symm) e he), h4⟩
def frz (w : World) : Gl := ⟨w.heap.size, fun b => w.heap[b]?, io w⟩
theorem Sat.frz (w : World) : Sat (frz w) [anyP] w := ⟨Nat.le_refl _, ⟨rfl, fun _ _ => rfl⟩, ⟨fun _ => none, trivial, fun _ _ e => by simp at e, trivial⟩⟩
theorem Sat.beside {G : Gl} {Ps Qs : List HP} {w w' : World} (h : Sat G Ps w) (h' : Sat (Sx.frz w) (Qs ++ [anyP]) w') : Sat G (Qs ++ Ps) w' := by
  have hsz : w.heap.size ≤ w'.heap.size := h'.size
  refine ⟨Nat.le_trans h.size hsz, ⟨h'.old.io.trans h.old.io, fun b hb => ?_⟩, ?_⟩
  · have hb2 : b < w.heap.size := Nat.lt_of_lt_of_le hb h.size
    rw [h'.old.old b hb2]; exact h.old.old b hb
  · have hsub : ∀ b o, hp w b = some o → hp w' b = some o ∧ ¬ (fun _ : Nat => False) b := by
      intro b o e
      have hb : b < w.heap.size := (Array.getElem?_eq_some_iff.1 e).1
      refine ⟨?_, id⟩
      have := h'.old.old b hb
      simp only [hp, Sx.frz] at this e ⊢
      rw [this]; exact e
    have h1 : SatR (Qs ++ [anyP]) (fun b => (fun _ : Nat => False) b ∨ (hp w b).isSome = true) (hp w') := h'.sep.anti fun b x => by
      rcases x with x | x
      · exact x.elim
      · obtain ⟨o, e⟩ := isSome_ex x
        exact (Array.getElem?_eq_some_iff.1 e).1
    have h2 := SatR.flat_aux h.sep hsub h1
    have h3 : SatR (Ps ++ (Qs ++ [anyP])) (fun b => b < G.base) (hp w') := h2.anti fun b hb => .inr ⟨hb, by
      have hb2 : b < w.heap.size := Nat.lt_of_lt_of_le hb h.size
      simp [hp, hb2]⟩
    have h4 : SatR (anyP :: (Qs ++ Ps)) (fun b => b < G.base) (hp w') := h3.perm (by
      refine (List.perm_append_comm (l₁ := Ps)).trans ?_
      rw [List.append_assoc]
      exact (List.perm_append_comm (l₁ := Qs)).trans (by
        simp only [List.cons_append, List.nil_append]
        exact List.Perm.cons _ List.perm_append_comm))
    exact h4.tail
/-- a call of a function whose trees lie in what is held now -/
theorem call_frozen {X : Cx Pd} {f : FuncId} {nout : Nat} {post : (Out → List (Chunk Pd) → Prop) → Prop} {fo : Operand} {as : Array Operand} {ts : Array TypeId} {type : TypeId} {cargs : List SV} {cs : List (Chunk Pd)} {n : Nat} {cont : Out → List (Chunk Pd) → Nat → Prop}
    (hcall : ∀ as w, (callFunc f as).run B.P w = .ok (.enter f as) w)
    (h : ∀ ρ F w, SatC B.I X.G ρ cs F w → ∃ args, SV.denL ρ cargs = SV.denL ρ args ∧ Triple ⟨B.P, B.I, B.ty, fun G' => G' = frz w⟩ f 0 nout args [] post)
    (hcs : call (belowB n) cs = true) (hk : post fun out cs' => cont (outRen (sg [] n) out) (csRen (sg [] n) cs' ++ cs) (n + nout)) (hX : X.P = B.P ∧ X.I = B.I := by exact ⟨rfl, rfl⟩) :
    NodeX X (.call ⟨.value fo, as, ts⟩) type (.fn (.func f) [] [] :: cargs) cs n cont := by
  intro ρ F w ρe o ho hty hv hs
  obtain ⟨hP, hI⟩ := hX
  rw [hI] at hs
  obtain ⟨args, hden, hT⟩ := h ρ F w hs
  obtain ⟨dst, op, ty', pos, after, guard⟩ := o
  simp only at ho
  subst ho
  have hops : (Op.call ⟨.value fo, as, ts⟩).operands.toList = fo :: as.toList := by simp [Op.operands, Call.operands]
  rw [hops] at hv
  simp only [List.map_cons, SV.denL, List.cons.injEq, SV.den] at hv
  obtain ⟨hfo, has⟩ := hv
  have has' : as.map ρe = (SV.denL ρ args).toArray := by rw [← hden, ← has]; apply Array.ext'; simp
  have hrun : (execOp ρe ⟨dst, .call ⟨.value fo, as, ts⟩, ty', pos, after, guard⟩).run X.P w = .ok (.enter f (SV.denL ρ args).toArray) w := by
    simp [execOp, resolve, hfo, has', Deferred.ofValue, invoke, hP, hcall]
  rw [hrun]
  simp only [Upon, hP, hI]
  refine (hT.goes (frz w) rfl _ hk ρ anyP w (Sat.frz w)).mono fun e w' ⟨out, cs', ρ', h1, h2, _, h4⟩ => ?_
  let ρ2 : Nat → Nat := fun j => if j < n then ρ j else ρ' (j - n)
  have hext : Ext n ρ ρ2 := fun i hi => by simp [ρ2, hi]
  have hcomp : (fun i => ρ2 (sg [] n i)) = ρ' := by
    funext i
    simp only [sg, ρ2, List.getElem?_nil, List.length_nil, Nat.sub_zero]
    rw [if_neg (by omega)]
    congr 1; omega
  refine ⟨_, _, _, ρ2, OutRel_ren (ρ := ρ2) (f := sg [] n) (by rw [hcomp]; exact h1), Nat.le_add_right _ _, hext, ?_, h2⟩
  have h5 : SatC B.I (frz w) ρ2 (csRen (sg [] n) cs') anyP w' := SatC.renI.2 (by rw [hcomp]; exact h4)
  have h6 : SatC B.I X.G ρ2 cs F w := hs.congr hcs fun i hi => (hext i (belowB_lt hi)).symm
  have h7 := Sat.beside h6 h5
  unfold SatC
  rw [List.map_append, List.append_assoc]
  exact h7
/-- a function of the library that reads what is held -/
theorem triple_libM {f : FuncId} {nin : Nat} {args : List SV} {pre : List (Chunk Pd)} {post : (Out → List (Chunk Pd) → Prop) → Prop} (out : Out) (hpost : ∀ K, post K → K out pre) (hcall : ∀ as w, (callFunc f as).run B.P w = .ok (.enter f as) w)
    (hl : ∀ G, B.GOk G → ∀ (ρ : Nat → Nat) (F : HP) (w : World), SatC B.I G ρ pre F w →
      Calls B.P f (SV.denL ρ args).toArray w fun e w' => OutRel ρ out e ∧ w.heap.size ≤ w'.heap.size ∧ (∀ b, b < w.heap.size → w'.heap[b]? = w.heap[b]?) ∧ io w' = io w) :
    Triple B f nin nin args pre post := by
  refine ⟨hcall, fun G hG K hK ρ F w hs => (hl G hG ρ F w hs).mono ?_⟩
  rintro e w' ⟨h1, h2, h3, h4⟩
  exact ⟨out, pre, ρ, h1, hpost K hK, Ext.refl _ _, hs.grow h2 h3 h4⟩
theorem SatC.arrAt {I : Pd → List Nat → HP} {α : Type} {G : Gl} {ρ : Nat → Nat} {cs : List (Chunk Pd)} {F : HP} {w : World} {wr : Bool} {id : Nat} {T : TypeId} {enc : α → List Lit} {xs : List α} (h : SatC I G ρ cs F w) (hm : (Chunk.arr true wr id T enc xs : Chunk Pd) ∈ cs) :
    ∃ fz, w.heap[ρ id]? = some (.cells (arrCells enc xs) T fz) := by
  obtain ⟨g, hg, hsub⟩ := h.mem hm
  obtain ⟨fz, _, hp⟩ := hg rfl
  exact ⟨fz, hsub _ _ hp.1⟩
 end
end Sx
/- The check of a plan, node by node. -/
namespace Sx
open Go
theorem ok_take {ops : Array Oper} {i f : Nat} {p : Plan} {L L' : Array Bool} (h1 : (Region.free .any ops L i && (Region.ready .any ops L).contains i) = true) (hL : L.setIfInBounds i true = L') (h2 : p.ok ops f L' = true) : (Plan.take i p).ok ops (f + 1) L = true := by
  subst hL
  rw [Plan.ok, h1, h2]; rfl
theorem okL_nil {ops : Array Oper} {f : Nat} {L : Array Bool} : Plan.okL ops [] f L = true := by rw [Plan.okL]
theorem okL_cons {ops : Array Oper} {i f : Nat} {p : Plan} {r : List (Nat × Plan)} {L L' : Array Bool} (hL : L.setIfInBounds i true = L') (h : p.ok ops f L' = true) (hr : Plan.okL ops r f L = true) : Plan.okL ops ((i, p) :: r) f L = true := by
  subst hL
  rw [Plan.okL, h, hr]; rfl
theorem ok_all {ops : Array Oper} {f : Nat} {l : List (Nat × Plan)} {L : Array Bool} (h1 : (decide (Region.ready .any ops L = l.map (·.1)) && !l.isEmpty) = true) (h2 : Plan.okL ops l f L = true) : (Plan.all l).ok ops (f + 1) L = true := by
  rw [Plan.ok, h1, h2]; rfl
/-- the regions that draw -/
def regs : Code → List (Nat × Array Oper)
  | .region id ops draw => if draw then [(id, ops)] else []
  | .seq a b => regs a ++ regs b
  | .cond _ a b => regs a ++ regs b
  | .block _ b | .loop b | .scope b => regs b
  | _ => []
def chkR (pl : List (Nat × Plan)) (x : Nat × Array Oper) : Bool := match planAt pl x.1 with
  | some p => Region.noSelect x.2 && p.ok x.2 x.2.size (Array.replicate x.2.size false)
  | none => false
theorem plansOk_regs (pl : List (Nat × Plan)) (c : Code) : plansOk pl c = (regs c).all (chkR pl) := by
  induction c <;> simp_all [plansOk, regs, chkR]
  rename_i id ops draw
  cases draw
  · rfl
  · simp only [if_true, List.all_cons, List.all_nil, Bool.and_true, chkR, Bool.not_true, Bool.false_or]
    cases planAt pl id <;> rfl
theorem plansOk_one {pl : List (Nat × Plan)} {c : Code} {id n : Nat} {ops : Array Oper} {p : Plan} {L : Array Bool} (h : regs c = [(id, ops)]) (hp : planAt pl id = some p) (hs : Region.noSelect ops = true) (hn : ops.size = n ∧ Array.replicate n false = L) (hok : p.ok ops n L = true) : plansOk pl c = true := by
  rw [plansOk_regs, h]
  simp only [List.all_cons, List.all_nil, Bool.and_true, chkR, hp, hs, Bool.true_and]
  rw [hn.1, hn.2]; exact hok
end Sx
/- A function's body in named pieces. -/
namespace Sx
open Go
def cdL : Code → Code
  | .seq a _ => a
  | .cond _ a _ => a
  | .block _ b | .loop b | .scope b => b
  | c => c
def cdR : Code → Code
  | .seq _ b => b
  | .cond _ _ b => b
  | c => c
end Sx
