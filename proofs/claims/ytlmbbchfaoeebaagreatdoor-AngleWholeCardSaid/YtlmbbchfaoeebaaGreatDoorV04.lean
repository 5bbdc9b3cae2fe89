/-
  Part of a proof.
-/
import Derived.Test.YtlmbbchfaoeebaaGreatDoorV03
set_option linter.unusedVariables false
set_option linter.unusedSimpArgs false
/- Ranges over a function: the rule. -/
namespace Sx
open Go
section
variable {G : Gl} {Ps : List HP} {w : World}
theorem Sat.exStar {ι : Type _} {Qs : ι → List HP} {p : ι → Prop} (h : Sat G ((fun h => ∃ i, p i ∧ starL (Qs i) h) :: Ps) w) : ∃ i, p i ∧ Sat G (Qs i ++ Ps) w := by
  obtain ⟨a, b, h1, ⟨i, hp, hq⟩, s, t⟩ := h
  exact ⟨i, hp, a, b, SatR.flat ⟨h1, hq, s, t⟩⟩
theorem Sat.inStar {Qs : List HP} {A : HP} (hA : ∀ h, starL Qs h → A h) (h : Sat G (Qs ++ Ps) w) : Sat G (A :: Ps) w := by
  obtain ⟨a, b, s⟩ := h
  exact ⟨a, b, SatR.map1 hA s.fold⟩
theorem Sat.foldEnd {A Qs : List HP} (h : Sat G (A ++ Qs) w) : Sat G (A ++ [starL Qs]) w := by
  obtain ⟨a, b, s⟩ := h
  have h2 : SatR (Qs ++ A) _ _ := s.perm List.perm_append_comm
  exact ⟨a, b, h2.fold.perm (List.perm_append_singleton _ _).symm⟩
theorem Sat.unfoldEnd {A Qs : List HP} (h : Sat G (A ++ [starL Qs]) w) : Sat G (A ++ Qs) w := by
  obtain ⟨a, b, s⟩ := h
  have h1 : SatR (starL Qs :: A) _ _ := s.perm (List.perm_append_singleton _ _)
  exact ⟨a, b, h1.flat.perm List.perm_append_comm⟩
theorem Sat.tail {A : HP} (h : Sat G (A :: Ps) w) : Sat G Ps w := ⟨h.size, h.old, h.sep.tail⟩
theorem Sat.putObj {b : Nat} {o o' : Obj} (h : Sat G (pts b o :: Ps) w) : Sat G (pts b o' :: Ps) (w.putObj b o') := h.put rfl rfl
 end

section
variable {Pd : Type} {B : Base Pd} {G : Gl}
def penv (e : Env) : List Tmp → List SV → Env
  | t :: ts, v :: vs => penv (eset e t v) ts vs
  | _, _ => e
def psOk (sz : Nat) : List Tmp → Bool
  | [] => true
  | t :: ts => Nat.ble (t + 1) sz && psOk sz ts
theorem penv_ok {ρ : Nat → Nat} : ∀ {ts : List Tmp} {vs : List SV} {e : Env} {tmps : Array Value} {ds : List Deferred} {sz : Nat}, EnvOk ρ e { tmps := tmps, defers := ds } → psOk sz ts = true → sz ≤ tmps.size →
    EnvOk ρ (penv e ts vs) { tmps := (ts.zip (SV.denL ρ vs)).foldl (fun tmps (t, a) => tmps.setIfInBounds t a) tmps, defers := ds } ∧ ((ts.zip (SV.denL ρ vs)).foldl (fun tmps (t, a) => tmps.setIfInBounds t a) tmps).size = tmps.size
  | [], vs, e, tmps, ds, sz, h, _, _ => by
    cases vs <;> simp [penv, SV.denL] <;> exact h
  | t :: ts, [], e, tmps, ds, sz, h, _, _ => by simp [penv, SV.denL]; exact h
  | t :: ts, v :: vs, e, tmps, ds, sz, h, hp, hs => by
    simp only [psOk, Bool.and_eq_true] at hp
    have ht := Nat.le_of_ble_eq_true hp.1
    have h1 := h.put (d := t) (v := v) (by simp only; omega)
    simp only [Act.put] at h1
    obtain ⟨h2, h3⟩ := penv_ok (vs := vs) h1 hp.2 (by simpa using hs)
    simp only [penv, SV.denL, List.zip_cons_cons, List.foldl_cons]
    exact ⟨h2, by rw [h3]; simp⟩
def jumpOf : SX → Option Code
  | .ret => some .ret
  | .exit i => some (.exit i)
  | _ => none

/-- where a round ends -/
def roundEnd (B : Base Pd) (G : Gl) (n : Nat) {σT αT : Type} (csOf : σT → List (Chunk Pd)) (go : σT → αT → σT → Prop) (KD : SX → σT → αT → List (Chunk Pd) → Prop) (KP : SV → σT → αT → List (Chunk Pd) → Prop) (st : σT) (x : αT) : SX → List (Chunk Pd) → Prop
  | .normal, cs => Fin B G (fun _ cs' => ∃ st', go st x st' ∧ cs' = csOf st') n (.ret (.tuple [])) cs
  | .panic v, cs => Fin B G (fun out cs' => ∃ v', out = .pan v' ∧ KP v' st x cs') n (.pan v) cs
  | .goto _, _ => False
  | .ret, cs => Fin B G (fun _ cs' => KD .ret st x cs') n (.ret (.tuple [])) cs
  | .exit i, cs => Fin B G (fun _ cs' => KD (.exit i) st x cs') n (.ret (.tuple [])) cs
/-- what an iterator comes to -/
def IterPost {σT αT : Type} (ok : σT → αT → Prop) (fin : σT → Prop) (preI : List (Chunk Pd)) (S : σT → HP) (D : σT → αT → HP) (E : σT → αT → Value → HP) (K2 : Out → List (Chunk Pd) → Prop) : Prop :=
  (∀ st, fin st → K2 (.ret (.tuple [])) (preI ++ [.own 0 (S st)])) ∧ (∀ st x, ok st x → K2 (.ret (.tuple [])) (preI ++ [.own 0 (D st x)])) ∧ (∀ st x v, ok st x → K2 (.pan (.raw v)) (preI ++ [.own 0 (E st x v)]))

def RangeAt (B : Base Pd) (G : Gl) (K : Out → List (Chunk Pd) → Prop) (nin : Nat) (f : FuncId) (fn : Func) (pl : List (Nat × Plan)) (blk post : Code) (s : St Pd) : Prop :=
  ∀ ρ0 ρ F a w, Ext nin ρ0 ρ → Rel (cxOf B G fn.ntmps nin pl) ρ s F a w → ∀ Q, Q = bodyPostM Fence.wide 0 B.P fn (fun e w' => ∃ out cs ρ', OutRel ρ' out e ∧ K out cs ∧ Ext nin ρ0 ρ' ∧ SatC B.I G ρ' cs F w') →
    wpB f B.P blk (Exit.then (wpB f B.P post Q) Q) a w

theorem permA {α : Type _} (p r F : α) (J C : List α) : (p :: r :: (J ++ C ++ [F])).Perm ((C ++ [p]) ++ (J ++ [r, F])) := by
  classical
  rw [List.perm_iff_count]
  intro a
  simp only [List.count_cons, List.count_append, List.count_nil]
  omega
/-- the mark is taken, where the function is left -/
theorem leave_mark {K : Out → List (Chunk Pd) → Prop} {nin sz r : Nat} {fn : Func} {pl : List (Nat × Plan)} {s : St Pd} {ρ0 ρ : Nat → Nat} {F : HP} {a : Act} {w : World} {u : FrameMode} (hu : u ≠ .run)
    (hr : Rel (cxM B G sz nin pl [{ target := .collected r, args := #[] }]) ρ s (starL [pts r (.deferred (some [])), F]) a w)
    (h : ∀ w', Rel (cxM B G sz nin pl [{ target := .collected r, args := #[] }]) ρ s F a w' →
      LeavesIn Fence.wide 0 B.P fn a.tmps (fun e w' => ∃ out cs ρ', OutRel ρ' out e ∧ K out cs ∧ Ext nin ρ0 ρ' ∧ SatC B.I G ρ' cs F w') [] u w') :
    LeavesInM Fence.wide 0 B.P fn a.tmps (fun e w' => ∃ out cs ρ', OutRel ρ' out e ∧ K out cs ∧ Ext nin ρ0 ρ' ∧ SatC B.I G ρ' cs F w') a.defers u w := by
  have hd : a.defers = [{ target := .collected r, args := #[] }] := hr.dfs.1
  rw [hd]
  have hm : Sat G (s.cs.map (Chunk.den B.I ρ) ++ [pts r (.deferred (some [])), F]) w := Sat.unfoldEnd hr.mem
  have hm2 : Sat G (pts r (.deferred (some [])) :: (s.cs.map (Chunk.den B.I ρ) ++ [F])) w := hm.perm List.perm_middle
  refine ⟨hu, .inl ⟨r, _, rfl, run_takeDeferred hm2.get, ?_⟩⟩
  have hm3 : Sat G (s.cs.map (Chunk.den B.I ρ) ++ [F]) (w.putObj r (.deferred none)) := hm2.putObj.tail
  exact h _ ⟨hr.env, hm3, hr.size, hr.dfs, hr.nin⟩

theorem fin_leaves (hB : B.ok) {K : Out → List (Chunk Pd) → Prop} {nin sz : Nat} {fn : Func} {pl : List (Nat × Plan)} {D : List Deferred} {s : St Pd} {ρ0 ρ : Nat → Nat} {F : HP} {a : Act} {w : World} {e : SX} (he : e = .normal ∨ e = .ret)
    (hk : finK B.ty fn.results.toList (Fin B G K nin) e s) (hext : Ext nin ρ0 ρ) (hr : Rel (cxM B G sz nin pl D) ρ s F a w) :
    LeavesIn Fence.wide 0 B.P fn a.tmps (fun e w' => ∃ out cs ρ', OutRel ρ' out e ∧ K out cs ∧ Ext nin ρ0 ρ' ∧ SatC B.I G ρ' cs F w') [] .returning w := by
  have hk : match resOf B.ty s fn.results.toList with | some l => Fin B G K nin (.ret (resV l)) s.cs | none => False := by
    rcases he with rfl | rfl <;> exact hk
  split at hk
  · rename_i l hl
    have h3 := results_run (X := cxM B G sz nin pl D) hB.ty hr hl
    obtain ⟨out', cs', ρ', h4, h5, h6, h7⟩ := hk ρ F w hr.mem
    exact ⟨_, h3, out', cs', ρ', h6 _ rfl, h4, hext.trans h5, h7⟩
  · exact hk.elim

theorem range_at (hB : B.ok) {f : FuncId} {fn : Func} (hf : B.P.funcs[f]? = some fn) {K : Out → List (Chunk Pd) → Prop} {nin : Nat} {pl : List (Nat × Plan)} {tb : Tab} (htb : B.ty = tb) {s : St Pd}
    {bid : Nat} {g : Operand} {ps : Array Tmp} {assign body post : Code} {f2 : FuncId} {a0 b0 : List SV} (hg : evO s.env g = some (.fn (.func f2) a0 b0))
    {σT αT : Type} (csOf : σT → List (Chunk Pd)) (n2 : Nat) (av : αT → List SV) (argv : αT → List Value) (ok : σT → αT → Prop) (go : σT → αT → σT → Prop)
    (KD : SX → σT → αT → List (Chunk Pd) → Prop) (KP : SV → σT → αT → List (Chunk Pd) → Prop) (fin : σT → Prop) (st0 : σT)
    {nin2 nout2 : Nat} {args2 : Value → List SV} {preI rest2 : List (Chunk Pd)} (σ : List Nat)
    (hT : ∀ yv S D E, YOk B G yv argv ok go S D E → Triple ⟨B.P, B.I, B.ty, fun G' => G' = G⟩ f2 nin2 nout2 (args2 yv) (preI ++ [.own 0 (S st0)]) (IterPost ok fin preI S D E))
    (hn2 : Nat.ble s.n n2 = true) (henv : eall (belowB s.n) s.env = true) (hav : ∀ ρ x, SV.denL ρ (av x) = argv x) (hlen : ∀ x, (av x).length = ps.size) (hps : psOk (fn.ntmps % 65536) ps.toList = true)
    (hlenσ : σ.length = nin2) (hargs : ∀ yv, a0 ++ [.raw yv] ++ b0 = SV.renL (sg σ s.n) (args2 yv)) (hp : pickC (idsOf (csRen (sg σ s.n) preI ++ csOf st0)) s.cs = some (csRen (sg σ s.n) preI ++ csOf st0, rest2))
    (hpreI : call (belowB nin2) preI = true) (hpreJ : call (belowB s.n) (csRen (sg σ s.n) preI) = true) (hpla : plansOk pl assign = true) (hplb : plansOk pl body = true) (hplp : plansOk pl post = true)
    (hround : ∀ l st x, ok st x → ∀ W bi bc bs bk bu bb bo bg bl bp bn be Ncond Nob Nop Nloop Nscope, Nodes (cxR B G fn.ntmps s.n pl l) W ⟨bi, bc, bs, bk, bu, bb, bo, bg, bl, bp, bn, be⟩ Ncond Nob Nop Nloop Nscope →
      ∀ Nend : SX → List (Chunk Pd) → Prop, (∀ e cs, roundEnd B G s.n csOf go KD KP st x e cs → Nend e cs) → (∀ e cs, Nend e cs → roundEnd B G s.n csOf go KD KP st x e cs) →
      run W ⟨bi, bc, bs, bk, bu, bb, bo, bg, bl, bp, bn, be⟩ tb Ncond Nob Nop Nloop Nscope (fn.ntmps % 65536) s.n pl assign ⟨penv s.env ps.toList (av x), csOf st, n2⟩ (fun e s1 => match e with
        | .normal => run W ⟨bi, bc, bs, bk, bu, bb, bo, bg, bl, bp, bn, be⟩ tb Ncond Nob Nop Nloop Nscope (fn.ntmps % 65536) s.n pl body s1 (fun e s2 => Nend e s2.cs)
        | _ => False))
    (hpost : ∀ cs, ((∃ st, fin st ∧ cs = csOf st) ∨ (∃ st x, ok st x ∧ KD (.exit bid) st x cs)) → ∀ D W bi bc bs bk bu bb bo bg bl bp bn be Ncond Nob Nop Nloop Nscope, Nodes (cxM B G fn.ntmps nin pl D) W ⟨bi, bc, bs, bk, bu, bb, bo, bg, bl, bp, bn, be⟩ Ncond Nob Nop Nloop Nscope →
      ∀ Nfin : Out → List (Chunk Pd) → Prop, (∀ out cs, Fin B G K nin out cs → Nfin out cs) → (∀ out cs, Nfin out cs → Fin B G K nin out cs) →
      run W ⟨bi, bc, bs, bk, bu, bb, bo, bg, bl, bp, bn, be⟩ tb Ncond Nob Nop Nloop Nscope (fn.ntmps % 65536) nin pl post ⟨s.env, csRen (sg σ s.n) preI ++ cs, n2⟩ (finK tb fn.results.toList Nfin))
    (hdone : ∀ st x cs, ok st x → KD .ret st x cs → finK tb fn.results.toList (Fin B G K nin) .ret ⟨s.env, csRen (sg σ s.n) preI ++ cs, n2⟩)
    (hexit : ∀ st x cs j, ok st x → KD (.exit j) st x cs → j = bid)
    (hpan : ∀ st x v cs, ok st x → KP v st x cs → Fin B G K nin (.pan v) (csRen (sg σ s.n) preI ++ cs)) :
    RangeAt B G K nin f fn pl (.block bid (.rangeFunc g ps assign body)) post s := by
  subst htb
  rintro ρ0 ρ F a w he hr _ rfl
  have hn2 := Nat.le_of_ble_eq_true hn2
  have hsz : fn.ntmps % 65536 ≤ a.tmps.size := by have := hr.size; simp only [cxOf] at this; omega
  have hdf : a.defers = [] := hr.dfs.1
  have hnin : nin ≤ s.n := hr.nin
  generalize hpJ : csRen (sg σ s.n) preI = preJ at hp hpreJ hpost hdone hpan
  have hs0 : SatC B.I G ρ (preJ ++ csOf st0) F w := SatC.appL (hr.mem.perm (pickC_perm hp))
  refine wpB_block (wpB_range ?_)
  obtain ⟨r, hrr⟩ : ∃ r, r = w.heap.size := ⟨_, rfl⟩
  obtain ⟨l, hl⟩ : ∃ l, l = w.heap.size + 1 := ⟨_, rfl⟩
  obtain ⟨rec0, hrec⟩ : ∃ rec0 : Loop, rec0 = { state := .ready, pending := none, fn := f, tmps := a.tmps, params := ps, assign := assign, body := body, defers := w.heap.size } := ⟨_, rfl⟩
  have henter := run_enterLoop_outer (P := B.P) (w := w) f a.tmps ps assign body
  rw [← hrec, ← hl, ← hrr] at henter
  have hw1 : Sat G (pts l (.loop rec0) :: pts r (.deferred (some [])) :: ((preJ ++ csOf st0).map (Chunk.den B.I ρ) ++ [F])) ((w.alloc (.deferred (some []))).alloc (.loop rec0)) := by
    have h1 := Sat.new hs0 (.deferred (some []))
    have h2 := Sat.new h1 (.loop rec0)
    have e2 : ({ w with heap := w.heap.push (.deferred (some [])) } : World).heap.size = w.heap.size + 1 := by simp
    rw [e2, ← hl, ← hrr] at h2
    exact h2
  generalize ((w.alloc (.deferred (some []))).alloc (.loop rec0)) = w1 at henter hw1
  -- what the rounds keep
  let S : σT → HP := fun st h => ∃ ρ' : Nat → Nat, Ext s.n ρ ρ' ∧ starL ((csOf st).map (Chunk.den B.I ρ') ++ [pts l (.loop rec0)]) h
  let D : σT → αT → HP := fun st x h => ∃ y : (Nat → Nat) × SX × List (Chunk Pd) × Code, (Ext s.n ρ y.1 ∧ KD y.2.1 st x y.2.2.1 ∧ jumpOf y.2.1 = some y.2.2.2) ∧ starL (y.2.2.1.map (Chunk.den B.I y.1) ++ [pts l (.loop { rec0 with state := .done, pending := some y.2.2.2 })]) h
  let E : σT → αT → Value → HP := fun st x u h => ∃ y : (Nat → Nat) × SV × List (Chunk Pd), (Ext s.n ρ y.1 ∧ KP y.2.1 st x y.2.2 ∧ u = y.2.1.den y.1) ∧ starL (y.2.2.map (Chunk.den B.I y.1)) h
  have hY : YOk B G (.func (.yield l) #[] #[]) argv ok go S D E := by
    refine ⟨l, rfl, fun st x hok Ps w hs => ?_⟩
    obtain ⟨ρ', he', hs'⟩ := Sat.exStar (ι := Nat → Nat) (Qs := fun ρ' => (csOf st).map (Chunk.den B.I ρ') ++ [pts l (.loop rec0)]) (p := fun ρ' => Ext s.n ρ ρ') hs
    rw [List.append_assoc] at hs'
    have hget := (hs'.perm (List.perm_middle (l₁ := (csOf st).map (Chunk.den B.I ρ')) (l₂ := Ps))).get
    have hasz : (argv x).toArray.size = rec0.params.size := by
      have h1 := hlen x
      have h2 := hav ρ x
      rw [hrec, ← h2, SV.denL_eq]; simp [h1]
    have hfn : rec0.fn = f := by rw [hrec]
    have has : rec0.assign = assign := by rw [hrec]
    have hbo : rec0.body = body := by rw [hrec]
    have htm : rec0.tmps = a.tmps := by rw [hrec]
    have hpa : rec0.params = ps := by rw [hrec]
    refine ⟨rec0.fn, _, rec0.assign, rec0.body, run_yield hget hasz, ?_⟩
    rw [hfn, has, hbo, htm, hpa]
    let X := cxR B G fn.ntmps s.n pl l
    have hN : Nodes X IntKind.wrap bitsOf (fun b x y => (b = true → x ()) ∧ (b = false → y ())) (fun l k => obsP l ∧ k ()) (NodeX X) (LoopX X) (ScopeX X) := ⟨rfl, rfl, rfl, rfl, rfl, rfl, rfl⟩
    have hrunA := hround l st x hok _ _ _ _ _ _ _ _ _ _ _ _ _ _ _ _ _ _ hN (roundEnd B G s.n csOf go KD KP st x) (fun _ _ h => h) (fun _ _ h => h)
    have henv' : EnvOk ρ' s.env { tmps := a.tmps, defers := [] } := by
      have h1 : EnvOk ρ' s.env a := hr.env.congr henv fun i hi => (he' i (belowB_lt hi)).symm
      exact h1
    obtain ⟨hpe1, hpe2⟩ := penv_ok (vs := av x) henv' hps hsz
    have hfold : (ps.zip (argv x).toArray).foldl (fun tmps (t, a) => tmps.setIfInBounds t a) a.tmps = (ps.toList.zip (SV.denL ρ' (av x))).foldl (fun tmps (t, a) => tmps.setIfInBounds t a) a.tmps := by
      rw [hav ρ' x, ← Array.foldl_toList]; simp
    rw [hfold]
    have hrel : Rel X ρ' ⟨penv s.env ps.toList (av x), csOf st, n2⟩ (starL (pts l (.loop rec0) :: Ps)) { tmps := (ps.toList.zip (SV.denL ρ' (av x))).foldl (fun tmps (t, a) => tmps.setIfInBounds t a) a.tmps, defers := [] } w :=
      ⟨hpe1, Sat.foldEnd hs', by show fn.ntmps % 65536 % 65536 ≤ _; rw [hpe2]; omega, ⟨rfl, fun k hk => by simp only [X, cxR] at hk; omega⟩, hn2⟩
    have hwp := run_okI hN hB.ty hB.mixed assign _ _ hpla hrunA ρ' ρ' _ _ w (Ext.refl _ _) hrel
    refine round_of_wp hf (wpIn_mono hwp fun e a1 w1 hq => ?_)
    cases e with
    | normal =>
      obtain ⟨s1, ρ1, hk1, hext1, hr1⟩ := hq
      have hm1 : Sat G (s1.cs.map (Chunk.den B.I ρ1) ++ pts l (.loop rec0) :: Ps) w1 := Sat.unfoldEnd hr1.mem
      have hm1' := hm1.perm (List.perm_middle (l₁ := s1.cs.map (Chunk.den B.I ρ1)) (l₂ := Ps))
      have hbr := run_beginRound (P := B.P) hm1'.get (by rw [hrec])
      refine ⟨_, hbr, ?_⟩
      have hm2 := (hm1'.putObj (o' := .loop { rec0 with state := .busy })).perm (List.perm_middle (l₁ := s1.cs.map (Chunk.den B.I ρ1)) (l₂ := Ps)).symm
      generalize w1.putObj l (.loop { rec0 with state := .busy }) = w2 at hm2
      have hr2 : Rel X ρ1 s1 (starL (pts l (.loop { rec0 with state := .busy }) :: Ps)) a1 w2 := ⟨hr1.env, Sat.foldEnd hm2, hr1.size, hr1.dfs, hr1.nin⟩
      have hwp2 := run_okI hN hB.ty hB.mixed body s1 _ hplb hk1 ρ' ρ1 _ a1 w2 hext1 hr2
      refine wpIn_mono hwp2 fun e a3 w3 hq => ?_
      have jump : ∀ (e : SX) (j : Code) (s3 : St Pd) (ρ3 : Nat → Nat), jumpOf e = some j → Fin B G (fun _ cs' => KD e st x cs') s.n (.ret (.tuple [])) s3.cs → Ext s.n ρ' ρ3 → Rel X ρ3 s3 (starL (pts l (.loop { rec0 with state := .busy }) :: Ps)) a3 w3 →
          ∃ v w', (Instr.endRound l (some j)).run B.P w3 = .ok v w' ∧ ((∃ st', go st x st' ∧ Ending.returned v = .returned (.bool true) ∧ Sat G (S st' :: Ps) w') ∨ (Ending.returned v = .returned (.bool false) ∧ Sat G (D st x :: Ps) w') ∨ (∃ u, Ending.returned v = .panicked (chainOf u) ∧ Sat G (E st x u :: Ps) w')) := by
        intro e j s3 ρ3 hj hk3 hext3 hr3
        obtain ⟨out', cs', ρ4, hkd, he4, _, hs4⟩ := hk3 ρ3 _ w3 hr3.mem
        have hm4 : Sat G (cs'.map (Chunk.den B.I ρ4) ++ pts l (.loop { rec0 with state := .busy }) :: Ps) w3 := Sat.unfoldEnd hs4
        have hm4' := hm4.perm (List.perm_middle (l₁ := cs'.map (Chunk.den B.I ρ4)) (l₂ := Ps))
        refine ⟨_, _, run_endRound (P := B.P) (some j) hm4'.get, .inr (.inl ⟨rfl, ?_⟩)⟩
        have hm5 := (hm4'.putObj (o' := .loop { rec0 with state := .done, pending := some j })).perm (List.perm_middle (l₁ := cs'.map (Chunk.den B.I ρ4)) (l₂ := Ps)).symm
        rw [show cs'.map (Chunk.den B.I ρ4) ++ pts l (.loop { rec0 with state := .done, pending := some j }) :: Ps = (cs'.map (Chunk.den B.I ρ4) ++ [pts l (.loop { rec0 with state := .done, pending := some j })]) ++ Ps by simp] at hm5
        exact Sat.inStar (fun h hst => ⟨⟨ρ4, e, cs', j⟩, ⟨he'.trans (hext3.trans he4), hkd, hj⟩, hst⟩) hm5
      cases e with
      | normal =>
        obtain ⟨s3, ρ3, hk3, hext3, hr3⟩ := hq
        obtain ⟨out', cs', ρ4, ⟨st', hgo, rfl⟩, he4, _, hs4⟩ := hk3 ρ3 _ w3 hr3.mem
        have hm4 : Sat G ((csOf st').map (Chunk.den B.I ρ4) ++ pts l (.loop { rec0 with state := .busy }) :: Ps) w3 := Sat.unfoldEnd hs4
        have hm4' := hm4.perm (List.perm_middle (l₁ := (csOf st').map (Chunk.den B.I ρ4)) (l₂ := Ps))
        refine ⟨_, _, run_endRound (P := B.P) none hm4'.get, .inl ⟨st', hgo, rfl, ?_⟩⟩
        have hre : ({ ({ rec0 with state := .busy } : Loop) with state := if (none : Option Code).isNone then .ready else .done, pending := none } : Loop) = rec0 := by rw [hrec]; rfl
        rw [hre]
        have hm5 := (hm4'.putObj (o' := .loop rec0)).perm (List.perm_middle (l₁ := (csOf st').map (Chunk.den B.I ρ4)) (l₂ := Ps)).symm
        rw [show (csOf st').map (Chunk.den B.I ρ4) ++ pts l (.loop rec0) :: Ps = ((csOf st').map (Chunk.den B.I ρ4) ++ [pts l (.loop rec0)]) ++ Ps by simp] at hm5
        exact Sat.inStar (fun h hst => ⟨ρ4, he'.trans (hext3.trans he4), hst⟩) hm5
      | ret => obtain ⟨s3, ρ3, hk3, hext3, hr3⟩ := hq; exact jump .ret .ret s3 ρ3 rfl hk3 hext3 hr3
      | exit i => obtain ⟨s3, ρ3, hk3, hext3, hr3⟩ := hq; exact jump (.exit i) (.exit i) s3 ρ3 rfl hk3 hext3 hr3
      | goto i => obtain ⟨s3, ρ3, hk3, _⟩ := hq; exact hk3.elim
      | panic ch =>
        obtain ⟨v, s3, ρ3, hk3, hext3, rfl, hr3⟩ := hq
        obtain ⟨out', cs', ρ4, ⟨v', rfl, hkp⟩, he4, ho4, hs4⟩ := hk3 ρ3 _ w3 hr3.mem
        have hm4 : Sat G (cs'.map (Chunk.den B.I ρ4) ++ pts l (.loop { rec0 with state := .busy }) :: Ps) w3 := Sat.unfoldEnd hs4
        have hm5 : Sat G (cs'.map (Chunk.den B.I ρ4) ++ Ps) w3 := (hm4.perm (List.perm_middle (l₁ := cs'.map (Chunk.den B.I ρ4)) (l₂ := Ps))).tail
        have ho : chainOf (v.den ρ3) = chainOf (v'.den ρ4) := ho4 (.panicked (chainOf (v.den ρ3))) rfl
        refine ⟨hr3.dfs.1, .inr (.inr ⟨v'.den ρ4, by rw [ho], Sat.inStar (fun h hst => ⟨⟨ρ4, v', cs'⟩, ⟨he'.trans (hext3.trans he4), hkp, rfl⟩, hst⟩) hm5⟩)⟩
      | outgrown => exact hq.elim
    | exit i => obtain ⟨s1, ρ1, hk1, _⟩ := hq; exact hk1.elim
    | goto i => obtain ⟨s1, ρ1, hk1, _⟩ := hq; exact hk1.elim
    | ret => obtain ⟨s1, ρ1, hk1, _⟩ := hq; exact hk1.elim
    | panic ch => obtain ⟨v, s1, ρ1, hk1, _⟩ := hq; exact hk1.elim
    | outgrown => exact hq.elim
  have hTi := hT _ S D E hY
  -- the function that is ranged over
  have hga : a.eval g = .func (.func f2) (SV.denL ρ a0).toArray (SV.denL ρ b0).toArray := by
    have := evO_den hr.env hg
    rw [this]; simp [SV.den]
  refine ⟨l, [{ target := .collected r, args := #[] }], w1, ⟨.fn (.func f2) (SV.denL ρ b0).toArray, (SV.denL ρ a0).toArray ++ #[.func (.yield l) #[] #[]]⟩, w1, f2, (SV.denL ρ (a0 ++ [.raw (.func (.yield l) #[] #[])] ++ b0)).toArray, w1, henter, ?_, ?_, ?_⟩
  · have e1 : Act.eval a (.const (.func (.yield l) #[] #[])) = .func (.yield l) #[] #[] := rfl
    simp [resolve, hga, e1, Deferred.ofValue]
  · simp only [invoke]
    rw [hTi.call]
    congr 2
    apply Array.ext'
    simp [SV.denL_eq, SV.den]
  rw [hargs, SV.denL_ren]
  have hpre2 : SatC B.I G (fun i => ρ (sg σ s.n i)) (preI ++ [.own 0 (S st0)]) (starL [pts r (.deferred (some [])), F]) w1 := by
    have e1 : (preI ++ [.own 0 (S st0)] : List (Chunk Pd)).map (Chunk.den B.I (fun i => ρ (sg σ s.n i))) = preJ.map (Chunk.den B.I ρ) ++ [S st0] := by
      rw [List.map_append, ← hpJ, csRen_den]; rfl
    unfold SatC
    rw [e1]
    refine Sat.foldEnd ?_
    have h1 : Sat G (((csOf st0).map (Chunk.den B.I ρ) ++ [pts l (.loop rec0)]) ++ (preJ.map (Chunk.den B.I ρ) ++ [pts r (.deferred (some [])), F])) w1 := by
      refine hw1.perm ?_
      simp only [List.map_append]
      exact permA _ _ _ _ _
    have h2 : Sat G (S st0 :: (preJ.map (Chunk.den B.I ρ) ++ [pts r (.deferred (some [])), F])) w1 := Sat.inStar (fun h hst => ⟨ρ, Ext.refl _ _, hst⟩) h1
    refine h2.perm ?_
    rw [List.append_assoc]
    exact List.perm_middle.symm
  let K2 : Out → List (Chunk Pd) → Prop := fun out cs => (∃ st, fin st ∧ out = .ret (.tuple []) ∧ cs = preI ++ [.own 0 (S st)]) ∨ (∃ st x, ok st x ∧ out = .ret (.tuple []) ∧ cs = preI ++ [.own 0 (D st x)]) ∨ (∃ st x v, ok st x ∧ out = .pan (.raw v) ∧ cs = preI ++ [.own 0 (E st x v)])
  have hK2 : IterPost ok fin preI S D E K2 := ⟨fun st h => .inl ⟨st, h, rfl, rfl⟩, fun st x h => .inr (.inl ⟨st, x, h, rfl, rfl⟩), fun st x v h => .inr (.inr ⟨st, x, v, h, rfl, rfl⟩)⟩
  refine (hTi.goes G rfl K2 hK2 _ _ w1 hpre2).mono fun e w3 ⟨out, cs3, ρ3, ho, hk3, he3, hs3⟩ => ?_
  -- the chunks by the caller's names
  have back : ∀ A : HP, SatC B.I G ρ3 (preI ++ [.own 0 A]) (starL [pts r (.deferred (some [])), F]) w3 → Sat G (A :: (preJ.map (Chunk.den B.I ρ) ++ [starL [pts r (.deferred (some [])), F]])) w3 := by
    intro A hA
    have e1 : (preI ++ [.own 0 A] : List (Chunk Pd)).map (Chunk.den B.I ρ3) = preJ.map (Chunk.den B.I ρ) ++ [A] := by
      rw [List.map_append, ← hpJ, csRen_den, cs_congr B.I (fun i hi => he3 i (belowB_lt hi)) preI hpreI]; rfl
    unfold SatC at hA
    rw [e1, List.append_assoc] at hA
    exact hA.perm List.perm_middle
  have jn : ∀ ρ' : Nat → Nat, Ext s.n ρ ρ' → preJ.map (Chunk.den B.I ρ) = preJ.map (Chunk.den B.I ρ') := fun ρ' h => cs_congr B.I (fun i hi => (h i (belowB_lt hi)).symm) preJ hpreJ
  -- behind the loop
  have behind : ∀ (cs : List (Chunk Pd)) (ρ' : Nat → Nat) (w4 : World), ((∃ st, fin st ∧ cs = csOf st) ∨ (∃ st x, ok st x ∧ KD (.exit bid) st x cs)) → Ext s.n ρ ρ' → SatC B.I G ρ' (preJ ++ cs) (starL [pts r (.deferred (some [])), F]) w4 →
      wpB f B.P post (bodyPostM Fence.wide 0 B.P fn (fun e w' => ∃ out cs ρ', OutRel ρ' out e ∧ K out cs ∧ Ext nin ρ0 ρ' ∧ SatC B.I G ρ' cs F w')) { a with defers := [{ target := .collected r, args := #[] }] ++ a.defers } w4 := by
    intro cs ρ' w4 hc he4 hs4
    let X := cxM B G fn.ntmps nin pl [{ target := .collected r, args := #[] }]
    have hN : Nodes X IntKind.wrap bitsOf (fun b x y => (b = true → x ()) ∧ (b = false → y ())) (fun l k => obsP l ∧ k ()) (NodeX X) (LoopX X) (ScopeX X) := ⟨rfl, rfl, rfl, rfl, rfl, rfl, rfl⟩
    have hrunP := hpost cs hc _ _ _ _ _ _ _ _ _ _ _ _ _ _ _ _ _ _ _ hN (Fin B G K nin) (fun _ _ h => h) (fun _ _ h => h)
    have hrel : Rel X ρ' ⟨s.env, preJ ++ cs, n2⟩ (starL [pts r (.deferred (some [])), F]) { a with defers := [{ target := .collected r, args := #[] }] ++ a.defers } w4 :=
      ⟨hr.env.congr henv fun i hi => (he4 i (belowB_lt hi)).symm, hs4, by show fn.ntmps % 65536 % 65536 ≤ _; have := hsz; simp only; omega, ⟨by rw [hdf]; rfl, fun k hk => by simp only [X, cxM] at hk; omega⟩, Nat.le_trans hnin hn2⟩
    have hwp := run_ok hN hB.ty hB.mixed post _ _ hplp hrunP ρ0 ρ' _ _ w4 (he.trans (he4.le hnin)) hrel
    refine wpB_of (wp_mono hwp fun e a5 w5 hq => ?_)
    cases e with
    | normal => obtain ⟨s5, ρ5, hk5, he5, hr5⟩ := hq; exact leave_mark (by simp) hr5 fun w' hr' => fin_leaves hB (.inl rfl) hk5 he5 hr'
    | ret => obtain ⟨s5, ρ5, hk5, he5, hr5⟩ := hq; exact leave_mark (by simp) hr5 fun w' hr' => fin_leaves hB (.inr rfl) hk5 he5 hr'
    | panic ch =>
      obtain ⟨v, s5, ρ5, hk5, he5, rfl, hr5⟩ := hq
      refine leave_mark (by simp) hr5 fun w' hr' => ?_
      obtain ⟨out', cs', ρ6, h4, h5, h6, h7⟩ := hk5 ρ5 F w' hr'.mem
      exact ⟨out', cs', ρ6, h6 _ rfl, h4, he5.trans h5, h7⟩
    | exit i => obtain ⟨s5, ρ5, hk5, _⟩ := hq; exact hk5.elim
    | goto i => obtain ⟨s5, ρ5, hk5, _⟩ := hq; exact hk5.elim
    | outgrown => exact hq.elim
  have hrM : ∀ (cs : List (Chunk Pd)) (ρ' : Nat → Nat) (w4 : World) (e : Env), EnvOk ρ' e a → SatC B.I G ρ' (preJ ++ cs) (starL [pts r (.deferred (some [])), F]) w4 →
      Rel (cxM B G fn.ntmps nin pl [{ target := .collected r, args := #[] }]) ρ' ⟨e, preJ ++ cs, n2⟩ (starL [pts r (.deferred (some [])), F]) { a with defers := [{ target := .collected r, args := #[] }] ++ a.defers } w4 :=
    fun cs ρ' w4 e h1 h2 => ⟨h1, h2, by show fn.ntmps % 65536 % 65536 ≤ _; have := hsz; simp only; omega, ⟨by rw [hdf]; rfl, fun k hk => by simp only [cxM] at hk; omega⟩, Nat.le_trans hnin hn2⟩
  rcases hk3 with ⟨st, hfin, rfl, rfl⟩ | ⟨st, x, hok, rfl, rfl⟩ | ⟨st, x, v, hok, rfl, rfl⟩
  · cases e with
    | panicked _ => exact (show False from ho).elim
    | outgrown => exact (show False from ho).elim
    | returned v3 =>
      obtain ⟨ρ', he', hs'⟩ := Sat.exStar (ι := Nat → Nat) (Qs := fun ρ' => (csOf st).map (Chunk.den B.I ρ') ++ [pts l (.loop rec0)]) (p := fun ρ' => Ext s.n ρ ρ') (back (S st) hs3)
      rw [List.append_assoc, List.singleton_append] at hs'
      have hs'' := hs'.perm (List.perm_middle (l₁ := (csOf st).map (Chunk.den B.I ρ')))
      have hpend : rec0.pending = none := by rw [hrec]
      have hend := run_endLoop (P := B.P) hs''.get (by rw [hrec]; simp)
      have hm4 := (hs''.putObj (o' := .loop { rec0 with state := .exhausted })).tail
      generalize w3.putObj l (.loop { rec0 with state := .exhausted }) = w4 at hend hm4
      rw [hpend] at hend
      refine ⟨none, w4, hend, ?_⟩
      refine behind (csOf st) ρ' _ (.inl ⟨st, hfin, rfl⟩) he' ?_
      unfold SatC
      rw [jn ρ' he'] at hm4
      rw [List.map_append]
      refine hm4.perm ?_
      rw [← List.append_assoc]
      exact List.Perm.append_right _ List.perm_append_comm
  · cases e with
    | panicked _ => exact (show False from ho).elim
    | outgrown => exact (show False from ho).elim
    | returned v3 =>
      obtain ⟨⟨ρ', e', cs', j⟩, ⟨he', hkd, hj⟩, hs'⟩ := Sat.exStar (ι := (Nat → Nat) × SX × List (Chunk Pd) × Code) (Qs := fun y => y.2.2.1.map (Chunk.den B.I y.1) ++ [pts l (.loop { rec0 with state := .done, pending := some y.2.2.2 })]) (p := fun y => Ext s.n ρ y.1 ∧ KD y.2.1 st x y.2.2.1 ∧ jumpOf y.2.1 = some y.2.2.2) (back (D st x) hs3)
      simp only at he' hkd hj hs'
      rw [List.append_assoc, List.singleton_append] at hs'
      have hs'' := hs'.perm (List.perm_middle (l₁ := cs'.map (Chunk.den B.I ρ')))
      refine ⟨_, _, run_endLoop hs''.get (by simp), ?_⟩
      have hm4 := (hs''.putObj (o' := .loop { ({ rec0 with state := .done, pending := some j } : Loop) with state := .exhausted })).tail
      have hm5 : SatC B.I G ρ' (preJ ++ cs') (starL [pts r (.deferred (some [])), F]) (w3.putObj l (.loop { ({ rec0 with state := .done, pending := some j } : Loop) with state := .exhausted })) := by
        unfold SatC
        rw [jn ρ' he'] at hm4
        rw [List.map_append]
        refine hm4.perm ?_
        rw [← List.append_assoc]
        exact List.Perm.append_right _ List.perm_append_comm
      simp only
      cases e' <;> simp only [jumpOf] at hj <;> (try cases hj)
      · rename_i i
        have hi := hexit st x cs' i hok hkd
        subst hi
        refine wpB_of (wp_exit ?_)
        simp only [Exit.inBlock, if_true, Exit.then]
        exact behind cs' ρ' _ (.inr ⟨st, x, hok, hkd⟩) he' hm5
      · refine wpB_of (wp_ret ?_)
        simp only [Exit.inBlock, Exit.then]
        exact leave_mark (by simp) (hrM cs' ρ' _ s.env (hr.env.congr henv fun i hi => (he' i (belowB_lt hi)).symm) hm5) fun w' hr' => fin_leaves hB (.inr rfl) (hdone st x cs' hok hkd) (he.trans (he'.le hnin)) hr'
  · cases e with
    | returned _ => exact (show False from ho).elim
    | outgrown => exact (show False from ho).elim
    | panicked ch =>
      have ho : ch = chainOf ((SV.raw v).den ρ3) := ho
      obtain ⟨⟨ρ', v', cs'⟩, ⟨he', hkp, hv'⟩, hs'⟩ := Sat.exStar (ι := (Nat → Nat) × SV × List (Chunk Pd)) (Qs := fun y => y.2.2.map (Chunk.den B.I y.1)) (p := fun y => Ext s.n ρ y.1 ∧ KP y.2.1 st x y.2.2 ∧ v = y.2.1.den y.1) (back (E st x v) hs3)
      simp only at he' hkp hv' hs'
      have hm5 : SatC B.I G ρ' (preJ ++ cs') (starL [pts r (.deferred (some [])), F]) w3 := by
        unfold SatC
        rw [jn ρ' he'] at hs'
        rw [List.map_append]
        refine hs'.perm ?_
        rw [← List.append_assoc]
        exact List.Perm.append_right _ List.perm_append_comm
      simp only [rangePostB, Exit.inBlock, Exit.then]
      refine leave_mark (by simp) (hrM cs' ρ' _ [] (fun _ _ g => by simp [eget] at g) hm5) fun w' hr' => ?_
      obtain ⟨out', cs6, ρ6, h4, h5, h6, h7⟩ := hpan st x v' cs' hok hkp ρ' F w' hr'.mem
      have ho2 : ch = chainOf (v'.den ρ') := by rw [ho, SV.den, hv']
      exact ⟨out', cs6, ρ6, h6 _ (by simpa [OutRel] using ho2), h4, (he.trans (he'.le hnin)).trans h5, h7⟩

theorem runs_wpB {X : Cx Pd} {W : IntKind → Int → Int} {bits : Bits} {Ncond : Bool → (Unit → Prop) → (Unit → Prop) → Prop} {Nob : List Ob → (Unit → Prop) → Prop}
    {Nop : Op → TypeId → List SV → List (Chunk Pd) → Nat → (Out → List (Chunk Pd) → Nat → Prop) → Prop} {Nloop Nscope : Code → St Pd → (SX → St Pd → Prop) → Prop} {f : FuncId}
    (hN : Nodes X W bits Ncond Nob Nop Nloop Nscope) (hty : X.ty.ok X.P) (hm : X.P.follows .mixedOrders = true) {c : Code} {K : St Pd → Prop} {ρ0 : Nat → Nat} {F : HP} {Q : Exit → Act → World → Prop}
    (hK : ∀ s ρ a w, K s → Ext X.nin ρ0 ρ → Rel X ρ s F a w → wpB f X.P c Q a w) (hro : X.ro = none) :
    ∀ (rs : List Code) (s : St Pd) (ρ : Nat → Nat) (a : Act) (w : World), plansOkL X.pl rs = true → runs W bits X.ty Ncond Nob Nop Nloop Nscope X.sz X.nin X.pl rs s K → Ext X.nin ρ0 ρ → Rel X ρ s F a w → wpB f X.P (seqs rs c) Q a w
  | [], s, ρ, a, w, _, h, he, hr => hK s ρ a w h he hr
  | r :: rs, s, ρ, a, w, hp, h, he, hr => by
    simp only [plansOkL, Bool.and_eq_true] at hp
    simp only [runs] at h
    refine wpB_seq (wpB_of (wp_mono (run_ok hN hty hm r s _ hp.1 h ρ0 ρ F a w he hr hro) fun e a w hq => ?_))
    cases e with
    | normal => obtain ⟨s', ρ', h1, h2, h3⟩ := hq; exact runs_wpB hN hty hm hK hro rs s' ρ' a w hp.2 h1 h2 h3
    | exit i => obtain ⟨s', ρ', h1, _⟩ := hq; exact h1.elim
    | goto i => obtain ⟨s', ρ', h1, _⟩ := hq; exact h1.elim
    | ret => obtain ⟨s', ρ', h1, _⟩ := hq; exact h1.elim
    | panic ch => obtain ⟨v, s', ρ', h1, _⟩ := hq; exact h1.elim
    | outgrown => exact hq.elim

theorem triple_range (hB : B.ok) {f : FuncId} {fn : Func} {rs rs2 : List Code} {blk po : Code} {nin nout n0 : Nat} {args : List SV} {pre : List (Chunk Pd)} {post : (Out → List (Chunk Pd) → Prop) → Prop} {ι : Type _} {tb : Tab} (htb : B.ty = tb) (pre' : ι → List (Chunk Pd))
    (pl : List (Nat × Plan)) (hcall : ∀ as w, (callFunc f as).run B.P w = .ok (.enter f as) w) (hf : B.P.funcs[f]? = some fn) (hb : fn.body = some (seqs rs (.seq (seqs rs2 blk) po)))
    (hplr : plansOkL pl rs = true) (hplr2 : plansOkL pl rs2 = true) (hargs : Nat.ble args.length fn.ntmps = true) (hn : Nat.ble nin n0 = true) (hidx : SV.idOkL (belowB nin) args = true)
    (hpre : ∀ G, B.GOk G → ∀ ρ F w, SatC B.I G ρ pre F w → ∃ i ρ', Ext nin ρ ρ' ∧ SatC B.I G ρ' (pre' i) F w)
    (h : ∀ G, B.GOk G → ∀ K, post K → ∀ W bi bc bs bk bu bb bo bg bl bp bn be Ncond Nob Nop Nloop Nscope, Nodes (cxOf B G fn.ntmps nin pl) W ⟨bi, bc, bs, bk, bu, bb, bo, bg, bl, bp, bn, be⟩ Ncond Nob Nop Nloop Nscope →
      ∀ Nr : St Pd → Prop, (∀ s, RangeAt B G K nin f fn pl blk po s → Nr s) →
      ∀ i, runs W ⟨bi, bc, bs, bk, bu, bb, bo, bg, bl, bp, bn, be⟩ tb Ncond Nob Nop Nloop Nscope (fn.ntmps % 65536) nin pl rs ⟨envOf 0 args, pre' i, n0⟩ (fun s1 =>
        runs W ⟨bi, bc, bs, bk, bu, bb, bo, bg, bl, bp, bn, be⟩ tb Ncond Nob Nop Nloop Nscope (fn.ntmps % 65536) nin pl rs2 s1 Nr)) :
    Triple B f nin nout args pre post := by
  subst htb
  refine ⟨hcall, fun G hG K hK ρ F w hs => ?_⟩
  obtain ⟨i, ρ1, he1, hs1⟩ := hpre G hG ρ F w hs
  have hargs := Nat.le_of_ble_eq_true hargs
  have hn := Nat.le_of_ble_eq_true hn
  have hN : Nodes (cxOf B G fn.ntmps nin pl) IntKind.wrap bitsOf (fun b x y => (b = true → x ()) ∧ (b = false → y ())) (fun l k => obsP l ∧ k ()) (NodeX (cxOf B G fn.ntmps nin pl)) (LoopX (cxOf B G fn.ntmps nin pl)) (ScopeX (cxOf B G fn.ntmps nin pl)) := ⟨rfl, rfl, rfl, rfl, rfl, rfl, rfl⟩
  have hrun := h G hG K hK _ _ _ _ _ _ _ _ _ _ _ _ _ _ _ _ _ _ hN (RangeAt B G K nin f fn pl blk po) (fun _ x => x) i
  have hargs' : SV.denL ρ args = SV.denL ρ1 args := SV.denL_congr (fun j hj => (he1 j (belowB_lt hj)).symm) args hidx
  rw [hargs']
  have hrel0 := start_rel (B := B) (G := G) (f := f) (nin := nin) (pl := pl) hargs hs1
  have hrel : Rel (cxOf B G fn.ntmps nin pl) ρ1 ⟨envOf 0 args, pre' i, n0⟩ F { tmps := (SV.denL ρ1 args).toArray ++ Array.replicate (fn.ntmps - (SV.denL ρ1 args).toArray.size) undef, defers := [] } w :=
    ⟨hrel0.env, hrel0.mem, hrel0.size, hrel0.dfs, hn⟩
  refine calls_of_wpB hf hb (runs_wpB (X := cxOf B G fn.ntmps nin pl) (ρ0 := ρ1) (F := F) hN hB.ty hB.mixed (fun s ρ2 a w hk he2 hr => ?_) rfl rs _ ρ1 _ w hplr hrun (Ext.refl _ _) hrel)
  refine wpB_seq (runs_wpB (X := cxOf B G fn.ntmps nin pl) (ρ0 := ρ1) (F := F) hN hB.ty hB.mixed (fun s ρ2 a w hk he2 hr => ?_) rfl rs2 _ ρ2 _ w hplr2 hk he2 hr)
  exact hk ρ ρ2 F a w (he1.trans he2) hr _ rfl
 end
end Sx
