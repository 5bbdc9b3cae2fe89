/-
  Part of a proof.
-/
import Derived.Test.YtkkifbjdbhjhaaaGreatDoorV04
import Derived.Laws.Cover3
import Derived.RangeFuncRecord
set_option linter.unusedVariables false
set_option linter.unusedSimpArgs false
/- Functions that defer one closure. -/
namespace Sx
open Go
section
variable {Pd : Type} {B : Base Pd} {G : Gl}
def cxD (B : Base Pd) (G : Gl) (sz nin : Nat) (pl : List (Nat × Plan)) (D : List Deferred) (kv : Value) : Cx Pd := ⟨B.P, B.I, G, B.ty, sz, nin, D, pl, kv, none, false⟩
theorem nodeD {sz nin : Nat} {pl : List (Nat × Plan)} {D : List Deferred} {kv : Value} {op : Op} {type : TypeId} {vals : List SV} {cs : List (Chunk Pd)} {n : Nat} {cont : Out → List (Chunk Pd) → Nat → Prop}
    (h : NodeX (cxOf B G 0 0 []) op type vals cs n cont) : NodeX (cxD B G sz nin pl D kv) op type vals cs n cont := h
/-- what must hold where the body is left: the closure g is called, then the result is read -/
def DEnd (B : Base Pd) (G : Gl) (K : Out → List (Chunk Pd) → Prop) (nin g : Nat) (caps : List SV) (k kid : Nat) (t : TypeId) (u : FrameMode) (cs : List (Chunk Pd)) (n : Nat) : Prop :=
  ∀ ρ F w, SatC B.I G ρ cs F w → CallsD B.P g (SV.denL ρ caps).toArray u w fun e u' w' => (∃ v, e = .returned v) ∧ settle u' = .returning ∧
    ∃ cs' ρ' l, Ext n ρ ρ' ∧ SatC B.I G ρ' cs' F w' ∧ resOf B.ty ⟨[(k, .ptr kid 0)], cs', 0⟩ [.cell k t] = some l ∧ Fin B G K nin (.ret (resV l)) cs'
theorem CallsD.mono {P : Program} {f : FuncId} {args : Array Value} {u : FrameMode} {w : World} {R R' : Ending → FrameMode → World → Prop} (h : CallsD P f args u w R) (hr : ∀ e u w, R e u w → R' e u w) : CallsD P f args u w R' :=
  fun c cs hc => let ⟨e, u', w', fr, h1, h2⟩ := h c cs hc; ⟨e, u', w', fr, hr _ _ _ h1, h2⟩
theorem dend_ {K : Out → List (Chunk Pd) → Prop} {nin g nin' : Nat} {caps args' : List SV} {pre' : List (Chunk Pd)} {u : FrameMode} {post' : (List (Chunk Pd) → Prop) → Prop} (hT : DTriple B g nin' args' pre' u post') (hG : B.GOk G) (σ : List Nat)
    {k kid : Nat} {t : TypeId} {cs rest : List (Chunk Pd)} {n : Nat} (hlen : σ.length = nin') (hargs : caps = SV.renL (sg σ n) args') (hpick : pickC (idsOf (csRen (sg σ n) pre')) cs = some (csRen (sg σ n) pre', rest))
    (hσ : idsOk (belowB n) σ = true) (hrest : call (belowB n) rest = true) (hset : settle (recM u).2 = .returning)
    (hk : post' fun cs' => ∃ l, resOf B.ty ⟨[(k, .ptr kid 0)], csRen (sg σ n) cs' ++ rest, 0⟩ [.cell k t] = some l ∧ Fin B G K nin (.ret (resV l)) (csRen (sg σ n) cs' ++ rest)) : DEnd B G K nin g caps k kid t u cs n := by
  intro ρ F w hs
  have hsplit := hs.perm (pickC_perm hpick)
  have hpre : SatC B.I G (fun i => ρ (sg σ n i)) pre' (starL (rest.map (Chunk.den B.I ρ) ++ [F])) w := SatC.renI.1 hsplit.frame
  rw [hargs, SV.denL_ren]
  refine CallsD.mono (hT.goes G hG _ hk _ _ w hpre) fun e u' w' ⟨hv, hu, cs', ρ', ⟨l, hl, hf⟩, h3, h4⟩ => ?_
  refine ⟨hv, hu ▸ hset, ?_⟩
  let ρ2 : Nat → Nat := fun j => if j < n then ρ j else ρ' (σ.length + (j - n))
  have hext : Ext n ρ ρ2 := fun i hi => by simp [ρ2, hi]
  have hcomp : (fun i => ρ2 (sg σ n i)) = ρ' := by
    funext i
    simp only [sg]
    cases hi : σ[i]? with
    | some j =>
      have hj := belowB_lt (idsOk_mem hσ hi)
      have hlt : i < nin' := by rw [← hlen]; exact (List.getElem?_eq_some_iff.1 hi).1
      simp only [ρ2, hj, if_true]
      rw [h3 i hlt]
      simp [sg, hi]
    | none =>
      have hge : σ.length ≤ i := List.getElem?_eq_none_iff.1 hi
      simp only [ρ2]
      rw [if_neg (by omega)]
      congr 1; omega
  have h5 : SatC B.I G ρ2 (csRen (sg σ n) cs') (starL (rest.map (Chunk.den B.I ρ) ++ [F])) w' := SatC.renI.2 (by rw [hcomp]; exact h4)
  exact ⟨_, ρ2, l, hext, h5.unframe (cs_congr B.I (fun i hi => (hext i (belowB_lt hi)).symm) rest hrest), hl, hf⟩

def seqs : List Code → Code → Code
  | [], c => c
  | r :: rs, c => .seq r (seqs rs c)
section
variable (W : IntKind → Int → Int) (bits : Bits) (ty : Tab) (Ncond : Bool → (Unit → Prop) → (Unit → Prop) → Prop) (Nob : List Ob → (Unit → Prop) → Prop)
  (Nop : Op → TypeId → List SV → List (Chunk Pd) → Nat → (Out → List (Chunk Pd) → Nat → Prop) → Prop) (Nloop Nscope : Code → St Pd → (SX → St Pd → Prop) → Prop) (sz nin : Nat) (pl : List (Nat × Plan))
def runs : List Code → St Pd → (St Pd → Prop) → Prop
  | [], s, K => K s
  | r :: rs, s, K => run W bits ty Ncond Nob Nop Nloop Nscope sz nin pl r s (fun x s' => match x with
    | .normal => runs rs s' K
    | _ => False)
 end
def plansOkL (pl : List (Nat × Plan)) : List Code → Bool
  | [] => true
  | c :: r => plansOk pl c && plansOkL pl r
theorem runs_wp {X : Cx Pd} {W : IntKind → Int → Int} {bits : Bits} {Ncond : Bool → (Unit → Prop) → (Unit → Prop) → Prop} {Nob : List Ob → (Unit → Prop) → Prop}
    {Nop : Op → TypeId → List SV → List (Chunk Pd) → Nat → (Out → List (Chunk Pd) → Nat → Prop) → Prop} {Nloop Nscope : Code → St Pd → (SX → St Pd → Prop) → Prop}
    (hN : Nodes X W bits Ncond Nob Nop Nloop Nscope) (hty : X.ty.ok X.P) (hm : X.P.follows .mixedOrders = true) {c : Code} {K : St Pd → Prop} {ρ0 : Nat → Nat} {F : HP} {Q : Exit → Act → World → Prop}
    (hK : ∀ s ρ a w, K s → Ext X.nin ρ0 ρ → Rel X ρ s F a w → c.wp X.P Q a w) (hro : X.ro = none := by rfl) :
    ∀ (rs : List Code) (s : St Pd) (ρ : Nat → Nat) (a : Act) (w : World), plansOkL X.pl rs = true → runs W bits X.ty Ncond Nob Nop Nloop Nscope X.sz X.nin X.pl rs s K → Ext X.nin ρ0 ρ → Rel X ρ s F a w → (seqs rs c).wp X.P Q a w
  | [], s, ρ, a, w, _, h, he, hr => hK s ρ a w h he hr
  | r :: rs, s, ρ, a, w, hp, h, he, hr => by
    simp only [plansOkL, Bool.and_eq_true] at hp
    simp only [runs] at h
    refine wp_seq (wp_mono (run_ok hN hty hm r s _ hp.1 h ρ0 ρ F a w he hr hro) fun e a w hq => ?_)
    cases e with
    | normal => obtain ⟨s', ρ', h1, h2, h3⟩ := hq; exact runs_wp hN hty hm hK hro rs s' ρ' a w hp.2 h1 h2 h3
    | exit i => obtain ⟨s', ρ', h1, _⟩ := hq; exact h1.elim
    | goto i => obtain ⟨s', ρ', h1, _⟩ := hq; exact h1.elim
    | ret => obtain ⟨s', ρ', h1, _⟩ := hq; exact h1.elim
    | panic ch => obtain ⟨v, s', ρ', h1, _⟩ := hq; exact h1.elim
    | outgrown => exact hq.elim

def endK (E : FrameMode → List (Chunk Pd) → Nat → Prop) (x : SX) (s : St Pd) : Prop :=
  match x with
  | .normal | .ret => E .returning s.cs s.n
  | .panic v => ∃ pv, (∀ ρ, v.den ρ = pv) ∧ E (.panicking [{ v := pv, recovered := false }]) s.cs s.n
  | _ => False
theorem defer_ops {P : Program} {g : FuncId} (hcall : ∀ as w, (callFunc g as).run P w = .ok (.enter g as) w) {df : Oper} {dt : Nat} {a : Act} {w : World} {l : List Value}
    (hdf : df.op = .defer ⟨.value (.tmp dt), #[], #[]⟩) (hv : a.tmps.getD dt undef = .func (.func g) #[] l.toArray) :
    ∃ d fv cap, (execOp a.eval df).run P w = .ok (.defer d) w ∧ d.target = .fn fv cap ∧ ∀ w, (invoke d.target d.args).run P w = .ok (.enter g l.toArray) w := by
  obtain ⟨dst, op, type, pos, after, guard⟩ := df
  simp only at hdf; subst hdf
  have he : a.eval (.tmp dt) = .func (.func g) #[] l.toArray := hv
  refine ⟨⟨.fn (.func g) l.toArray, #[]⟩, .func g, l.toArray, ?_, rfl, fun w => ?_⟩
  · simp [execOp, resolve, he, Deferred.ofValue]
  · simp [invoke, hcall]
theorem triple_defer (hB : B.ok) {f : FuncId} {fn : Func} {rs : List Code} {id dt g k t : Nat} {ops : Array Oper} {mk df : Oper} {cops : Array Operand} {rest : Code} {nin nout n0 : Nat} {args : List SV} {pre : List (Chunk Pd)} {post : (Out → List (Chunk Pd) → Prop) → Prop} {ι : Type _} {tb : Tab} (htb : B.ty = tb) (pre' : ι → List (Chunk Pd))
    (pl : List (Nat × Plan)) (hcall : ∀ as w, (callFunc f as).run B.P w = .ok (.enter f as) w) (hgcall : ∀ as w, (callFunc g as).run B.P w = .ok (.enter g as) w) (hf : B.P.funcs[f]? = some fn) (hb : fn.body = some (seqs rs (.seq (.region id ops false) rest)))
    (hplr : plansOkL pl rs = true) (hpl : plansOk pl rest = true) (hops : ops.toList = [mk, df]) (hmk : mk.op = .makeFunc (.func g) #[] cops) (hmg : mk.guard = none) (hmd : mk.dst = some dt) (hdf : df.op = .defer ⟨.value (.tmp dt), #[], #[]⟩) (hdg : df.guard = none) (hdd : df.dst = none)
    (hres : fn.results = #[.cell k t]) (hkd : Nat.beq k dt = false) (hsz : Nat.ble (fn.ntmps + 1) 65536 = true) (hdt : Nat.ble (dt + 1) fn.ntmps = true) (hargs : Nat.ble args.length fn.ntmps = true) (hn : Nat.ble nin n0 = true)
    (hidx : SV.idOkL (belowB nin) args = true)
    (hpre : ∀ G, B.GOk G → ∀ ρ F w, SatC B.I G ρ pre F w → ∃ i ρ', Ext nin ρ ρ' ∧ SatC B.I G ρ' (pre' i) F w)
    (h : ∀ G, B.GOk G → ∀ K, post K → ∀ W bi bc bs bk bu bb bo bg bl bp bn be Ncond Nob Nop Nloop Nscope, Nodes (cxOf B G fn.ntmps nin pl) W ⟨bi, bc, bs, bk, bu, bb, bo, bg, bl, bp, bn, be⟩ Ncond Nob Nop Nloop Nscope →
      ∀ i, runs W ⟨bi, bc, bs, bk, bu, bb, bo, bg, bl, bp, bn, be⟩ tb Ncond Nob Nop Nloop Nscope (fn.ntmps % 65536) nin pl rs ⟨envOf 0 args, pre' i, n0⟩ (fun s =>
        ∃ caps kid, evOs s.env cops.toList = some caps ∧ SV.idOkL (belowB s.n) caps = true ∧ Nat.ble (kid + 1) s.n = true ∧ eget s.env k = some (.ptr kid 0) ∧
          ∀ D kv W bi bc bs bk bu bb bo bg bl bp bn be Ncond Nob Nop Nloop Nscope, Nodes (cxD B G (fn.ntmps % 65536 + 65536 * (2 * k + 2)) s.n pl D kv) W ⟨bi, bc, bs, bk, bu, bb, bo, bg, bl, bp, bn, be⟩ Ncond Nob Nop Nloop Nscope →
            run W ⟨bi, bc, bs, bk, bu, bb, bo, bg, bl, bp, bn, be⟩ tb Ncond Nob Nop Nloop Nscope (fn.ntmps % 65536 + 65536 * (2 * k + 2)) s.n pl rest ⟨eset s.env dt (.fn (.func g) [] caps), s.cs, s.n⟩ (endK (DEnd B G K nin g caps k kid t)))) :
    Triple B f nin nout args pre post := by
  subst htb
  refine ⟨hcall, fun G hG K hK ρ F w hs => ?_⟩
  obtain ⟨i, ρ1, he1, hs1⟩ := hpre G hG ρ F w hs
  have hargs := Nat.le_of_ble_eq_true hargs
  have hn := Nat.le_of_ble_eq_true hn
  have hN : Nodes (cxOf B G fn.ntmps nin pl) IntKind.wrap bitsOf (fun b x y => (b = true → x ()) ∧ (b = false → y ())) (fun l k => obsP l ∧ k ()) (NodeX (cxOf B G fn.ntmps nin pl)) (LoopX (cxOf B G fn.ntmps nin pl)) (ScopeX (cxOf B G fn.ntmps nin pl)) := ⟨rfl, rfl, rfl, rfl, rfl, rfl, rfl⟩
  have hrun := h G hG K hK _ _ _ _ _ _ _ _ _ _ _ _ _ _ _ _ _ _ hN i
  have hargs' : SV.denL ρ args = SV.denL ρ1 args := SV.denL_congr (fun j hj => (he1 j (belowB_lt hj)).symm) args hidx
  rw [hargs']
  have hrel0 := start_rel (B := B) (G := G) (f := f) (nin := nin) (pl := pl) hargs hs1
  have hrel : Rel (cxOf B G fn.ntmps nin pl) ρ1 ⟨envOf 0 args, pre' i, n0⟩ F { tmps := (SV.denL ρ1 args).toArray ++ Array.replicate (fn.ntmps - (SV.denL ρ1 args).toArray.size) undef, defers := [] } w :=
    ⟨hrel0.env, hrel0.mem, hrel0.size, hrel0.dfs, hn⟩
  refine calls_of_wp_defers hf hb (runs_wp (X := cxOf B G fn.ntmps nin pl) (ρ0 := ρ1) (F := F) hN hB.ty hB.mixed ?_ rfl rs _ ρ1 _ w hplr hrun (Ext.refl _ _) hrel)
  rintro s ρ2 a w ⟨caps, kid, hcaps, hcid, hkid, hkenv, hrest⟩ he2 hr
  have hkid := Nat.le_of_ble_eq_true hkid
  have hkd : k ≠ dt := fun e => by subst e; rw [Nat.beq_refl] at hkd; cases hkd
  have hsz := Nat.le_of_ble_eq_true hsz
  have hdt := Nat.le_of_ble_eq_true hdt
  -- the closure
  have hmrun : (execOp a.eval mk).run B.P w = .ok (.value ((SV.fn (.func g) [] caps).den ρ2)) w := by
    refine pureV_run (W := IntKind.wrap) (bits := bitsOf) rfl rfl hB.ty (evOk_of hr.env) (obs := []) ?_ trivial w
    simp only [hmk, pureV, evOs, hcaps, noOb]
  have hrm : Rel (cxOf B G fn.ntmps nin pl) ρ2 ⟨eset s.env dt (.fn (.func g) [] caps), s.cs, s.n⟩ F (a.put (some dt) ((SV.fn (.func g) [] caps).den ρ2)) w := by
    refine hr.put (d := some dt) (v := .fn (.func g) [] caps) (e := eset s.env dt (.fn (.func g) [] caps)) ?_ hr.env hr.mem hr.nin
    simp only [setD, cxOf]
    have hk : okT (fn.ntmps % 65536) dt = true := by
      exact okT_plain (by omega) hsz
    exact if_pos hk
  have hdtv : (a.put (some dt) ((SV.fn (.func g) [] caps).den ρ2)).tmps.getD dt undef = .func (.func g) #[] (SV.denL ρ2 caps).toArray := by
    have := hrm.env dt (.fn (.func g) [] caps) (by simp only; rw [eget_eset]; simp)
    rw [this]; simp [SV.den, SV.denL]
  generalize ha1 : a.put (some dt) ((SV.fn (.func g) [] caps).den ρ2) = a1 at hrm hdtv
  obtain ⟨d, fv, cap, hdrun, hdtar, hdinv⟩ := defer_ops (P := B.P) hgcall (w := w) hdf hdtv
  have hkv : a1.tmps.getD k undef = (SV.ptr kid 0).den ρ2 := hrm.env k (.ptr kid 0) (by simp only; rw [eget_eset]; simp [Ne.symm hkd, hkenv])
  have hdf0 : a1.defers = [] := hrm.dfs.1
  let X' := cxD B G (fn.ntmps % 65536 + 65536 * (2 * k + 2)) s.n pl [d] ((SV.ptr kid 0).den ρ2)
  have hN' : Nodes X' IntKind.wrap bitsOf (fun b x y => (b = true → x ()) ∧ (b = false → y ())) (fun l k => obsP l ∧ k ()) (NodeX X') (LoopX X') (ScopeX X') := ⟨rfl, rfl, rfl, rfl, rfl, rfl, rfl⟩
  have hrun2 := hrest [d] ((SV.ptr kid 0).den ρ2) _ _ _ _ _ _ _ _ _ _ _ _ _ _ _ _ _ _ hN'
  have hrel2 : Rel X' ρ2 ⟨eset s.env dt (.fn (.func g) [] caps), s.cs, s.n⟩ F { a1 with defers := [d] } w := by
    refine ⟨hrm.env, hrm.mem, ?_, ⟨rfl, fun k' hk' => ?_⟩, Nat.le_refl _⟩
    · have := hrm.size; simp only [cxOf] at this; simp only [X', cxD]; omega
    · simp only [X', cxD] at hk'
      have : k' = 2 * k + 1 := by omega
      subst this
      simp only [keptV]; rw [if_pos (by omega), show (2 * k + 1) / 2 = k by omega]; exact hkv
  have hwp := run_ok (X := X') hN' hB.ty hB.mixed rest _ _ hpl hrun2 ρ2 ρ2 F _ w (Ext.refl _ _) hrel2
  -- the end
  have hend : ∀ s' ρ3 a w (u : FrameMode), u ≠ .run → DEnd B G K nin g caps k kid t u s'.cs s'.n → Ext s.n ρ2 ρ3 → Rel X' ρ3 (noEnv s') F a w →
      Leaves B.P fn a.tmps (fun e w' => ∃ out cs ρ', OutRel ρ' out e ∧ K out cs ∧ Ext nin ρ ρ' ∧ SatC B.I G ρ' cs F w') a.defers u w := by
    intro s' ρ3 a w u hu hd he3 hr3
    rw [hr3.dfs.1]
    have hk3 : a.tmps.getD k undef = (SV.ptr kid 0).den ρ2 := by
      have h0 := hr3.dfs.2 (2 * k + 1) (by simp only [X', cxD]; omega)
      simp only [keptV] at h0; rw [if_pos (by omega), show (2 * k + 1) / 2 = k by omega] at h0; exact h0
    refine ⟨hu, fv, cap, g, (SV.denL ρ2 caps).toArray, hdtar, hdinv w, ?_⟩
    have hce : SV.denL ρ2 caps = SV.denL ρ3 caps := SV.denL_congr (fun j hj => (he3 j (belowB_lt hj)).symm) caps hcid
    rw [hce]
    refine CallsD.mono (hd ρ3 F w hr3.mem) ?_
    rintro e u' w' ⟨⟨v, rfl⟩, hset, cs', ρ4, l, he4, hs4, hl, hfin⟩
    simp only [hset]
    have hr4 : Rel X' ρ4 ⟨[(k, .ptr kid 0)], cs', s'.n⟩ F a w' := by
      refine ⟨fun t v g => ?_, hs4, hr3.size, hr3.dfs, hr3.nin⟩
      simp only [eget] at g
      split at g
      · rename_i hkt
        simp only [beq_iff_eq] at hkt
        simp only [Option.some.injEq] at g
        subst g; subst hkt
        rw [hk3]
        have h1 : ρ3 kid = ρ2 kid := he3 kid (by omega)
        have h2 : ρ4 kid = ρ3 kid := he4 kid (by have := hr3.nin; simp only [X', cxD, noEnv] at this; omega)
        simp [SV.den, h1, h2]
      · cases g
    have hres4 := results_run (X := X') hB.ty hr4 (fn := fn) (l := l) (by rw [hres]; exact hl)
    obtain ⟨out', cs'', ρ5, h4, h5, h6, h7⟩ := hfin ρ4 F w' hs4
    refine ⟨_, hres4, out', cs'', ρ5, h6 _ rfl, h4, ?_, h7⟩
    have hle : nin ≤ s.n := hr.nin
    have hle2 : s.n ≤ s'.n := hr3.nin
    exact (he1.trans (he2.trans (he3.le hle))).trans ((he4.le (Nat.le_trans hle hle2)).trans h5)
  have hend2 : (rest).wp B.P (bodyPostD B.P fn (fun e w' => ∃ out cs ρ', OutRel ρ' out e ∧ K out cs ∧ Ext nin ρ ρ' ∧ SatC B.I G ρ' cs F w')) { a1 with defers := [d] } w := by
    refine wp_mono hwp fun e a w hq => ?_
    cases e with
    | normal => obtain ⟨s', ρ3, h1, h2, h3⟩ := hq; exact hend s' ρ3 a w .returning (by simp) h1 h2 h3.drop
    | ret => obtain ⟨s', ρ3, h1, h2, h3⟩ := hq; exact hend s' ρ3 a w .returning (by simp) h1 h2 h3.drop
    | panic ch =>
      obtain ⟨v, s', ρ3, ⟨pv, hpv, h1⟩, h2, rfl, h3⟩ := hq
      rw [show chainOf (v.den ρ3) = [{ v := pv, recovered := false }] by simp [chainOf, hpv]]
      exact hend s' ρ3 a w _ (by simp) h1 h2 h3
    | exit i => obtain ⟨s', ρ3, h1, _⟩ := hq; exact h1.elim
    | goto i => obtain ⟨s', ρ3, h1, _⟩ := hq; exact h1.elim
    | outgrown => exact hq.elim
  refine wp_seq (wp_region_list ?_)
  rw [hops]
  have hw1 : Region.wanted mk (yielded ops a.tmps) = true := by simp [Region.wanted, hmg]
  simp only [wpList]
  rw [if_pos hw1]
  refine .inl ?_
  have hmrun' : (execOp a.eval mk).run (cxOf B G fn.ntmps nin pl).P w = .ok (.value ((SV.fn (.func g) [] caps).den ρ2)) w := hmrun
  unfold Oper.wp
  rw [hmrun', Oper.upon_value, hmd, ha1]
  rw [if_pos (by simp [Region.wanted, hdg])]
  refine .inl ?_
  have hdrun' : (execOp a1.eval df).run (cxOf B G fn.ntmps nin pl).P w = .ok (.defer d) w := hdrun
  rw [hdrun', Oper.upon_defer, hdd, hdf0]
  exact hend2
 end
end Sx
/- A string that is ranged over. -/
namespace Sx
open Go
section
variable {Pd : Type} {X : Cx Pd} {cs rest : List (Chunk Pd)}
theorem SatC.objc {I : Pd → List Nat → HP} {G : Gl} {ρ : Nat → Nat} {F : HP} {w : World} {id : Nat} {o : Obj} (h : SatC I G ρ (.obj id o :: rest) F w) : w.heap[ρ id]? = some o := Sat.get h
set_option linter.unusedVariables false
set_option linter.unusedSimpArgs false
theorem range_str (hty : X.ty.ok X.P) {t type : TypeId} {ti : TI} {a : Operand} {s : ByteArray} {n : Nat} {cont : Out → List (Chunk Pd) → Nat → Prop}
    (ht : X.ty t = some ti) (htd : ti.d = .str) (hr : call (belowB n) cs = true) (h : cont (.ret (.ptr n 0)) (.obj n (.stringIter s 0) :: cs) (n + 1)) :
    NodeX X (.range t a) type [.str s] cs n cont := by
  intro ρ F w ρe o ho _ hv hs
  obtain ⟨dst, op, ty', pos, after, guard⟩ := o
  simp only at ho; subst ho
  have ha : ρe a = (SV.str s).den ρ := by simpa [Op.operands, SV.denL] using hv
  have hd := (hty _ _ ht).desc
  rw [htd] at hd; simp only [TD.ok] at hd
  have hrun : (execOp ρe ⟨dst, .range t a, ty', pos, after, guard⟩).run X.P w = .ok (.value (.pointer (some ⟨w.heap.size, 0, none⟩))) { w with heap := w.heap.push (.stringIter s 0) } := by
    simp only [execOp, ha, SV.den, Sem.run_bind, Instr.range, run_underlying hd, Result.andThen_ok, Sem.run_pure, run_newObj]
  rw [hrun]
  have h1 : SatC X.I X.G (upd1 ρ n w.heap.size) cs F w := hs.congr hr fun i hi => (upd1_ne (by have := belowB_lt hi; omega)).symm
  have h2 := Sat.new h1 (.stringIter s 0)
  refine ⟨.ptr n 0, _, n + 1, upd1 ρ n w.heap.size, by simp [SV.den, upd1], Nat.le_succ _, fun i hi => upd1_ne (by omega), ?_, h⟩
  have h3 : Sat X.G (pts (upd1 ρ n w.heap.size n) (.stringIter s 0) :: (cs.map (Chunk.den X.I (upd1 ρ n w.heap.size)) ++ [F])) { w with heap := w.heap.push (.stringIter s 0) } := by
    have : upd1 ρ n w.heap.size n = w.heap.size := by simp [upd1]
    rw [this]; exact h2
  exact h3
theorem next_str (hty : X.ty.ok X.P) {type : TypeId} {a : Operand} {s : ByteArray} {id p n : Nat} {cont : Out → List (Chunk Pd) → Nat → Prop}
    (hp : pickC [id] cs = some ([.obj id (.stringIter s p)], rest))
    (h1 : p < s.size → cont (.ret (.tuple [.tt, .int .i64 (Int.ofNat p), .int .i32 (Utf8.decode s p).1])) (.obj id (.stringIter s (p + (Utf8.decode s p).2)) :: rest) n)
    (h2 : ¬ p < s.size → cont (.ret (.tuple [.ff])) cs n) :
    NodeX X (.next a true) type [.ptr id 0] cs n cont := by
  intro ρ F w ρe o ho _ hv hs
  obtain ⟨dst, op, ty', pos, after, guard⟩ := o
  simp only at ho; subst ho
  have ha : ρe a = (SV.ptr id 0).den ρ := by simpa [Op.operands, SV.denL] using hv
  have hs2 := hs.perm (pick_one hp)
  have hg : w.heap[ρ id]? = some (.stringIter s p) := hs2.objc
  by_cases hlt : p < s.size
  · have hrun : (execOp ρe ⟨dst, .next a true, ty', pos, after, guard⟩).run X.P w = .ok (.value (.tuple #[.bool true, .int .i64 p, .int .i32 (Utf8.decode s p).1])) { w with heap := w.heap.setIfInBounds (ρ id) (.stringIter s (p + (Utf8.decode s p).2)) } := by
      simp only [execOp, ha, SV.den, Sem.run_bind, Instr.next, getObj, setObj, Sem.run, hg, Result.andThen, hlt, if_true]
      simp [goInt, Sem.run, hg]
    rw [hrun]
    have h4 : SatC X.I X.G ρ (.obj id (.stringIter s (p + (Utf8.decode s p).2)) :: rest) F { w with heap := w.heap.setIfInBounds (ρ id) (.stringIter s (p + (Utf8.decode s p).2)) } := Sat.put (b := ρ id) (o := .stringIter s p) hs2 rfl
    exact ⟨_, _, n, ρ, by simp [SV.den, SV.denL], Nat.le_refl _, Ext.refl _ _, h4, h1 hlt⟩
  · have hrun : (execOp ρe ⟨dst, .next a true, ty', pos, after, guard⟩).run X.P w = .ok (.value (.tuple #[.bool false])) w := by
      simp only [execOp, ha, SV.den, Sem.run_bind, Instr.next]
      simp [getObj, Sem.run, hg, hlt]
    rw [hrun]
    exact ⟨_, cs, n, ρ, by simp [SV.den, SV.denL], Nat.le_refl _, Ext.refl _ _, hs, h2 hlt⟩
 end
section
variable {Pd : Type} {B : Base Pd} {G : Gl} {cs rest : List (Chunk Pd)} {Tm : Pd → List (Chunk Pd) → Prop}
theorem finD_close (hI : B.I = Im Tm) (p : Pd) (ids τ : List Nat) (cs' : List (Chunk Pd)) (hT : Tm p cs') {K : List (Chunk Pd) → Prop} {nin : Nat}
    (hp : pickC (idsOf (csRen (nm (ids ++ τ)) cs')) cs = some (csRen (nm (ids ++ τ)) cs', rest))
    (h : FinD (B := B) G K nin (.abs p ids :: rest)) : FinD (B := B) G K nin cs := by
  intro ρ F w hs
  refine h ρ F w ?_
  rw [hI] at hs ⊢
  exact SatC.close τ hT (hs.perm (pickC_perm hp))
/-- a temporary is said otherwise -/
theorem leads_eset {X : Cx Pd} (t : Nat) (v v' : SV) {s : St Pd} {J : St Pd → Prop} (hg : eget s.env t = some v) (hd : ∀ ρ, v.den ρ = v'.den ρ) (h : Leads X ⟨eset s.env t v', s.cs, s.n⟩ J) : Leads X s J := by
  intro ρ F a w hr
  refine h ρ F a w ⟨fun t' u hu => ?_, hr.mem, hr.size, hr.dfs, hr.nin⟩
  simp only [eget_eset] at hu
  split at hu
  · rename_i e
    subst e
    simp only [Option.some.injEq] at hu
    subst hu
    rw [← hd ρ]; exact hr.env _ _ hg
  · exact hr.env _ _ hu
 end
end Sx
/- A deferred closure whose one region draws its order, and recovers. -/
namespace Sx
open Go
section
variable {Pd : Type} {B : Base Pd}
theorem dcall_any (hB : B.ok) {f : FuncId} {fn : Func} {id d i0 ir m : Nat} {ops : Array Oper} {o0 o1 : Oper} {tb : Tab} (htb : B.ty = tb) (pA pB : Plan) (hf : B.P.funcs[f]? = some fn) (hb : fn.body = some (.region id ops true))
    (hm : ops.size = m + 2) (ho0 : ops[i0]? = some o0) (hg0 : o0.guard = none) (hor : ops[ir]? = some o1) (ho : o1.op = .call ⟨.builtin .recover, #[], #[]⟩) (hg : o1.guard = none) (hd : o1.dst = some d) (hdsz : Nat.ble (d + 1) fn.ntmps = true) (hsz : Nat.ble (fn.ntmps + 1) 65536 = true) (hres : fn.results = #[])
    (hr0 : Region.ready .any ops (Array.replicate (m + 2) false) = [i0, ir]) (hr1 : Region.ready .any ops ((Array.replicate (m + 2) false).setIfInBounds i0 true) = [ir])
    (hpA : pA.ok ops (m + 1) ((Array.replicate (m + 2) false).setIfInBounds ir true) = true) (hpB : pB.ok ops m (((Array.replicate (m + 2) false).setIfInBounds i0 true).setIfInBounds ir true) = true)
    (hsel : Region.noSelect ops = true)
    {nin : Nat} {args : List SV} {pre : List (Chunk Pd)} {u : FrameMode} {post : (List (Chunk Pd) → Prop) → Prop} (hargs : Nat.ble args.length fn.ntmps = true) (sv : SV) (hsv : ∀ ρ, sv.den ρ = (recM u).1)
    (h : ∀ G, B.GOk G → ∀ K, post K → ∀ W bi bc bs bk bu bb bo bg bl bp bn be Ncond Nob Nop Nloop Nscope, Nodes (cxOf B G fn.ntmps nin []) W ⟨bi, bc, bs, bk, bu, bb, bo, bg, bl, bp, bn, be⟩ Ncond Nob Nop Nloop Nscope →
      ∀ Nfin : List (Chunk Pd) → Prop, (∀ cs, FinD (B := B) G K nin cs → Nfin cs) → (∀ cs, Nfin cs → FinD (B := B) G K nin cs) →
      runPlan W ⟨bi, bc, bs, bk, bu, bb, bo, bg, bl, bp, bn, be⟩ tb Ncond Nob Nop (fn.ntmps % 65536) nin ops.toList nin pA ⟨eset (envOf 0 args) d sv, pre, nin⟩ (fun s => Nfin s.cs) (fun _ _ => False) ∧
      doOp W ⟨bi, bc, bs, bk, bu, bb, bo, bg, bl, bp, bn, be⟩ tb Nob Nop (fn.ntmps % 65536) nin o0 (nin + i0) nin ⟨envOf 0 args, pre, nin⟩
        (fun s => runPlan W ⟨bi, bc, bs, bk, bu, bb, bo, bg, bl, bp, bn, be⟩ tb Ncond Nob Nop (fn.ntmps % 65536) nin ops.toList nin pB ⟨eset s.env d sv, s.cs, s.n⟩ (fun s => Nfin s.cs) (fun _ _ => False)) (fun _ _ => False)) : DTriple B f nin args pre u post := by
  subst htb
  refine ⟨fun G hG K hK ρ F w0 hs0 => callsD_of_wpS hf hb fun c0 csf hu => ?_⟩
  have hargs := Nat.le_of_ble_eq_true hargs
  have hN : Nodes (cxOf B G fn.ntmps nin []) IntKind.wrap bitsOf (fun b x y => (b = true → x ()) ∧ (b = false → y ())) (fun l k => obsP l ∧ k ()) (NodeX (cxOf B G fn.ntmps nin [])) (LoopX (cxOf B G fn.ntmps nin [])) (ScopeX (cxOf B G fn.ntmps nin [])) := ⟨rfl, rfl, rfl, rfl, rfl, rfl, rfl⟩
  obtain ⟨hA, hBb⟩ := h G hG K hK _ _ _ _ _ _ _ _ _ _ _ _ _ _ _ _ _ _ hN (FinD (B := B) G K nin) (fun _ x => x) (fun _ x => x)
  refine wpS_region_any hB.mixed ?_
  have hs : SatC B.I G ρ pre F { w0 with drawn := w0.drawn + 1 } := hs0.same rfl
  generalize ({ w0 with drawn := w0.drawn + 1 } : World) = w at hs ⊢
  have hrel := start_rel (B := B) (G := G) (f := f) (nin := nin) (pl := []) hargs hs
  generalize ({ tmps := (SV.denL ρ args).toArray ++ Array.replicate (fn.ntmps - (SV.denL ρ args).toArray.size) undef, defers := [] } : Act) = a at hrel ⊢
  have hset : ∀ e : Env, setD (fn.ntmps % 65536) (some d) sv e = some (eset e d sv) := by
    intro e
    simp only [setD]
    have hk : okT (fn.ntmps % 65536) d = true := by
      have h1 := Nat.le_of_ble_eq_true hdsz
      have h2 := Nat.le_of_ble_eq_true hsz
      exact okT_plain (by omega) h2
    exact if_pos hk
  have hrec : ∀ (a : Act) (w : World), (execOp a.eval o1).run B.P w = .ok .recover w := by
    intro a w
    obtain ⟨dst, op, type, pos, after, guard⟩ := o1
    simp only at ho; subst ho
    simp [execOp, resolve, invoke, builtin]
  let R : Ending → FrameMode → World → Prop := fun e u' w' => (∃ v, e = .returned v) ∧ u' = (recM u).2 ∧ ∃ cs ρ', K cs ∧ Ext nin ρ ρ' ∧ SatC B.I G ρ' cs F w'
  have hend : ∀ (a : Act) (w : World), (∃ s ρ', FinD (B := B) G K nin (St.cs s) ∧ Ext nin ρ ρ' ∧ Rel (cxOf B G fn.ntmps nin []) ρ' s F a w) → bodyPostS B.P fn c0 csf R .normal a ({ c0 with mode := (recM u).2 } :: csf) w := by
    rintro a w ⟨s, ρ', hk, he', hr'⟩
    obtain ⟨cs2, ρ2, h1, h2, h3⟩ := hk ρ' F w hr'.mem
    exact ⟨hr'.dfs.1, (recM u).2, rfl, .tuple #[], by simp [results, hres], ⟨_, rfl⟩, rfl, cs2, ρ2, h1, he'.trans h2, h3⟩
  have tail : ∀ (p : Plan) (k : Nat) (listed : Array Bool) (s : St Pd) (ρ1 : Nat → Nat) (a : Act) (w : World), p.ok ops k listed = true →
      runPlan IntKind.wrap bitsOf B.ty (fun b x y => (b = true → x ()) ∧ (b = false → y ())) (fun l k => obsP l ∧ k ()) (NodeX (cxOf B G fn.ntmps nin [])) (fn.ntmps % 65536) nin ops.toList nin p s (fun s => FinD (B := B) G K nin s.cs) (fun _ _ => False) →
      Ext nin ρ ρ1 → Rel (cxOf B G fn.ntmps nin []) ρ1 s F a w → wpAnyS B.P .any ops (bodyPostS B.P fn c0 csf R) k listed a ({ c0 with mode := (recM u).2 } :: csf) w := by
    intro p k listed s ρ1 a w hp hrun he hr
    refine anyS_plain (Q := fun a w => ∃ s ρ', FinD (B := B) G K nin (St.cs s) ∧ Ext nin ρ ρ' ∧ Rel (cxOf B G fn.ntmps nin []) ρ' s F a w) hend k listed a w ?_
    exact runPlan_ok (X := cxOf B G fn.ntmps nin []) rfl hN hB.ty hsel (ρ0 := ρ) (F := F) (base := nin) (KP := fun _ _ => False) (Q := upN fun a w => ∃ s ρ', FinD (B := B) G K nin (St.cs s) ∧ Ext nin ρ ρ' ∧ Rel (cxOf B G fn.ntmps nin []) ρ' s F a w)
      (fun c a d v w _ hq => hq.elim) (fun s ρ' a w h1 h2 h3 => ⟨s, ρ', h1, h2, h3⟩) (fun v s ρ' a w h1 _ _ => h1.elim) p k listed s ρ1 a w hp hrun he hr
  have recst : ∀ (p : Plan) (k : Nat) (listed : Array Bool) (s : St Pd) (ρ1 : Nat → Nat) (a : Act) (w : World), p.ok ops k (listed.setIfInBounds ir true) = true →
      runPlan IntKind.wrap bitsOf B.ty (fun b x y => (b = true → x ()) ∧ (b = false → y ())) (fun l k => obsP l ∧ k ()) (NodeX (cxOf B G fn.ntmps nin [])) (fn.ntmps % 65536) nin ops.toList nin p ⟨eset s.env d sv, s.cs, s.n⟩ (fun s => FinD (B := B) G K nin s.cs) (fun _ _ => False) →
      Ext nin ρ ρ1 → Rel (cxOf B G fn.ntmps nin []) ρ1 s F a w →
      (match ops[ir]? with
      | none => wpAnyS B.P .any ops (bodyPostS B.P fn c0 csf R) k (listed.setIfInBounds ir true) a (c0 :: csf) w
      | some o =>
        if Region.wanted o (yielded ops a.tmps) then
          match (execOp a.eval o).run B.P w with
          | .ok .recover w' =>
            match recoverD (c0 :: csf) with
            | some (v, cs') => wpAnyS B.P .any ops (bodyPostS B.P fn c0 csf R) k (listed.setIfInBounds ir true) (a.put o.dst v) cs' w'
            | none => wpAnyS B.P .any ops (bodyPostS B.P fn c0 csf R) k (listed.setIfInBounds ir true) (a.put o.dst .nilIface) (c0 :: csf) w'
          | r => o.upon B.P a (fun a' w' => wpAnyS B.P .any ops (bodyPostS B.P fn c0 csf R) k (listed.setIfInBounds ir true) a' (c0 :: csf) w') (fun e a' w' => bodyPostS B.P fn c0 csf R e a' (c0 :: csf) w') r
        else wpAnyS B.P .any ops (bodyPostS B.P fn c0 csf R) k (listed.setIfInBounds ir true) (a.put o.dst undef) (c0 :: csf) w) := by
    intro p k listed s ρ1 a w hp hrun he hr
    simp only [hor]
    rw [if_pos (by simp [Region.wanted, hg])]
    refine recover_step (K := fun a cs w => wpAnyS B.P .any ops (bodyPostS B.P fn c0 csf R) k (listed.setIfInBounds ir true) a cs w) (hrec a w) ?_
    rw [hd, hu, ← hsv ρ1]
    refine tail p k _ _ ρ1 _ w hp hrun he ?_
    exact hr.put (d := some d) (v := sv) (e := eset s.env d sv) (hset _) hr.env hr.mem hr.nin
  rw [hm]
  unfold wpAnyS
  rw [hr0]
  refine ⟨fun hx => by simp at hx, fun i hi => ?_⟩
  simp only [List.mem_cons, List.not_mem_nil, or_false] at hi
  rcases hi with rfl | rfl
  · simp only [ho0]
    rw [if_pos (by simp [Region.wanted, hg0])]
    refine stepS (X := fun w' => _) (K := fun a w => ∃ s ρ', runPlan IntKind.wrap bitsOf B.ty (fun b x y => (b = true → x ()) ∧ (b = false → y ())) (fun l k => obsP l ∧ k ()) (NodeX (cxOf B G fn.ntmps nin [])) (fn.ntmps % 65536) nin ops.toList nin pB ⟨eset (St.env s) d sv, s.cs, s.n⟩ (fun s => FinD (B := B) G K nin s.cs) (fun _ _ => False) ∧ Ext nin ρ ρ' ∧ Rel (cxOf B G fn.ntmps nin []) ρ' s F a w) (Q := fun _ _ => False)
      (doOp_ok (X := cxOf B G fn.ntmps nin []) hN hB.ty (o := o0) (fr := nin + i) (nx := nin) (s := ⟨envOf 0 args, pre, nin⟩) (Nat.le_refl _) hBb hrel (fun s' ρ' a' w' hk he' hr' => ⟨s', ρ', hk, he', hr'⟩) (fun v s' ρ' w' hk _ _ => hk.elim) rfl) ?_
    rintro a1 w1 ⟨s1, ρ1, k1, k2, k3⟩
    unfold wpAnyS
    rw [hr1]
    refine ⟨fun hx => by simp at hx, fun i2 hi2 => ?_⟩
    simp only [List.mem_cons, List.not_mem_nil, or_false] at hi2
    subst hi2
    exact recst pB m _ s1 ρ1 a1 w1 hpB k1 k2 k3
  · exact recst pA (m + 1) _ ⟨envOf 0 args, pre, nin⟩ ρ a w hpA hA (Ext.refl _ _) hrel
/-- a field of a value -/
theorem field_ {X : Cx Pd} {t f off type : Nat} {a : Operand} {vs : List SV} {v : SV} {cs : List (Chunk Pd)} {n : Nat} {cont : Out → List (Chunk Pd) → Nat → Prop}
    (hrun : ∀ (xs : Array Value) (u : Value) (w : World), xs[off]? = some u → (Instr.field t (.agg xs) f).run X.P w = .ok u w) (hv : vs[off]? = some v) (hk : cont (.ret v) cs n) :
    NodeX X (.field t a f) type [.agg vs] cs n cont := by
  intro ρ F w ρe o ho _ hvs hs
  obtain ⟨dst, op, ty', pos, after, guard⟩ := o
  simp only at ho; subst ho
  have ha : ρe a = (SV.agg vs).den ρ := by simpa [Op.operands, SV.denL] using hvs
  have h1 : (SV.denL ρ vs).toArray[off]? = some (v.den ρ) := by rw [List.getElem?_toArray, denL_get, hv]; rfl
  have h2 : (execOp ρe ⟨dst, .field t a f, ty', pos, after, guard⟩).run X.P w = .ok (.value (v.den ρ)) w := by
    simp only [execOp, ha, SV.den, Sem.run_bind, hrun _ _ w h1, Result.andThen_ok, Sem.run_pure]
  rw [h2]
  exact ⟨v, cs, n, ρ, rfl, Nat.le_refl _, Ext.refl _ _, hs, hk⟩
/-- a value of an interface that has the methods of another one -/
theorem assert_if {X : Cx Pd} {xt at_ T type : Nat} {a : Operand} {v : SV} {cs : List (Chunk Pd)} {n : Nat} {cont : Out → List (Chunk Pd) → Nat → Prop}
    (hrun : ∀ (u : Value) (w : World), (Instr.typeAssert (.iface T u) xt at_ true).run X.P w = .ok (.tuple #[.iface T u, .bool true]) w) (hk : cont (.ret (.tuple [.iface T v, .tt])) cs n) :
    NodeX X (.typeAssert a xt at_ true) type [.iface T v] cs n cont := by
  intro ρ F w ρe o ho _ hvs hs
  obtain ⟨dst, op, ty', pos, after, guard⟩ := o
  simp only at ho; subst ho
  have ha : ρe a = (SV.iface T v).den ρ := by simpa [Op.operands, SV.denL] using hvs
  have h2 : (execOp ρe ⟨dst, .typeAssert a xt at_ true, ty', pos, after, guard⟩).run X.P w = .ok (.value (.tuple #[.iface T (v.den ρ), .bool true])) w := by
    simp only [execOp, ha, SV.den, Sem.run_bind, hrun _ w, Result.andThen_ok, Sem.run_pure]
  rw [h2]
  exact ⟨.tuple [.iface T v, .tt], cs, n, ρ, by simp [SV.den, SV.denL], Nat.le_refl _, Ext.refl _ _, hs, hk⟩
/-- a contract of the library that chooses what it hands back -/
theorem triple_libE {α : Type} {f : FuncId} {args : List SV} {post : (Out → List (Chunk Pd) → Prop) → Prop} (out : α → Out) (ok : α → Prop) (hpost : ∀ K, post K → ∀ x, ok x → K (out x) []) (hcall : ∀ as w, (callFunc f as).run B.P w = .ok (.enter f as) w)
    (hl : ∀ G, B.GOk G → ∀ (ρ : Nat → Nat) (w : World), (∀ b, b < G.base → w.heap[b]? = G.w0 b) → G.base ≤ w.heap.size →
      Calls B.P f (SV.denL ρ args).toArray w fun e w' => (∃ x, ok x ∧ OutRel ρ (out x) e) ∧ w.heap.size ≤ w'.heap.size ∧ (∀ b, b < w.heap.size → w'.heap[b]? = w.heap[b]?) ∧ io w' = io w) :
    Triple B f 0 0 args [] post := by
  refine ⟨hcall, fun G hG K hK ρ F w hs => (hl G hG ρ w hs.old.old hs.size).mono ?_⟩
  rintro e w' ⟨⟨x, hx, h1⟩, h2, h3, h4⟩
  exact ⟨out x, [], ρ, h1, hpost K hK x hx, Ext.refl _ _, hs.grow h2 h3 h4⟩
/-- a slice of no cells that is made -/
theorem build0_ {α : Type} {X : Cx Pd} (hty : X.ty.ok X.P) {t e type wd n : Nat} {ti te : TI} (enc : α → List Lit) {cs : List (Chunk Pd)} {cont : Out → List (Chunk Pd) → Nat → Prop}
    (ht : X.ty t = some ti) (htd : ti.d = .slice e) (he : X.ty e = some te) (hwd : te.size = wd) (hr : call (belowB n) cs = true)
    (hk : cont (.ret (.vec true n wd 0 0 0)) (.arr true true n e enc [] :: cs) (n + 1)) : NodeX X (.buildSlice t 0 #[]) type [] cs n cont := by
  intro ρ F w ρe o ho _ hvs hs
  obtain ⟨dst, op, ty', pos, after, guard⟩ := o
  simp only at ho; subst ho
  have hd := (hty _ _ ht).desc
  rw [htd] at hd; simp only [TD.ok] at hd
  have hz := (hty _ _ he).run_sizeOf w
  have h2 : (execOp ρe ⟨dst, .buildSlice t 0 #[], ty', pos, after, guard⟩).run X.P w = .ok (.value (.slice (some ⟨w.heap.size, 0, none⟩) 0 0)) { w with heap := w.heap.push (.cells #[] e (0, 0)) } := by
    simp only [execOp, Instr.buildSlice, Sem.run_bind, run_underlying hd, Result.andThen_ok, hz, Sem.run_ite]
    rw [if_neg (by simp), if_pos (by simp)]
    have h0 : Array.range 0 = #[] := by simp [Array.range]
    simp [Instr.fill, newRow, h0]
  rw [h2]
  refine ⟨.vec true n wd 0 0 0, _, n + 1, upd1 ρ n w.heap.size, by simp [SV.den, upd1], Nat.le_succ _, fun i hi => upd1_ne (by omega), newArr (enc := enc) (xs := []) hs hr, hk⟩
/-- is a slice nil? -/
theorem eq_nil_slice {X : Cx Pd} (hty : X.ty.ok X.P) {t e type id wd lo len cap n : Nat} {ti : TI} {a b : Operand} {p : Bool} {cs : List (Chunk Pd)} {cont : Out → List (Chunk Pd) → Nat → Prop}
    (ht : X.ty t = some ti) (htd : ti.d = .slice e) (hg : X.P.eqGuardType X.P.depth t = false)
    (hk : cont (.ret (.bool (!p))) cs n) : NodeX X (.binOp .eql t a b t) type [.vec p id wd lo len cap, .nilslice] cs n cont := by
  intro ρ F w ρe o ho _ hvs hs
  obtain ⟨dst, op, ty', pos, after, guard⟩ := o
  simp only at ho; subst ho
  have hd := (hty _ _ ht).desc
  rw [htd] at hd; simp only [TD.ok] at hd
  have hab : ρe a = (SV.vec p id wd lo len cap).den ρ ∧ ρe b = .slice none 0 0 := by simpa [Op.operands, SV.denL, SV.den] using hvs
  have h2 : (execOp ρe ⟨dst, .binOp .eql t a b t, ty', pos, after, guard⟩).run X.P w = .ok (.value (.bool (!p))) w := by
    cases p with
    | true => simp [execOp, hab.1, hab.2, SV.den, eqGuard, run_program, hg, binOp, run_equal_slice_nil w t e _ _ _ hd]
    | false => simp [execOp, hab.1, hab.2, SV.den, eqGuard, run_program, hg, binOp, run_equal_slice_nil w t e _ _ _ hd]
  rw [h2]
  exact ⟨.bool (!p), cs, n, ρ, rfl, Nat.le_refl _, Ext.refl _ _, hs, hk⟩
/-- a string out of cells that lie as they are -/
theorem load_obj {X : Cx Pd} (hty : X.ty.ok X.P) {id idx n : Nat} {T t type : TypeId} {ti : TI} {a : Operand} {cur : Array Value} {fz : Nat × Nat} {s : ByteArray} {cs rest : List (Chunk Pd)} {cont : Out → List (Chunk Pd) → Nat → Prop}
    (hp : pickC [id] cs = some ([.obj id (.cells cur T fz)], rest)) (ht : X.ty t = some ti) (hta : ti.d.isAgg = false) (hx : cur[idx]? = some (.string s)) (hk : cont (.ret (.str s)) cs n) :
    NodeX X (.load t a) type [.eptr id 1 idx 0] cs n cont := by
  intro ρ F w ρe o ho _ hv hs
  obtain ⟨dst, op, ty', pos, after, guard⟩ := o
  simp only at ho; subst ho
  have ha : ρe a = (SV.eptr id 1 idx 0).den ρ := by simpa [Op.operands, SV.denL] using hv
  have hb : w.heap[ρ id]? = some (.cells cur T fz) := (hs.perm (pick_one hp)).objc
  have hag := (hty _ _ ht).run_isAgg w
  have hc : w.cell? ⟨ρ id, idx * 1 + 0, none⟩ = some (.string s) := by simp [World.cell?, hb, hx]
  have h2 : (Instr.loadAt t ((SV.eptr id 1 idx 0).den ρ)).run X.P w = .ok (.string s) w := by
    simp only [Instr.loadAt, SV.den, Instr.sureAddr, Sem.run_bind, Sem.run_pure, Result.andThen_ok, loadVar, hag, hta]
    simp [load, Sem.run, hc] at hc ⊢
    simp [hc]
  simp only [execOp, ha, Sem.run_bind, h2, Result.andThen_ok, Sem.run_pure, Upon]
  exact ⟨_, cs, n, ρ, by simp [SV.den], Nat.le_refl _, Ext.refl _ _, hs, hk⟩
 end
end Sx
/- A condition that is known. -/
namespace Sx
open Go
section
variable {Pd : Type} {X : Cx Pd} {W : IntKind → Int → Int} {bits : Bits} {Ncond : Bool → (Unit → Prop) → (Unit → Prop) → Prop} {Nob : List Ob → (Unit → Prop) → Prop}
  {Nop : Op → TypeId → List SV → List (Chunk Pd) → Nat → (Out → List (Chunk Pd) → Nat → Prop) → Prop} {Nloop Nscope : Code → St Pd → (SX → St Pd → Prop) → Prop}
theorem cond_T (hN : Nodes X W bits Ncond Nob Nop Nloop Nscope) {b : Bool} (hb : b = true) {x y : Unit → Prop} (h1 : x ()) : Ncond b x y := cond_ hN (fun _ => h1) (fun e => by rw [hb] at e; cases e)
theorem cond_F (hN : Nodes X W bits Ncond Nob Nop Nloop Nscope) {b : Bool} (hb : b = false) {x y : Unit → Prop} (h2 : y ()) : Ncond b x y := cond_ hN (fun e => by rw [hb] at e; cases e) (fun _ => h2)
 end
end Sx
/- A slice of bytes that is said to be one. -/
namespace Sx
open Go
section
variable {Pd : Type}
theorem conv_same {X : Cx Pd} (hty : X.ty.ok X.P) {a : Operand} {id len n : Nat} {S e T type : TypeId} {ti tee : TI} {xs : List UInt8} {vs : List SV} {cs rest : List (Chunk Pd)} {cont : Out → List (Chunk Pd) → Nat → Prop}
    (hS : X.ty S = some ti) (hSd : ti.d = .slice e) (he : X.ty e = some tee) (hee : tee.d = .int .u8)
    (hp : pickC [id] cs = some ([.cells id T vs], rest)) (hvs : ∀ ρ, (SV.denL ρ vs).toArray = arrCells encB xs)
    (hk : cont (.ret (.vec true id 1 0 len len)) (.arr true false id T encB xs :: rest) n) : NodeX X (.convert S S a) type [.slice id 1 0 len len] cs n cont := by
  intro ρ F w ρe o ho _ hv hs
  obtain ⟨dst, op, ty', pos, after, guard⟩ := o
  simp only at ho; subst ho
  have ha : ρe a = (SV.slice id 1 0 len len).den ρ := by simpa [Op.operands, SV.denL] using hv
  have hd1 := (hty _ _ hS).desc
  have hd3 := (hty _ _ he).desc
  rw [hSd] at hd1; rw [hee] at hd3
  simp only [TD.ok] at hd1 hd3
  have hs1 : Sat X.G (pts (ρ id) (.cells (arrCells encB xs) T (0, 0)) :: (rest.map (Chunk.den X.I ρ) ++ [F])) w := by
    have := hs.perm (pick_one hp)
    simpa only [SatC, List.map_cons, List.cons_append, Chunk.den, hvs] using this
  have hb := hs1.get
  let w3 : World := w.freeze { block := ρ id, off := (arrCells encB xs).size } 1
  have hsh : w.shape? (ρ id) = some (T, (arrCells encB xs).size) := by simp [World.shape?, hb]
  have hrun : (execOp ρe ⟨dst, .convert S S a, ty', pos, after, guard⟩).run X.P w = .ok (.value (.slice (some ⟨ρ id, 0, none⟩) len len)) w3 := by
    simp only [execOp, ha, SV.den, Sem.run_bind, convert, run_underlying hd1, run_underlying hd3, Result.andThen_ok, markStringish, run_shape, Sem.run_pure, beq_self_eq_true, hsh, run_freeze]
    simp [w3, run_underlying hd3, run_shape, hsh, run_freeze, Result.andThen]
  rw [hrun]
  refine ⟨.vec true id 1 0 len len, _, n, ρ, by simp [SV.den], Nat.le_refl _, Ext.refl _ _, ?_, hk⟩
  have h3 : Sat X.G (pts (ρ id) (.cells (arrCells encB xs) T ((arrCells encB xs).size, (arrCells encB xs).size + 1)) :: (rest.map (Chunk.den X.I ρ) ++ [F])) w3 := by
    refine Sat.put hs1 ?_ rfl
    show (w.freeze _ 1).heap = _
    simp only [World.freeze]
    rw [if_neg (by omega)]
    rw [modify_eq_set _ _ _ _ hb]
    simp
  obtain ⟨p1, p2, g, p, s', t⟩ := h3
  exact ⟨p1, p2, g, fun _ => ⟨((arrCells encB xs).size, (arrCells encB xs).size + 1), (fun h => by cases h), by simpa using p⟩, s', t⟩
 end
end Sx
/- A byte of a block that stood there before. -/
namespace Sx
open Go
section
variable {Pd : Type}
/-- these bytes lie in a block that stood there before -/
def OldB (GOk : Gl → Prop) (g lo : Nat) (text : List UInt8) : Prop := ∀ G, GOk G → ∀ i x, text[i]? = some x → g < G.base ∧ ∃ cs T fz, G.w0 g = some (.cells cs T fz) ∧ cs[lo + i]? = some (.int .u8 (x.toNat : Nat))
theorem OldB.take {GOk : Gl → Prop} {g lo : Nat} {text : List UInt8} (h : OldB GOk g lo text) (n : Nat) : OldB GOk g lo (text.take n) := fun G hG i x hx => by
  rw [List.getElem?_take] at hx
  split at hx
  · exact h G hG i x hx
  · exact nomatch hx
theorem load_old {X : Cx Pd} (hty : X.ty.ok X.P) {g id idx n lo i : Nat} {t type : TypeId} {ti : TI} {a : Operand} {x : UInt8} {cs : List (Chunk Pd)} {cont : Out → List (Chunk Pd) → Nat → Prop}
    (hat : (Chunk.at_ id g : Chunk Pd) ∈ cs) (ht : X.ty t = some ti) (hta : ti.d.isAgg = false) {GOk : Gl → Prop} (hG : GOk X.G) {text : List UInt8} (hS : OldB GOk g lo text) (hidx : idx = lo + i) (hx : text[i]? = some x)
    (hk : ∀ b : Int, b = (x.toNat : Nat) → cont (.ret (.int .u8 b)) cs n) : NodeX X (.load t a) type [.eptr id 1 idx 0] cs n cont := by
  intro ρ F w ρe o ho _ hv hs
  obtain ⟨dst, op, ty', pos, after, guard⟩ := o
  simp only at ho; subst ho
  have ha : ρe a = (SV.eptr id 1 idx 0).den ρ := by simpa [Op.operands, SV.denL] using hv
  have hg : ρ id = g := hs.at_ hat
  obtain ⟨h1, c2, T2, fz, h2, h3⟩ := hS X.G hG i x hx
  have hb : w.heap[g]? = some (.cells c2 T2 fz) := by rw [hs.old.old g h1, h2]
  have hc : w.cell? ⟨ρ id, idx * 1 + 0, none⟩ = some (.int .u8 (x.toNat : Nat)) := by
    simp only [World.cell?, hg, hb, Option.isSome_none, Bool.false_eq_true, if_false, Nat.mul_one, Nat.add_zero, hidx, h3]
  have hagg := (hty _ _ ht).run_isAgg w
  rw [hta] at hagg
  have h4 : (execOp ρe ⟨dst, .load t a, ty', pos, after, guard⟩).run X.P w = .ok (.value (.int .u8 (x.toNat : Nat))) w := by
    have h5 : (Instr.loadAt t ((SV.eptr id 1 idx 0).den ρ)).run X.P w = .ok (.int .u8 (x.toNat : Nat)) w := by
      simp only [Instr.loadAt, SV.den, Instr.sureAddr, Sem.run_bind, Sem.run_pure, Result.andThen_ok, loadVar, hagg]
      have hc2 : w.cell? ⟨ρ id, idx, none⟩ = some (.int .u8 (x.toNat : Nat)) := by simpa using hc
      simp [load, Sem.run, hc2]
    simp only [execOp, ha, Sem.run_bind, h5, Result.andThen_ok, Sem.run_pure]
  rw [h4]
  exact ⟨.int .u8 (x.toNat : Nat), cs, n, ρ, rfl, Nat.le_refl _, Ext.refl _ _, hs, hk _ rfl⟩
 end
end Sx
/- Trees in memory that stood there before: nodes of four cells, their kids in slices. A slice to nothing with its room kept. -/
namespace Sx
open Go
inductive Nd where
  | mk (kind : Int) (text val : ByteArray) (p : Bool) (g off cap : Nat) (kids : List Nd)
def Nd.kind : Nd → Int | .mk k _ _ _ _ _ _ _ => k
def Nd.text : Nd → ByteArray | .mk _ t _ _ _ _ _ _ => t
def Nd.val : Nd → ByteArray | .mk _ _ v _ _ _ _ _ => v
def Nd.p : Nd → Bool | .mk _ _ _ p _ _ _ _ => p
def Nd.g : Nd → Nat | .mk _ _ _ _ g _ _ _ => g
def Nd.off : Nd → Nat | .mk _ _ _ _ _ o _ _ => o
def Nd.cap : Nd → Nat | .mk _ _ _ _ _ _ c _ => c
def Nd.kids : Nd → List Nd | .mk _ _ _ _ _ _ _ k => k
/-- its kids as a slice -/
def Nd.sl (k : Nd) : SV := .gsl k.p k.g k.off 4 k.kids.length k.cap
def Nd.row (k : Nd) : List SV := [.int .i64 k.kind, .str k.text, .str k.val, k.sl]
def Nd.sv (k : Nd) : SV := .agg k.row
theorem Nd.row_den (ρ σ : Nat → Nat) (k : Nd) : SV.denL ρ k.row = SV.denL σ k.row := by simp [Nd.row, SV.denL, SV.den, Nd.sl]
theorem Nd.row_len (ρ : Nat → Nat) (k : Nd) : (SV.denL ρ k.row).length = 4 := by simp [Nd.row, SV.denL]
mutual
def Nd.At (w0 : Nat → Option Obj) (base : Nat) : Nd → Prop
  | .mk _ _ _ p g off cap kids => kids.length ≤ cap ∧ cap ≤ 9223372036854775807 ∧ (p = false → kids = []) ∧ NdsAt w0 base g off kids
def NdsAt (w0 : Nat → Option Obj) (base g off : Nat) : List Nd → Prop
  | [] => True
  | k :: r => (g < base ∧ ∃ cs T fz, w0 g = some (.cells cs T fz) ∧ ∀ f v, (SV.denL (fun _ => 0) k.row)[f]? = some v → cs[off + f]? = some v) ∧ k.At w0 base ∧ NdsAt w0 base g (off + 4) r
 end
theorem NdsAt.get {w0 : Nat → Option Obj} {base g : Nat} : ∀ {l : List Nd} {off : Nat}, NdsAt w0 base g off l → ∀ {i : Nat} {k : Nd}, l[i]? = some k →
    (g < base ∧ ∃ cs T fz, w0 g = some (.cells cs T fz) ∧ ∀ f v, (SV.denL (fun _ => 0) k.row)[f]? = some v → cs[off + i * 4 + f]? = some v) ∧ k.At w0 base
  | [], _, _, _, _, h => by simp at h
  | k :: r, off, h, 0, k', e => by
    simp only [NdsAt] at h
    simp only [List.getElem?_cons_zero, Option.some.injEq] at e; subst e
    simp only [Nat.zero_mul, Nat.add_zero]
    exact ⟨h.1, h.2.1⟩
  | k :: r, off, h, i + 1, k', e => by
    simp only [NdsAt] at h
    have := NdsAt.get h.2.2 (i := i) (k := k') (by simpa using e)
    rw [show off + (i + 1) * 4 = off + 4 + i * 4 by omega]
    exact this
/-- a tree that stands in each old memory -/
def OldN (GOk : Gl → Prop) (k : Nd) : Prop := ∀ G, GOk G → k.At G.w0 G.base
theorem OldN.kid {GOk : Gl → Prop} {n k : Nd} {i : Nat} (h : OldN GOk n) (hk : n.kids[i]? = some k) : OldN GOk k := fun G hG => by
  have := h G hG
  obtain ⟨_, _, _, p, g, off, cap, kids⟩ := n
  simp only [Nd.At] at this
  exact (this.2.2.2.get hk).2
theorem OldN.mem {GOk : Gl → Prop} {n k : Nd} (h : OldN GOk n) (hk : k ∈ n.kids) : OldN GOk k := by
  obtain ⟨i, hi⟩ := List.getElem?_of_mem hk
  exact h.kid hi
theorem OldN.p {GOk : Gl → Prop} {n : Nd} {G : Gl} (hG : GOk G) (h : OldN GOk n) {i : Nat} (hi : i < n.kids.length) : n.p = true := by
  have := h G hG
  obtain ⟨_, _, _, p, g, off, cap, kids⟩ := n
  simp only [Nd.At, Nd.p, Nd.kids] at this hi ⊢
  cases p
  · have := this.2.2.1 rfl; subst this; simp at hi
  · rfl
theorem OldN.len {GOk : Gl → Prop} {n : Nd} {G : Gl} (hG : GOk G) (h : OldN GOk n) : n.kids.length ≤ 9223372036854775807 := by
  have := h G hG
  obtain ⟨_, _, _, p, g, off, cap, kids⟩ := n
  simp only [Nd.At, Nd.kids] at this ⊢
  omega
section
variable {Pd : Type}
theorem load_kid {X : Cx Pd} (hty : X.ty.ok X.P) {GOk : Gl → Prop} (hG : GOk X.G) {nd k : Nd} (hS : OldN GOk nd) {i n : Nat} (hi : nd.kids[i]? = some k) {t type : TypeId} {ti : TI} {a : Operand} {cs : List (Chunk Pd)} {cont : Out → List (Chunk Pd) → Nat → Prop}
    (ht : X.ty t = some ti) (hta : ti.d.isAgg = true) (htz : ti.size = 4) {g off : Nat} (hg : g = nd.g) (ho : off = nd.off) (hk : cont (.ret k.sv) cs n) : NodeX X (.load t a) type [.gel g off 4 i 0] cs n cont := by
  intro ρ F w ρe o ho' _ hv hs
  subst hg; subst ho
  obtain ⟨dst, op, ty', pos, after, guard⟩ := o
  simp only at ho'; subst ho'
  have ha : ρe a = (SV.gel nd.g nd.off 4 i 0).den ρ := by simpa [Op.operands, SV.denL] using hv
  have h0 := hS X.G hG
  obtain ⟨_, _, _, p, g, off, cap, kids⟩ := nd
  simp only [Nd.At] at h0
  obtain ⟨⟨h1, c2, T2, fz, h2, h3⟩, _⟩ := h0.2.2.2.get hi
  simp only [Nd.g, Nd.off] at ha h3
  have hb : w.heap[g]? = some (.cells c2 T2 fz) := by rw [hs.old.old g h1, h2]
  have hsz : off + i * 4 + 4 ≤ c2.size := by
    have := h3 3 _ (by simp only [Nd.row, SV.denL]; rfl)
    have := (Array.getElem?_eq_some_iff.1 this).1
    omega
  have hagg := (hty _ _ ht).run_isAgg w
  have hz := (hty _ _ ht).run_sizeOf w
  rw [hta] at hagg
  rw [htz] at hz
  have hlc := loadCellsFrom_run (P := X.P) hb 4 (off + i * 4) 0 #[] (by omega)
  have hex : c2.extract (off + i * 4) (off + i * 4 + 4) = (SV.denL ρ k.row).toArray := by
    apply Array.ext
    · have := Nd.row_len ρ k
      simp [this]; omega
    · intro f hf1 hf2
      have hf4 : f < 4 := by simp at hf1; omega
      have e1 : (SV.denL (fun _ => 0) k.row)[f]? = some ((SV.denL ρ k.row)[f]'(by rw [Nd.row_len]; exact hf4)) := by
        rw [Nd.row_den (fun _ => 0) ρ, List.getElem?_eq_getElem (by rw [Nd.row_len]; exact hf4)]
      have e2 := h3 f _ e1
      have e3 := (Array.getElem?_eq_some_iff.1 e2).2
      simp only [Array.getElem_extract, List.getElem_toArray]
      rw [← e3]
  have h4 : (execOp ρe ⟨dst, .load t a, ty', pos, after, guard⟩).run X.P w = .ok (.value (k.sv.den ρ)) w := by
    have h5 : (Instr.loadAt t ((SV.gel g off 4 i 0).den ρ)).run X.P w = .ok (k.sv.den ρ) w := by
      simp only [Instr.loadAt, SV.den, Instr.sureAddr, Sem.run_bind, Sem.run_pure, Result.andThen_ok, loadVar, hagg, if_true, hz, loadCells, Nat.add_zero]
      simp only [Nat.add_zero] at hlc
      rw [hlc]
      simp [Nd.sv, SV.den, hex]
    simp only [execOp, ha, Sem.run_bind, h5, Result.andThen_ok, Sem.run_pure]
  rw [h4]
  exact ⟨k.sv, cs, n, ρ, rfl, Nat.le_refl _, Ext.refl _ _, hs, hk⟩

theorem load_kidF {X : Cx Pd} (hty : X.ty.ok X.P) {GOk : Gl → Prop} (hG : GOk X.G) {nd k : Nd} (hS : OldN GOk nd) {i f n : Nat} {v : SV} (hi : nd.kids[i]? = some k) (hf : k.row[f]? = some v) {t type : TypeId} {ti : TI} {a : Operand} {cs : List (Chunk Pd)} {cont : Out → List (Chunk Pd) → Nat → Prop}
    (ht : X.ty t = some ti) (hta : ti.d.isAgg = false) {g off : Nat} (hg : g = nd.g) (ho : off = nd.off) (hk : cont (.ret v) cs n) : NodeX X (.load t a) type [.gel g off 4 i f] cs n cont := by
  intro ρ F w ρe o ho' _ hv hs
  subst hg; subst ho
  obtain ⟨dst, op, ty', pos, after, guard⟩ := o
  simp only at ho'; subst ho'
  have ha : ρe a = (SV.gel nd.g nd.off 4 i f).den ρ := by simpa [Op.operands, SV.denL] using hv
  have h0 := hS X.G hG
  obtain ⟨_, _, _, p, g, off, cap, kids⟩ := nd
  simp only [Nd.At] at h0
  obtain ⟨⟨h1, c2, T2, fz, h2, h3⟩, _⟩ := h0.2.2.2.get hi
  simp only [Nd.g, Nd.off] at ha h3
  have hb : w.heap[g]? = some (.cells c2 T2 fz) := by rw [hs.old.old g h1, h2]
  have hagg := (hty _ _ ht).run_isAgg w
  rw [hta] at hagg
  have e1 : (SV.denL (fun _ => 0) k.row)[f]? = some (v.den ρ) := by
    rw [Nd.row_den (fun _ => 0) ρ, denL_get, hf]; rfl
  have hc : w.cell? ⟨g, off + i * 4 + f, none⟩ = some (v.den ρ) := by
    simp only [World.cell?, hb, Option.isSome_none, Bool.false_eq_true, if_false]
    exact h3 f _ e1
  have h4 : (execOp ρe ⟨dst, .load t a, ty', pos, after, guard⟩).run X.P w = .ok (.value (v.den ρ)) w := by
    have h5 : (Instr.loadAt t ((SV.gel g off 4 i f).den ρ)).run X.P w = .ok (v.den ρ) w := by
      simp only [Instr.loadAt, SV.den, Instr.sureAddr, Sem.run_bind, Sem.run_pure, Result.andThen_ok, loadVar, hagg]
      simp [load, Sem.run, hc]
    simp only [execOp, ha, Sem.run_bind, h5, Result.andThen_ok, Sem.run_pure]
  rw [h4]
  exact ⟨v, cs, n, ρ, rfl, Nat.le_refl _, Ext.refl _ _, hs, hk⟩

/-- x[:0:cap(x)] -/
theorem slice_none {X : Cx Pd} (hty : X.ty.ok X.P) {p : Bool} {id wd lo len cap n : Nat} {t type : TypeId} {x h m : Operand} {k1 k2 : IntKind} {cs : List (Chunk Pd)} {cont : Out → List (Chunk Pd) → Nat → Prop}
    (hz : sizeAt X.ty (X.ty t) = some wd) {c : Int} (hc : c = (cap : Int)) (hk : cont (.ret (.vec p id wd lo 0 cap)) cs n) : NodeX X (.slice t x none (some h) (some m)) type [.vec p id wd lo len cap, .int k1 0, .int k2 c] cs n cont := by
  intro ρ F w ρe o ho' _ hv hs
  subst hc
  obtain ⟨dst, op, ty', pos, after, guard⟩ := o
  simp only at ho'; subst ho'
  have ha : ρe x = (SV.vec p id wd lo len cap).den ρ ∧ ρe h = .int k1 0 ∧ ρe m = .int k2 cap := by simpa [Op.operands, SV.denL, SV.den] using hv
  obtain ⟨e, hu, hz⟩ := sizeAt_ok hty hz
  have h4 : (execOp ρe ⟨dst, .slice t x none (some h) (some m), ty', pos, after, guard⟩).run X.P w = .ok (.value ((SV.vec p id wd lo 0 cap).den ρ)) w := by
    simp [execOp, ha.1, ha.2.1, ha.2.2, Instr.sliceAt, Instr.slice, SV.den, run_underlying hu, hz, Instr.sliceBounds, Instr.sliceBound, asIntOf]
    intro _; cases p <;> simp [Addr.add]
  rw [h4]
  exact ⟨_, cs, n, ρ, rfl, Nat.le_refl _, Ext.refl _ _, hs, hk⟩
 end
end Sx
/- Cells that were laid as a slice's, taken for an array. -/
namespace Sx
open Go
section
variable {Pd : Type} {I : Pd → List Nat → HP} {G : Gl} {ρ : Nat → Nat} {cs rest : List (Chunk Pd)} {F : HP} {w : World} {α : Type}
theorem SatC.toArr {id : Nat} {T : TypeId} {vs : List SV} {enc : α → List Lit} {xs : List α} (h : SatC I G ρ cs F w) (hp : pickC [id] cs = some ([.cells id T vs], rest)) (he : ∀ ρ, (SV.denL ρ vs).toArray = arrCells enc xs) :
    SatC I G ρ (.arr true true id T enc xs :: rest) F w := by
  have h1 := h.perm (pickC_perm hp)
  refine ⟨h1.size, h1.old, ?_⟩
  refine SatR.map1 (fun h hh _ => ⟨(0, 0), fun _ i hi => ?_, ?_⟩) h1.sep
  · simp
  · rw [← he ρ]; exact hh
theorem leads_arr {X : Cx Pd} (id : Nat) {T : TypeId} {vs : List SV} (enc : α → List Lit) (xs : List α) {s : St Pd} {J : St Pd → Prop} (hp : pickC [id] s.cs = some ([.cells id T vs], rest)) (he : ∀ ρ, (SV.denL ρ vs).toArray = arrCells enc xs)
    (h : Leads X ⟨s.env, .arr true true id T enc xs :: rest, s.n⟩ J) : Leads X s J :=
  fun ρ F a w hr => h ρ F a w ⟨hr.env, hr.mem.toArr hp he, hr.size, hr.dfs, hr.nin⟩
theorem op_arr {X : Cx Pd} (id : Nat) {T : TypeId} {vs : List SV} (enc : α → List Lit) (xs : List α) {op : Op} {type : TypeId} {vals : List SV} {n : Nat} {cont : Out → List (Chunk Pd) → Nat → Prop} (hp : pickC [id] cs = some ([.cells id T vs], rest)) (he : ∀ ρ, (SV.denL ρ vs).toArray = arrCells enc xs)
    (h : NodeX X op type vals (.arr true true id T enc xs :: rest) n cont) : NodeX X op type vals cs n cont :=
  fun ρ F w ρe o h1 h2 h3 hs => h ρ F w ρe o h1 h2 h3 (hs.toArr hp he)
theorem fin_arr {B : Base Pd} (id : Nat) {T : TypeId} {vs : List SV} (enc : α → List Lit) (xs : List α) {K : Out → List (Chunk Pd) → Prop} {nin : Nat} {out : Out} (hp : pickC [id] cs = some ([.cells id T vs], rest)) (he : ∀ ρ, (SV.denL ρ vs).toArray = arrCells enc xs)
    (h : Fin B G K nin out (.arr true true id T enc xs :: rest)) : Fin B G K nin out cs :=
  fun ρ F w hs => h ρ F w (hs.toArr hp he)
/-- a value of an interface that has not the methods of another one -/
theorem assert_no {X : Cx Pd} {xt at_ T type : Nat} {a : Operand} {v : SV} {cs : List (Chunk Pd)} {n : Nat} {cont : Out → List (Chunk Pd) → Nat → Prop}
    (hrun : ∀ (u : Value) (w : World), (Instr.typeAssert (.iface T u) xt at_ true).run X.P w = .ok (.tuple #[.nilIface, .bool false]) w) (hk : cont (.ret (.tuple [.niliface, .ff])) cs n) :
    NodeX X (.typeAssert a xt at_ true) type [.iface T v] cs n cont := by
  intro ρ F w ρe o ho _ hvs hs
  obtain ⟨dst, op, ty', pos, after, guard⟩ := o
  simp only at ho; subst ho
  have ha : ρe a = (SV.iface T v).den ρ := by simpa [Op.operands, SV.denL] using hvs
  have h2 : (execOp ρe ⟨dst, .typeAssert a xt at_ true, ty', pos, after, guard⟩).run X.P w = .ok (.value (.tuple #[.nilIface, .bool false])) w := by
    simp only [execOp, ha, SV.den, Sem.run_bind, hrun _ w, Result.andThen_ok, Sem.run_pure]
  rw [h2]
  exact ⟨.tuple [.niliface, .ff], cs, n, ρ, by simp [SV.den, SV.denL], Nat.le_refl _, Ext.refl _ _, hs, hk⟩
/-- append, where the zero of the elements is said otherwise -/
theorem append_vecZ {X : Cx Pd} (hty : X.ty.ok X.P) {x : SV} {a b : Operand} {p : Bool} {id wd lo len cap n : Nat} {e t1 t2 type : TypeId} {te T1 T2 : TI} {enc : α → List Lit} {z : α} {xs new : List α} {cont : Out → List (Chunk Pd) → Nat → Prop} (z' : SV)
    (h1 : X.ty t1 = some T1) (hT1 : T1.d = .slice e) (he : X.ty e = some te) (h2 : X.ty t2 = some T2) (hT2 : ∀ k, T2.d ≠ .int k) (hz : z'.cellsL = some ((enc z).map SV.ofLit)) (hzd : ∀ ρ, z'.den ρ = te.zero.den ρ) (hzi : z'.idOk (fun _ => false) = true) (hn1 : Nat.beq t1 e = false) (hn2 : Nat.beq t2 e = false) (hwd : te.size = wd) (hw : Wide te.size enc)
    (hp : pickC [id] cs = some ([.arr p true id e enc xs], rest)) (hr : call (belowB n) rest = true) (hsrc : Src X te.size x cs enc new) (hpr : p = false → cap = 0) (hcap : lo + cap ≤ xs.length) (hlen : len ≤ cap)
    (hroom : (len + new.length) * te.bytes ≤ 140737488355328) (hb0 : 0 < te.bytes)
    (hk : ∀ p' lo' m cap' xs', m = len + new.length → (p' = false → cap' = 0) → lo' + cap' ≤ xs'.length → m ≤ cap' → (xs'.drop lo').take m = (xs.drop lo).take len ++ new →
      cont (.ret (.vec p' n wd lo' m cap')) (.arr p' true n e enc xs' :: rest) (n + 1)) :
    NodeX X (.call ⟨.builtin .append, #[a, b], #[t1, t2]⟩) type [.vec p id wd lo len cap, x] cs n cont := by
  let ty' : Tab := fun t => if t = e then some { te with zero := z' } else X.ty t
  let X' : Cx Pd := { X with ty := ty' }
  have ne : ∀ t, Nat.beq t e = false → t ≠ e := fun t h h2 => by subst h2; rw [Nat.beq_refl] at h; cases h
  have hty' : ty'.ok X.P := by
    intro t y hy
    by_cases ht : t = e
    · simp only [ty', ht, if_true, Option.some.injEq] at hy
      subst hy; subst ht
      have h := hty _ _ he
      obtain ⟨i, a1, a2, a3, a4⟩ := h.info
      exact ⟨⟨i, a1, a2, a3, by rw [a4]; exact congrArg some (hzd _).symm⟩, hzi, h.desc⟩
    · simp only [ty', ht, if_false] at hy
      exact hty _ _ hy
  have h1' : X'.ty t1 = some T1 := by simp only [X', ty', if_neg (ne _ hn1)]; exact h1
  have h2' : X'.ty t2 = some T2 := by simp only [X', ty', if_neg (ne _ hn2)]; exact h2
  have he' : X'.ty e = some { te with zero := z' } := by simp only [X', ty', if_true]
  exact append_vec (X := X') hty' h1' hT1 he' h2' hT2 hz hwd hw hp hr hsrc hpr hcap hlen hroom hb0 hk
 end
end Sx
/- A range over a function, in the frame of one function; its rounds may be left by a panic. -/
namespace Sx
open Go
section
variable {P : Program} {f : FuncId} {Q : Exit → Act → World → Prop} {a : Act} {w : World}
/-- code, in the frame of one function -/
def wpB (f : FuncId) (P : Program) (c : Code) (Q : Exit → Act → World → Prop) (a : Act) (w : World) : Prop :=
  ∀ (b : Frame) (k : List Item) (cs : List Frame), b.roundOf = none → b.fn = f →
    ∃ e a' w', Q e a' w' ∧ ArrivesIn (Machine.fenced P Fence.wide) P (lone (b.atR a (.code c :: k)) cs w) b k cs e a' w'
theorem wpB_of {c : Code} (h : c.wp P Q a w) : wpB f P c Q a w := fun b k cs hro _ => wpIn_wide (n := 0).2 h b k cs hro trivial (room_wide _)
theorem wpB_seq {x y : Code} (h : wpB f P x (Exit.then (wpB f P y Q) Q) a w) : wpB f P (.seq x y) Q a w := by
  intro b k cs hro hb
  have h0 : (lone (b.atR a (.code (.seq x y) :: k)) cs w).fenced P Fence.wide := fenced_wide _ _
  obtain ⟨e, a₁, w₁, hq, harr⟩ := h b (.code y :: k) cs hro hb
  cases e with
  | normal =>
    obtain ⟨e₂, a₂, w₂, hq₂, harr₂⟩ := hq b k cs hro hb
    exact ⟨e₂, a₂, w₂, hq₂, .of_steps (.head h0 stepR_seq harr) harr₂⟩
  | exit id => exact ⟨_, a₁, w₁, hq, .of_steps (.one h0 stepR_seq) (.pass (x := .code y) rfl (fun _ _ => .inl (by simp)) harr)⟩
  | goto l => exact ⟨_, a₁, w₁, hq, .of_steps (.one h0 stepR_seq) (.pass (x := .code y) rfl (fun _ _ => .inl (by simp)) harr)⟩
  | ret => exact ⟨_, a₁, w₁, hq, .of_steps (.one h0 stepR_seq) (.pass (x := .code y) rfl (fun _ _ => .inl (by simp)) harr)⟩
  | panic ch => exact ⟨_, a₁, w₁, hq, .of_steps (.one h0 stepR_seq) (.pass (x := .code y) rfl (fun _ _ => .inl (by simp)) harr)⟩
  | outgrown => exact ⟨_, a₁, w₁, hq, .of_steps (.one h0 stepR_seq) (.pass (x := .code y) rfl (fun _ _ => .inl (by simp)) harr)⟩
theorem wpB_block {id : Nat} {c : Code} (h : wpB f P c (Exit.inBlock id Q) a w) : wpB f P (.block id c) Q a w := by
  intro b k cs hro hb
  have h0 : (lone (b.atR a (.code (.block id c) :: k)) cs w).fenced P Fence.wide := fenced_wide _ _
  obtain ⟨e, a₁, w₁, hq, harr⟩ := h b (.inBlock id :: k) cs hro hb
  cases e with
  | normal => exact ⟨.normal, a₁, w₁, hq, .head h0 stepR_block (StepsIn.trans harr (.one (fenced_wide _ _) stepR_inBlock))⟩
  | exit id' =>
    by_cases hid : id' = id
    · simp only [Exit.inBlock, hid, if_true] at hq
      exact ⟨.normal, a₁, w₁, hq, .head h0 stepR_block (harr.1 k (by simp [exitTo, hid]))⟩
    · simp only [Exit.inBlock, hid, if_false] at hq
      have this : (id == id') = false := by simp; exact fun h => hid h.symm
      have hx : exitTo id' (.inBlock id :: k) = exitTo id' k := by simp [exitTo, this]
      exact ⟨.exit id', a₁, w₁, hq, fun k' hk => .head h0 stepR_block (harr.1 k' (by rw [hx]; exact hk)),
        fun hr' hk => let ⟨k₁, h1, h2⟩ := harr.2 hr' (by rw [hx]; exact hk); ⟨k₁, h1, .head h0 stepR_block h2⟩⟩
  | goto l =>
    have hx : gotoIn l (.inBlock id :: k) = gotoIn l k := by simp [gotoIn]
    exact ⟨_, a₁, w₁, hq, fun k' hk => .head h0 stepR_block (harr.1 k' (by rw [hx]; exact hk)),
      fun hr' hk => let ⟨k₁, h1, h2⟩ := harr.2 hr' (by rw [hx]; exact hk); ⟨k₁, h1, .head h0 stepR_block h2⟩⟩
  | ret => exact ⟨_, a₁, w₁, hq, .of_steps (.one h0 stepR_block) harr⟩
  | panic ch => exact ⟨_, a₁, w₁, hq, .of_steps (.one h0 stepR_block) harr⟩
  | outgrown => exact ⟨_, a₁, w₁, hq, .of_steps (.one h0 stepR_block) harr⟩
theorem wpB_mono {c : Code} {Q' : Exit → Act → World → Prop} (h : wpB f P c Q a w) (hq : ∀ e a w, Q e a w → Q' e a w) : wpB f P c Q' a w :=
  fun b k cs hro hb => let ⟨e, a', w', q, r⟩ := h b k cs hro hb; ⟨e, a', w', hq _ _ _ q, r⟩
/-- what is asked where the function that was ranged over has ended -/
def rangePostB (f : FuncId) (P : Program) (l : Nat) (Q : Exit → Act → World → Prop) (a' : Act) : Ending → World → Prop
  | .returned _, w₃ => ∃ jump w₄, (Instr.endLoop l).run P w₃ = .ok jump w₄ ∧
      (match jump with
       | none => Q .normal a' w₄
       | some c => wpB f P c Q a' w₄)
  | .panicked chain, w₃ => Q (.panic chain) a' w₃
  | .outgrown, _ => False
theorem wpB_range {g : Operand} {ps : Array Tmp} {assign body : Code}
    (h : ∃ (l : Nat) (mark : List Deferred) (w₁ : World) (d : Deferred) (w₁' : World) (f2 : FuncId) (args : Array Value) (w₂ : World),
      (Instr.enterLoop f a.tmps ps assign body none).run P w = .ok (l, mark) w₁ ∧
      (resolve a.eval (rangeCall g l) 0).run P w₁ = .ok d w₁' ∧
      (invoke d.target d.args).run P w₁' = .ok (.enter f2 args) w₂ ∧
      Calls P f2 args w₂ (rangePostB f P l Q { a with defers := mark ++ a.defers })) :
    wpB f P (.rangeFunc g ps assign body) Q a w := by
  intro b k cs hro hb
  obtain ⟨l, mark, w₁, d, w₁', f2, args, w₂, he, hres, hinv, hcall⟩ := h
  rw [← hro, ← hb] at he
  have henter := stepR_rangeFunc (P := P) (b := b) (a := a) (k := k) (cs := cs) (w := w) he hres hinv
  obtain ⟨e, w₃, fr, hR, hsteps, hfn, hleave⟩ := hcall (b.atR { a with defers := mark ++ a.defers } (.inRangeFunc l :: k) :: cs)
  cases e with
  | outgrown => exact hR.elim
  | returned v =>
    obtain ⟨jump, w₄, hend, hj⟩ := hR
    have hsteps : Steps P _ _ := hsteps
    have sback : StepsIn (Machine.fenced P Fence.wide) P (lone (b.atR a (.code (.rangeFunc g ps assign body) :: k)) cs w) (lone (b.atR { a with defers := mark ++ a.defers } ((jump.map Item.code).toList ++ k)) cs w₄) := by
      refine .head (fenced_wide _ _) henter (StepsIn.trans (stepsIn_wide.2 hsteps) (.head (fenced_wide _ _) ?_ (.one (fenced_wide _ _) (stepR_endRangeFunc hend))))
      rw [← finish_atR_inRangeFunc l v]; exact step_leave_returned hleave
    cases jump with
    | none => exact ⟨.normal, _, w₄, hj, sback⟩
    | some c =>
      obtain ⟨e', a'', w₅, hq, harr⟩ := hj b k cs hro hb
      exact ⟨e', a'', w₅, hq, .of_steps sback harr⟩
  | panicked chain =>
    have hsteps : Steps P _ _ := hsteps
    refine ⟨.panic chain, _, w₃, hR, .inRangeFunc l :: k, .head (fenced_wide _ _) henter (StepsIn.trans (stepsIn_wide.2 hsteps) (.one (fenced_wide _ _) ?_))⟩
    rw [← Frame.raise_atR]; exact step_leave_panicked hleave
theorem calls_of_wpB {fn : Func} {c : Code} {args : Array Value} {w : World} {R : Ending → World → Prop} (hf : P.funcs[f]? = some fn) (hb : fn.body = some c)
    (h : wpB f P c (bodyPostM Fence.wide 0 P fn R) { tmps := args ++ Array.replicate (fn.ntmps - args.size) undef, defers := [] } w) : Calls P f args w R := by
  refine callsIn_wide (n := 0).1 ⟨trivial, fun cs hr => ?_⟩
  let b : Frame := { (default : Frame) with fn := f, kind := .normal, roundOf := none }
  have henter : Frame.enter P f args .normal =
      b.atR { tmps := args ++ Array.replicate (fn.ntmps - args.size) undef, defers := [] } [.code c] := by
    simp [Frame.enter, Frame.atR, hf, hb, b]
  obtain ⟨e, a', w', hq, harr⟩ := h b [] cs rfl rfl
  rw [← henter] at harr
  cases e with
  | normal =>
    obtain ⟨e', w'', fr', hR, hs, hfn, hl⟩ := leaves_stepsInM a'.defers .returning w' { b.atR a' [] with mode := .returning } cs rfl rfl rfl hf rfl trivial hr hq
    exact ⟨e', w'', fr', hR, ComesIn.of_steps (StepsIn.trans harr (.one (fenced_wide _ _) (stepR_end rfl))) hs, hfn, hl⟩
  | ret =>
    obtain ⟨todo, hs₀⟩ := harr.1 rfl
    obtain ⟨e', w'', fr', hR, hs, hfn, hl⟩ := leaves_stepsInM a'.defers .returning w' { b.atR a' todo with mode := .returning } cs rfl rfl rfl hf rfl trivial hr hq
    exact ⟨e', w'', fr', hR, ComesIn.of_steps hs₀ hs, hfn, hl⟩
  | panic chain =>
    obtain ⟨todo, hs₀⟩ := harr
    obtain ⟨e', w'', fr', hR, hs, hfn, hl⟩ := leaves_stepsInM a'.defers (.panicking chain) w' { b.atR a' todo with mode := .panicking chain } cs rfl rfl rfl hf rfl trivial hr hq
    exact ⟨e', w'', fr', hR, ComesIn.of_steps hs₀ hs, hfn, hl⟩
  | exit id => exact hq.elim
  | goto l => exact hq.elim
  | outgrown => exact ⟨.outgrown, w', b, hq, harr.resolve_left (by simp [b]), rfl, trivial⟩
 end
end Sx
