/-
  Part of a proof.
-/
import Derived.Test.YtlmbbchfaoeebaaGreatDoorV24
import Derived.Test.YtlmbbchfaoeebaaGreatDoorV10
import Derived.Test.YtlmbbchfaoeebaaGreatDoorV03
import Derived.Test.YtlmbbchfaoeebaaGreatDoorV15
set_option linter.unusedVariables false
set_option linter.unusedSimpArgs false
/- events.Whole; few. -/
namespace Hx
open Go Sx Go.Proofs
set_option maxRecDepth 100000
set_option maxHeartbeats 4000000
set_option linter.unusedVariables false
set_option linter.unusedSimpArgs false
variable {GOk : Gl → Prop}
variable {right : Ev → Bool}
theorem whole_spec (hr : RgtOk GOk right) (p : Bool) (lo len cap : Nat) (xs l : List Ev) (hv : VecOk p lo len cap xs l) (hok : ∀ y ∈ l, okE y) (hlen : len ≤ 4294967296) :
    Triple (BB Ip GOk) 7 1 1 [.vec p 0 3 lo len cap] [.arr p true 0 44 encE xs] (fun K => ∀ i e, (i, e) = wholeGo right chk0 l 0 → K (.ret (.tuple [.int .i64 (Int.ofNat i), .int .i64 e])) [.arr p true 0 44 encE xs]) := by
  refine triple_of BB_ok (tb := ty) rfl (n0 := 1) (fun _ : Unit => _) pl7 Tryz.call7 Tryz.func7 rfl (by kernel_rfl) (Nat.le_of_ble_eq_true rfl) (by decide) rfl pre_none ?_
  rintro G hG K hK W bi bc bs bk bu bb bo bg bl bp bn be Ncond Nob Nop Nloop Nscope hN Nfin hf _ _
  have hvl := hv.length
  have hroom := hv.room
  have hfits := hv.fits
  cbv
  refine op_ hN (call_ (ev_new_spec) hG [] rfl rfl rfl rfl rfl ?_)
  cbv
  refine loopN_ hN (loop_ hN ty_ok mixed (ι := Nat × Chk) (fun y => ⟨[(0, .vec p 0 3 lo len cap), (4, .ptr 1 0), (9, .vec p 0 3 lo len cap), (10, .int .i64 (Int.ofNat len)), (11, .int .i64 (Int.ofNat y.1))],
      [.abs (.chk y.2) [1], .arr p true 0 44 encE xs], 2⟩)
    (fun y => y.1 ≤ len ∧ wholeGo right y.2 (l.drop y.1) y.1 = wholeGo right chk0 l 0) (fun y => len - y.1) ?_ ?_)
  · exact Leads.idx (0, chk0) [1] ⟨Nat.zero_le _, rfl⟩ ⟨⟨rfl, rfl, rfl, rfl, rfl, trivial⟩, rfl, Nat.le_of_ble_eq_true rfl⟩
  rintro ⟨i, c⟩ ⟨hi, hgo⟩ Nnext hn _
  simp only at hi hgo
  cbv
  refine cond_ hN (fun h => ?_) (fun h => ?_)
  · rw [clt hN] at h
    simp only [decide_eq_true_eq, decide_eq_false_iff_not, Int.ofNat_eq_natCast, gt_iff_lt, ge_iff_le, Bool.not_eq_true', Bool.not_eq_false', Int.not_lt, Int.not_le] at h
    have hilt : i < len := by have : (i : Int) < (len : Int) := h; omega
    have hpt : p = true := by
      cases p with
      | true => rfl
      | false => have := hv.pr rfl; omega
    have hidx : bp lo (Int.ofNat i) = lo + i := by rw [bp_ hN]; simp
    have hil : i < l.length := by omega
    have hxi : xs[lo + i]? = some (l[i]'hil) := by
      have h5 : ((xs.drop lo).take len)[i]? = some (l[i]'hil) := by rw [hv.eq]; exact List.getElem?_eq_getElem hil
      rw [List.getElem?_take, if_pos hilt, List.getElem?_drop] at h5
      exact h5
    have hoky := hok _ (List.getElem_mem hil)
    have hdrop : l.drop i = (l[i]'hil) :: l.drop (i + 1) := List.drop_eq_getElem_cons hil
    generalize (l[i]'hil) = y at hxi hdrop hoky
    rw [hdrop, wholeGo] at hgo
    obtain ⟨kind1, text1, val1⟩ := y
    have hsub : bi .add .i64 (Int.ofNat i) 1 = Int.ofNat (i + 1) := inext hN (by omega)
    cbv
    refine ob_ hN ⟨⟨by simp, by simpa using hilt⟩, hpt, trivial⟩ ?_
    cbv
    refine op_ hN (load_arr ty_ok rfl hpt rfl wideE (Nat.le_of_ble_eq_true rfl) (by rw [hidx]; omega) ?_)
    intro x2 hx2
    rw [hidx, hxi] at hx2
    obtain rfl := (Option.some.inj hx2).symm
    cbv
    refine op_ hN (call_ (step_spec' hr c ⟨kind1, text1, val1⟩ hoky) hG [1] rfl rfl rfl rfl rfl ?_)
    intro e c' he
    rw [← he] at hgo
    simp only at hgo
    cbv
    refine cond_ hN (fun h2 => ?_) (fun h2 => ?_)
    · rw [cne hN] at h2
      have h2' : e ≠ 0 := by simpa using h2
      rw [if_pos h2'] at hgo
      cbv
      exact hf _ _ (fin_ [] rfl rfl (hK i e hgo))
    · rw [cne hN] at h2
      have h2' : ¬ e ≠ 0 := by simpa using h2
      rw [if_neg h2'] at hgo
      cbv
      simp only [hsub]
      exact hn _ (Leads.nxt (i + 1, c') [1] ⟨hilt, hgo⟩ (by simp only; omega) ⟨⟨rfl, rfl, rfl, rfl, rfl, trivial⟩, rfl, Nat.le_of_ble_eq_true rfl⟩)
  · rw [clt hN] at h
    simp only [decide_eq_true_eq, decide_eq_false_iff_not, Int.ofNat_eq_natCast, gt_iff_lt, ge_iff_le, Bool.not_eq_true', Bool.not_eq_false', Int.not_lt, Int.not_le] at h
    have hie : i = len := by have : (len : Int) ≤ (i : Int) := h; omega
    have hdrop : l.drop i = [] := List.drop_eq_nil_of_le (by omega)
    rw [hdrop, hie, wholeGo] at hgo
    cbv
    refine op_ hN (call_ (done_spec c) hG [1] rfl rfl rfl rfl rfl ?_)
    intro b hb
    have hb2 : chkDone c = b := hb.symm
    rw [hb2] at hgo
    cases b with
    | true =>
      rw [if_pos rfl] at hgo
      cbv
      refine cond_F hN rfl ?_
      cbv
      exact hf _ _ (fin_ [] rfl rfl (hK len 0 hgo))
    | false =>
      rw [if_neg (by simp)] at hgo
      cbv
      refine cond_T hN rfl ?_
      cbv
      exact hf _ _ (fin_ [] rfl rfl (hK len 19 hgo))
theorem few_old (p : Bool) (lo len cap : Nat) (g : Nat) (hfits : len ≤ cap) :
    Triple (BB Ip GOk) 9 1 1 [.vec p 0 1 lo len cap] [.at_ 0 g] (fun K => ∀ m, m = min len 600 → K (.ret (.vec p 0 1 lo m cap)) [.at_ 0 g]) := by
  refine triple_of BB_ok (tb := ty) rfl (n0 := 1) (fun _ : Unit => _) pl9 Tryz.call9 Tryz.func9 rfl (by kernel_rfl) (Nat.le_of_ble_eq_true rfl) (by decide) rfl pre_none ?_
  rintro G hG K hK W bi bc bs bk bu bb bo bg bl bp bn be Ncond Nob Nop Nloop Nscope hN Nfin hf _ _
  cbv
  refine cond_ hN (fun h => ?_) (fun h => ?_)
  · rw [cgt hN] at h
    simp only [decide_eq_true_eq, decide_eq_false_iff_not, Int.ofNat_eq_natCast, gt_iff_lt, ge_iff_le, Bool.not_eq_true', Bool.not_eq_false', Int.not_lt, Int.not_le] at h
    have hgt : 600 < len := by have : (600 : Int) < (len : Int) := h; omega
    have hb1 : bo lo 0 cap = lo := by rw [bo_ hN]; simp [sloff]
    have hb2 : bg 600 0 = 600 := by rw [bg_ hN]; simp
    have hb3 : bl cap 0 = cap := by rw [bl_ hN]; simp
    cbv
    refine ob_ hN ⟨⟨by simp, by simp, by simp; omega⟩, trivial⟩ ?_
    cbv
    simp only [hb1, hb2, hb3]
    exact hf _ _ (fin_ [0] rfl rfl (hK 600 (by omega)))
  · rw [cgt hN] at h
    simp only [decide_eq_true_eq, decide_eq_false_iff_not, Int.ofNat_eq_natCast, gt_iff_lt, ge_iff_le, Bool.not_eq_true', Bool.not_eq_false', Int.not_lt, Int.not_le] at h
    have hle : len ≤ 600 := by have : (len : Int) ≤ 600 := h; omega
    cbv
    exact hf _ _ (fin_ [0] rfl rfl (hK len (by omega)))
end Hx
/- angle's lives; AngleWhole. -/
namespace Hx
open Go Sx Go.Proofs
set_option maxRecDepth 100000
set_option maxHeartbeats 4000000
set_option linter.unusedVariables false
set_option linter.unusedSimpArgs false
variable {GOk : Gl → Prop}
def livesText : List UInt8 := [60, 112, 58, 97, 32, 120, 109, 108, 110, 115, 58, 112, 61, 34, 117, 34, 32, 107, 61, 34, 49, 34, 62, 120, 38, 108, 116, 59, 60, 47, 112, 58, 97, 62]
def evIs (o : Option Ev) (k : Int) (a b : List UInt8) : Bool := o.map (fun x : Ev => (x.kind, x.text.data.toList, x.val.data.toList)) == some (k, a, b)
def livesOk (o : Option (OS Ang)) : Bool := match o with
  | some s => s.c.queue.length == 4 && evIs (s.c.queue.drop 0).head? 10 [123, 117, 125, 97] [] && evIs (s.c.queue.drop 1).head? 11 [107] [49] && evIs (s.c.queue.drop 2).head? 4 [120, 60] [] && s.c.err == 0 && s.c.at_ == 34
  | none => false
theorem lives_model : livesOk (angAllM rightM livesText) = true := by kernel_rfl
theorem evIs_get {l : List Ev} {i : Nat} {k : Int} {a b : List UInt8} (h : evIs (l.drop i).head? k a b = true) : l[i]? = some ⟨k, ⟨a.toArray⟩, ⟨b.toArray⟩⟩ := by
  unfold evIs at h
  rw [List.head?_drop] at h
  cases e : l[i]? with
  | none => rw [e] at h; exact nomatch h
  | some x =>
    rw [e] at h
    obtain ⟨kind, text, val⟩ := x
    simp only [Option.map_some, beq_iff_eq, Option.some.injEq, Prod.mk.injEq] at h
    obtain ⟨a1, a2, a3⟩ := h
    rw [a1, ba_of a2, ba_of a3]
theorem lives_queue : ∃ s, angAllM rightM livesText = some s ∧ s.c.queue.length = 4 ∧ s.c.queue[0]? = some ⟨10, ⟨#[123, 117, 125, 97]⟩, ⟨#[]⟩⟩ ∧ s.c.queue[1]? = some ⟨11, ⟨#[107]⟩, ⟨#[49]⟩⟩ ∧ s.c.queue[2]? = some ⟨4, ⟨#[120, 60]⟩, ⟨#[]⟩⟩ ∧ s.c.err = 0 ∧ s.c.at_ = 34 := by
  have h := lives_model
  generalize angAllM rightM livesText = o at h
  cases o with
  | none => exact nomatch h
  | some s =>
    simp only [livesOk, Bool.and_eq_true, beq_iff_eq] at h
    obtain ⟨⟨⟨⟨⟨h1, h2⟩, h3⟩, h6⟩, h4⟩, h5⟩ := h
    exact ⟨s, rfl, h1, evIs_get h2, evIs_get h3, evIs_get h6, h4, h5⟩
theorem lives_spec (hTab : GTab GOk) (hr : RgtOk GOk rightM) : Triple (BB Ip GOk) 11 0 0 [] [] (fun K => K (.ret (.bool true)) []) := by
  obtain ⟨s, hs, q0, q1, q2, q3, qe, qa⟩ := lives_queue
  have hlt : VecOk true 0 34 34 livesText livesText := ⟨(fun h => nomatch h), Nat.le_refl _, Nat.le_refl _, rfl⟩
  have htx : ∀ ρ, (SV.denL ρ (livesText.map fun b => SV.int .u8 (b.toNat : Nat))).toArray = arrCells encB livesText := fun ρ => by kernel_rfl
  generalize hT : livesText = tx at hs hlt
  refine triple_of BB_ok (tb := ty) rfl (n0 := 0) (fun _ : Unit => _) pl11 Tryz.call11 Tryz.func11 rfl (by kernel_rfl) (Nat.le_of_ble_eq_true rfl) (by decide) rfl pre_none ?_
  rintro G hG K hK W bi bc bs bk bu bb bo bg bl bp bn be Ncond Nob Nop Nloop Nscope hN Nfin hf _ _
  cbv
  refine op_ hN (conv_same ty_ok rfl rfl rfl rfl rfl (xs := livesText) (fun ρ => by kernel_rfl) ?_)
  rw [hT]
  cbv
  refine op_ hN (call_ (adecode_spec hTab hr true 0 34 34 tx tx hlt (by decide)) hG [0] rfl rfl rfl rfl rfl ?_)
  rw [hs]
  intro p lo len cap xs hv
  obtain ⟨m, ⟨sc, queue, cat, closed, over, err, told⟩⟩ := s
  simp only at q0 q1 q2 q3 qe qa hv
  subst qe qa
  have hvl := hv.length
  have hroom := hv.room
  have hfits := hv.fits
  obtain rfl : len = 4 := by omega
  have hpt : p = true := by
    cases p with
    | true => rfl
    | false => have := hv.pr rfl; omega
  have hget : ∀ i x, i < 4 → queue[i]? = some x → xs[lo + i]? = some x := fun i x hi hx => by
    rw [← hv.eq, List.getElem?_take, if_pos hi, List.getElem?_drop] at hx; exact hx
  have x0 := hget 0 _ (by omega) q1
  have x1 := hget 1 _ (by omega) q2
  have x2 := hget 2 _ (by omega) q3
  have hidx0 : bp lo 0 = lo + 0 := by rw [bp_ hN]; simp
  have hidx1 : bp lo 1 = lo + 1 := by rw [bp_ hN]; simp
  have hidx2 : bp lo 2 = lo + 2 := by rw [bp_ hN]; simp
  have hc2 : bc .eql 0 0 = true := by rw [ceq hN]; simp
  clear hs hlt htx hget q1 q2 q3
  cbv
  refine cond_T hN (by rw [ceq hN]; rfl) ?_
  cbv
  refine ob_ hN ⟨⟨by simp, by simp⟩, hpt, trivial⟩ ?_
  cbv
  refine op_ hN (load_arr ty_ok rfl hpt rfl wideE (Nat.le_of_ble_eq_true rfl) (by rw [hidx0]; omega) ?_)
  intro y0 hy
  rw [hidx0, x0] at hy
  obtain rfl := (Option.some.inj hy).symm
  cbv
  refine op_ hN (eq_ev rfl ?_)
  intro b0 hb
  have hb0 : b0 = true := by rw [hb]; decide
  clear hb hy
  cbv
  refine cond_T hN hb0 ?_
  cbv
  refine ob_ hN ⟨⟨by simp, by simp⟩, hpt, trivial⟩ ?_
  cbv
  refine op_ hN (load_arr ty_ok rfl hpt rfl wideE (Nat.le_of_ble_eq_true rfl) (by rw [hidx1]; omega) ?_)
  intro y1 hy
  rw [hidx1, x1] at hy
  obtain rfl := (Option.some.inj hy).symm
  cbv
  refine op_ hN (eq_ev rfl ?_)
  intro b1 hb
  have hb1 : b1 = true := by rw [hb]; decide
  clear hb hy
  cbv
  refine cond_T hN hb1 ?_
  cbv
  refine ob_ hN ⟨⟨by simp, by simp⟩, hpt, trivial⟩ ?_
  cbv
  refine op_ hN (load_arr ty_ok rfl hpt rfl wideE (Nat.le_of_ble_eq_true rfl) (by rw [hidx2]; omega) ?_)
  intro y2 hy
  rw [hidx2, x2] at hy
  obtain rfl := (Option.some.inj hy).symm
  cbv
  refine op_ hN (eq_ev rfl ?_)
  intro b2 hb
  have hb2 : b2 = true := by rw [hb]; decide
  clear hb hy
  cbv
  refine cond_T hN hb2 ?_
  cbv
  refine cond_T hN hc2 ?_
  cbv
  rw [show bc .eql (Int.ofNat 34) 34 = true from by rw [ceq hN]; rfl]
  exact hf _ _ (fin_ [] rfl rfl hK)
theorem angle_old (hTab : GTab GOk) (hb : RgtOk GOk rightM) (p : Bool) (lo len cap : Nat) (g : Nat) (text : List UInt8) (hlt : text.length = len) (hpr : p = false → len = 0) (hfits : len ≤ cap) (hS : OldB GOk g lo text) :
    Triple (BB Ip GOk) 4 1 1 [.vec p 0 1 lo len cap] [.at_ 0 g] (fun K => K (.ret (.bool true)) [.at_ 0 g]) := by
  refine triple_of BB_ok (tb := ty) rfl (n0 := 1) (fun _ : Unit => _) pl4 Tryz.call4 Tryz.func4 rfl (by kernel_rfl) (Nat.le_of_ble_eq_true rfl) (by decide) rfl pre_none ?_
  rintro G hG K hK W bi bc bs bk bu bb bo bg bl bp bn be Ncond Nob Nop Nloop Nscope hN Nfin hf _ _
  cbv
  refine op_ hN (call_ (few_old p lo len cap g hfits) hG [0] rfl rfl rfl rfl rfl ?_)
  intro m hm
  have hml : (text.take 600).length = m := by rw [List.length_take]; omega
  have hpr2 : p = false → m = 0 := fun h => by have := hpr h; omega
  have hS2 := hS.take 600
  have hm : m ≤ 600 := by omega
  generalize text.take 600 = tx at hS2 hml
  obtain ⟨s, hs, ⟨⟨c, hc, hdone⟩, hok, hat, hfull⟩⟩ := aall_law (right := rightM) tx (by omega)
  have hwl := whole_law s.c.queue chk0 c 0 hc
  rw [hml] at hat hfull
  cbv
  refine op_ hN (call_ (adecode_old hTab hb p lo cap m g tx hml hpr2 hS2 (by omega)) hG [0] rfl rfl rfl rfl rfl ?_)
  rw [hs]
  intro p1 lo1 len1 cap1 ys hv1
  obtain ⟨mm, ⟨sc, queue, at_, closed, over, err, told⟩⟩ := s
  simp only at hv1 hc hdone hok hat hfull hwl
  have hql := hv1.length
  rw [hql, Nat.zero_add] at hwl
  have hlen1 : len1 ≤ 4294967296 := by have := hok.2; omega
  cbv
  refine op_ hN (call_ (whole_spec hb p1 lo1 len1 cap1 ys queue hv1 hok.1 hlen1) hG [1] rfl rfl rfl rfl rfl ?_)
  intro i e hie
  rw [hwl] at hie
  obtain ⟨rfl, he⟩ := Prod.mk.inj hie
  clear hie hwl hs hc
  have hc1 : bc .eql (Int.ofNat i) (Int.ofNat i) = true := by rw [ceq hN]; simp
  have hc2 : bc .geq (Int.ofNat at_) 0 = true := by rw [cge hN]; simp
  have hc3 : bc .leq (Int.ofNat at_) (Int.ofNat m) = true := by rw [cle hN]; simp; omega
  cbv
  refine cond_ hN (fun h => ?_) (fun h => ?_)
  · rw [ceq hN] at h
    have h0 : err = 0 := by simpa using h
    have hat2 := hfull h0
    have he0 : e = 0 := by rw [he, if_pos (hdone h0)]
    have hc4 : bc .eql e 0 = true := by rw [ceq hN, he0]; simp
    have hc5 : bc .eql (Int.ofNat at_) (Int.ofNat m) = true := by rw [ceq hN, hat2]; simp
    clear he hdone hfull h h0 hat2 he0 hat
    cbv
    refine cond_T hN hc4 ?_
    cbv
    refine cond_T hN hc1 ?_
    cbv
    refine cond_T hN hc5 ?_
    cbv
    refine op_ hN (call_ (lives_spec hTab hb) hG [] rfl rfl rfl rfl rfl ?_)
    cbv
    exact hf _ _ (fin_ [0] rfl rfl hK)
  · clear he hdone hfull h hat
    cbv
    refine cond_T hN hc1 ?_
    cbv
    refine cond_T hN hc2 ?_
    cbv
    refine cond_T hN hc3 ?_
    cbv
    refine op_ hN (call_ (lives_spec hTab hb) hG [] rfl rfl rfl rfl rfl ?_)
    cbv
    exact hf _ _ (fin_ [0] rfl rfl hK)
theorem angle_all (hT : GTab GOk) (p : Bool) (lo len cap : Nat) (g : Nat) (text : List UInt8) (hlt : text.length = len) (hpr : p = false → len = 0) (hfits : len ≤ cap) (hS : OldB GOk g lo text) :
    Triple (BB Ip GOk) 4 1 1 [.vec p 0 1 lo len cap] [.at_ 0 g] (fun K => K (.ret (.bool true)) [.at_ 0 g]) :=
  angle_old hT (right_spec hT) p lo len cap g text hlt hpr hfits hS
end Hx
