/-
  Part of a proof.
-/
import Derived.Test.YtafhlipcgbopnaaGreatDoorW18
import Derived.Test.YtafhlipcgbopnaaGreatDoorW16
set_option linter.unusedVariables false
set_option linter.unusedSimpArgs false
/- outline.machine.place. -/
namespace Hx
open Go Sx Go.Proofs
set_option maxRecDepth 100000
set_option maxHeartbeats 4000000
set_option linter.unusedVariables false
set_option linter.unusedSimpArgs false
variable {GOk : Gl → Prop}
variable {right : Ev → Bool} {numRead : ByteArray → ByteArray × Int}
theorem place_nil {t : ByteArray} {a stands : Nat} {s : OS} (h : s.m.opn = []) : placeM right t a stands s = if chkDone s.m.chk then (.err 2 (Int.ofNat stands), s) else if stands > 0 then (.err 10 (Int.ofNat stands), s) else (.ok (), s) := by
  simp only [placeM]; rw [h]
/-- what is behind the ends -/
def placeT (stands : Nat) : OM Unit := fun s =>
  match s.m.opn with
  | [] => (.err 10 (Int.ofNat stands), s)
  | (_, k) :: _ => if k = stands then (.ok (), s) else (.err 10 (Int.ofNat stands), s)
theorem place_cons {t : ByteArray} {a stands last : Nat} {kind : Int} {l : List (Int × Nat)} {s : OS} (h : s.m.opn = (kind, last) :: l) : placeM right t a stands s =
    if stands > last then (if !s.m.waits || decide (stands ≠ last + 2) then (.err 10 (Int.ofNat stands), s) else opensM right t a stands { s with m := { s.m with waits := false } })
    else OM.bind (nothingM right (Int.ofNat stands)) (fun _ => OM.bind (endsTo right stands (s.m.opn.length + 1)) fun _ => placeT stands) s := by
  simp only [placeM]; rw [h]; rfl
theorem place_spec (hb : Below GOk right) (s : OS) (t : ByteArray) (a stands g : Nat) (ht : t.size < 1000000) (ha : a < t.size) (hst : stands < 1000000) : Triple (BB Ip GOk) 157 3 3 [.ptr 0 0, .ptr 2 0, .int .i64 (Int.ofNat stands)] (rc s t a g)
    (fun K => PostU t a g K (placeM right t a stands s)) := by
  obtain ⟨⟨ahead, line, chk, anc, opn, waits⟩, core⟩ := s
  refine triple_of BB_ok (tb := ty) rfl (n0 := 7) (fun y : {cs' // Tm (.mch ⟨ahead, line, chk, anc, opn, waits⟩ true) cs'} => csRen (sg [0, 1] 3) y.1 ++ [.abs (.core core) [1, 0], rowc 2 t a (tellV g), .at_ 0 g]) pl157 Tryz.call157 Tryz.func157 rfl (by kernel_rfl) (Nat.le_of_ble_eq_true rfl) (by decide) rfl (pre_open rfl rfl rfl) ?_
  rintro G hG K hK W bi bc bs bk bu bb bo bg bl bp bn be Ncond Nob Nop Nloop Nscope hN Nfin hf _ ⟨cs', hT⟩
  obtain ⟨p, lo, len, cap, xs, q, lo2, len2, cap2, ys, tl, hv1, hv2, hl, htl, -, rfl⟩ := id hT
  obtain rfl := htl rfl
  simp only at hv1 hv2 hl
  have hmc : ∀ chk anc w, Tm (.mch ⟨ahead, line, chk, anc, opn, w⟩ true) [.cells 0 55 [.int .i64 (Int.ofNat ahead), .vec p 2 1 lo len cap, .ptr 4 0, .ptr 5 0, .vec q 3 2 lo2 len2 cap2, .bool w, .fn (.func 25) [.ptr 1 0] []], .arr p true 2 5 encB xs, .arr q true 3 224 encK ys, .abs (.chk chk) [4], .abs (.anc anc) [5]] :=
    fun chk anc w => ⟨p, lo, len, cap, xs, q, lo2, len2, cap2, ys, _, hv1, hv2, hl, fun _ => rfl, (fun h => nomatch h), rfl⟩
  cases opn with
  | nil =>
    obtain rfl : len2 = 0 := by have := hv2.length; simpa using this.symm
    rw [place_nil rfl] at hK
    cbv
    refine cond_T hN (by rw [ceq hN]; decide) ?_
    cbv
    refine op_ hN (call_ (done_spec chk) hG [5] rfl rfl rfl rfl rfl ?_)
    intro b hbd
    have hbd : b = chkDone chk := hbd
    cbv
    refine cond_ hN (fun h => ?_) (fun h => ?_)
    · rw [if_pos (by rw [← hbd]; exact h)] at hK
      cbv
      refine op_ hN (call_ (fail_spec 2 (Int.ofNat stands)) hG [] rfl rfl rfl rfl rfl ?_)
      cbv
      exact hf _ _ (fin_close rfl (.mch ⟨ahead, line, chk, anc, [], waits⟩ true) [0, 1] [3, 4, 5, 6] _ (hmc chk anc waits) rfl (fin_ [] rfl rfl hK))
    · rw [if_neg (by rw [← hbd, h]; decide)] at hK
      cbv
      refine cond_ hN (fun h2 => ?_) (fun h2 => ?_)
      · rw [cgt hN] at h2
        simp only [decide_eq_true_eq, decide_eq_false_iff_not, Int.ofNat_eq_natCast, gt_iff_lt, ge_iff_le, Bool.not_eq_true', Bool.not_eq_false', Int.not_lt, Int.not_le] at h2
        rw [if_pos (by have : (0 : Int) < (stands : Int) := h2; omega)] at hK
        cbv
        refine op_ hN (call_ (fail_spec 10 (Int.ofNat stands)) hG [] rfl rfl rfl rfl rfl ?_)
        cbv
        exact hf _ _ (fin_close rfl (.mch ⟨ahead, line, chk, anc, [], waits⟩ true) [0, 1] [3, 4, 5, 6] _ (hmc chk anc waits) rfl (fin_ [] rfl rfl hK))
      · rw [cgt hN] at h2
        simp only [decide_eq_true_eq, decide_eq_false_iff_not, Int.ofNat_eq_natCast, gt_iff_lt, ge_iff_le, Bool.not_eq_true', Bool.not_eq_false', Int.not_lt, Int.not_le] at h2
        rw [if_neg (by have : (stands : Int) ≤ 0 := h2; omega)] at hK
        cbv
        exact hf _ _ (fin_close rfl (.mch ⟨ahead, line, chk, anc, [], waits⟩ true) [0, 1] [3, 4, 5, 6] _ (hmc chk anc waits) rfl (fin_ [] rfl rfl hK))
  | cons x l =>
    obtain ⟨kind, last⟩ := x
    obtain ⟨hpt, hlen, hx, hv3⟩ := rev_last hv2
    generalize hll : l.length = ll at hlen hx hv3
    have hroom := hv2.room
    have hfits := hv2.fits
    have hl2 : ll < 4611686018427387904 := by have := hl.2; simp at this; omega
    have hsub : bi .sub .i64 (Int.ofNat len2) 1 = Int.ofNat ll := by rw [isub hN (by simp; omega) (by simp; omega)]; simp; omega
    have hidx : bp lo2 (Int.ofNat ll) = lo2 + ll := by rw [bp_ hN]; simp
    have hob1 : obsP [.inb (Int.ofNat ll) (Int.ofNat len2), .tru q] := ⟨⟨by simp, by simp; omega⟩, hpt, trivial⟩
    have hil : bp lo2 (Int.ofNat ll) < ys.length := by rw [hidx]; omega
    rw [place_cons rfl] at hK
    cbv
    refine cond_F hN (by rw [ceq hN]; simp; omega) ?_
    cbv
    simp only [hsub]
    cbv
    repeat' (first | exact True.intro | with_reducible refine dup ?_ | refine And.intro ?_ ?_ | (refine ob_ hN hob1 ?_; try cbv))
    all_goals
      refine op_ hN (load_arr ty_ok rfl hpt rfl wideK (Nat.le_of_ble_eq_true rfl) hil ?_)
      intro x hx2
      rw [hidx, hx] at hx2
      obtain rfl := (Option.some.inj hx2).symm
      cbv
      repeat' (first | exact True.intro | with_reducible refine dup ?_ | refine And.intro ?_ ?_)
      all_goals
        refine cond_ hN (fun h => ?_) (fun h => ?_)
        · rw [cgt hN] at h
          simp only [decide_eq_true_eq, decide_eq_false_iff_not, Int.ofNat_eq_natCast, gt_iff_lt, ge_iff_le, Bool.not_eq_true', Bool.not_eq_false', Int.not_lt, Int.not_le] at h
          have hlt : stands > last := by have : (last : Int) < (stands : Int) := h; omega
          rw [if_pos hlt] at hK
          cases waits with
          | false =>
            rw [if_pos (by simp)] at hK
            cbv
            refine cond_T hN rfl ?_
            cbv
            refine op_ hN (call_ (fail_spec 10 (Int.ofNat stands)) hG [] rfl rfl rfl rfl rfl ?_)
            cbv
            exact hf _ _ (fin_close rfl (.mch ⟨ahead, line, chk, anc, (kind, last) :: l, false⟩ true) [0, 1] [3, 4, 5, 6] _ (hmc chk anc false) rfl (fin_ [] rfl rfl hK))
          | true =>
            have hadd : bi .add .i64 (Int.ofNat last) 2 = Int.ofNat (last + 2) := by rw [iadd hN (by simp; omega) (by simp; omega)]; simp
            obtain ⟨m, hm⟩ : ∃ x, x = last + 2 := ⟨_, rfl⟩
            rw [← hm] at hadd hK
            cbv
            refine cond_F hN rfl ?_
            cbv
            simp only [hadd]
            refine cond_ hN (fun h2 => ?_) (fun h2 => ?_)
            · rw [cne hN] at h2
              rw [if_pos (by simp at h2 ⊢; omega)] at hK
              cbv
              refine op_ hN (call_ (fail_spec 10 (Int.ofNat stands)) hG [] rfl rfl rfl rfl rfl ?_)
              cbv
              exact hf _ _ (fin_close rfl (.mch ⟨ahead, line, chk, anc, (kind, last) :: l, true⟩ true) [0, 1] [3, 4, 5, 6] _ (hmc chk anc true) rfl (fin_ [] rfl rfl hK))
            · rw [cne hN] at h2
              rw [if_neg (by simp at h2 ⊢; omega)] at hK
              cbv
              refine op_ hN (op_cput 0 [.int .i64 (Int.ofNat ahead), .vec p 3 1 lo len cap, .ptr 5 0, .ptr 6 0, .vec q 4 2 lo2 len2 cap2, .bool false, .fn (.func 25) [.ptr 1 0] []] rfl (fun _ => rfl) (op_close rfl (.mch ⟨ahead, line, chk, anc, (kind, last) :: l, false⟩ true) [0, 1] [3, 4, 5, 6] _ (hmc chk anc false) rfl rfl (call_ (opens_spec hb ⟨⟨ahead, line, chk, anc, (kind, last) :: l, false⟩, core⟩ t a stands g ht ha) hG [0, 1, 2] rfl rfl rfl rfl rfl ?_)))
              generalize opensM right t a stands ⟨⟨ahead, line, chk, anc, (kind, last) :: l, false⟩, core⟩ = y at hK ⊢
              obtain ⟨r, s'⟩ := y
              cases r with
              | ok a => cbv; exact hf _ _ (fin_ [] rfl rfl hK)
              | err e a => cbv; exact hf _ _ (fin_ [] rfl rfl hK)
              | ovf => exact hK.elim
        · rw [cgt hN] at h
          simp only [decide_eq_true_eq, decide_eq_false_iff_not, Int.ofNat_eq_natCast, gt_iff_lt, ge_iff_le, Bool.not_eq_true', Bool.not_eq_false', Int.not_lt, Int.not_le] at h
          have hlt : ¬ stands > last := by have : (stands : Int) ≤ (last : Int) := h; omega
          rw [if_neg hlt] at hK
          cbv
          refine op_ hN (op_close rfl (.mch ⟨ahead, line, chk, anc, (kind, last) :: l, waits⟩ true) [0, 1] [3, 4, 5, 6] _ (hmc chk anc waits) rfl rfl (call_ (nothing_spec hb ⟨⟨ahead, line, chk, anc, (kind, last) :: l, waits⟩, core⟩ (Int.ofNat stands)) hG [0, 1] rfl rfl rfl rfl rfl ?_))
          simp only [OM.bind] at hK
          generalize nothingM right (Int.ofNat stands) ⟨⟨ahead, line, chk, anc, (kind, last) :: l, waits⟩, core⟩ = y at hK ⊢
          obtain ⟨r, s1⟩ := y
          cases r with
          | err e a => cbv; exact hf _ _ (fin_ [] rfl rfl hK)
          | ovf => exact hK.elim
          | ok u =>
            simp only at hK
            generalize ((kind, last) :: l).length + 1 = N at hK
            cbv
            clear hv1 hv2 hv3 hl htl hx hx2 hmc hsub hidx hob1 hil hll hlen hroom hfits hl2 hT
            refine loopN_ hN (loop_ hN ty_ok mixed (ι := OS × Nat) (fun y => ⟨[(0, .ptr 0 0), (1, .ptr 2 0), (2, .int .i64 (Int.ofNat stands))], rc y.1 t a g, 3⟩)
              (fun y => endsTo right stands y.2 y.1 = endsTo right stands N s1) (fun y => y.2) ?_ ?_)
            · exact Leads.idx (s1, N) [] rfl ⟨⟨rfl, rfl, rfl, trivial⟩, rfl, Nat.le_of_ble_eq_true rfl⟩
            rintro ⟨s2, n⟩ hn2 Nnext hn _
            simp only at hn2
            rw [← hn2] at hK
            cases n with
            | zero => rw [endsTo] at hK; exact hK.elim
            | succ n =>
              rw [endsTo] at hK hn2
              obtain ⟨⟨ahead, line, chk, anc, opn, waits⟩, core⟩ := s2
              simp only at hK hn2
              cbv
              repeat' (first | exact True.intro | with_reducible refine dup ?_ | refine And.intro ?_ ?_)
              all_goals
                refine op_ hN (op_open rfl 0 4 rfl rfl rfl rfl ?_)
                rintro _ ⟨p, lo, len, cap, xs, q, lo2, len2, cap2, ys, tl, hv1, hv2, hl, htl, -, rfl⟩
                obtain rfl := htl rfl
                simp only at hv1 hv2 hl
                have hmc : ∀ chk anc w, Tm (.mch ⟨ahead, line, chk, anc, opn, w⟩ true) [.cells 0 55 [.int .i64 (Int.ofNat ahead), .vec p 2 1 lo len cap, .ptr 4 0, .ptr 5 0, .vec q 3 2 lo2 len2 cap2, .bool w, .fn (.func 25) [.ptr 1 0] []], .arr p true 2 5 encB xs, .arr q true 3 224 encK ys, .abs (.chk chk) [4], .abs (.anc anc) [5]] :=
                  fun chk anc w => ⟨p, lo, len, cap, xs, q, lo2, len2, cap2, ys, _, hv1, hv2, hl, fun _ => rfl, (fun h => nomatch h), rfl⟩
                refine load_ ty_ok rfl ?_
                cbv
                cases opn with
                | nil =>
                  obtain rfl : len2 = 0 := by have := hv2.length; simpa using this.symm
                  simp only at hK
                  refine cond_F hN (by rw [cgt hN]; simp) ?_
                  cbv
                  repeat' (first | exact True.intro | with_reducible refine dup ?_ | refine And.intro ?_ ?_)
                  all_goals
                    refine cond_T hN (by rw [ceq hN]; simp) ?_
                    cbv
                    repeat' (first | exact True.intro | with_reducible refine dup ?_ | refine And.intro ?_ ?_)
                    all_goals
                      refine op_ hN (call_ (fail_spec 10 (Int.ofNat stands)) hG [] rfl rfl rfl rfl rfl ?_)
                      cbv
                      exact hf _ _ (fin_close rfl (.mch ⟨ahead, line, chk, anc, [], waits⟩ true) [0, 1] [26, 27, 28, 29] _ (hmc chk anc waits) rfl (fin_ [] rfl rfl hK))
                | cons x l =>
                  obtain ⟨kind, k⟩ := x
                  obtain ⟨hpt, hlen, hx, hv3⟩ := rev_last hv2
                  generalize hll : l.length = ll at hlen hx hv3
                  have hroom := hv2.room
                  have hfits := hv2.fits
                  have hl2 : ll < 4611686018427387904 := by have := hl.2; simp at this; omega
                  have hsub : bi .sub .i64 (Int.ofNat len2) 1 = Int.ofNat ll := by rw [isub hN (by simp; omega) (by simp; omega)]; simp; omega
                  have hidx : bp lo2 (Int.ofNat ll) = lo2 + ll := by rw [bp_ hN]; simp
                  have hob1 : obsP [.inb (Int.ofNat ll) (Int.ofNat len2), .tru q] := ⟨⟨by simp, by simp; omega⟩, hpt, trivial⟩
                  have hil : bp lo2 (Int.ofNat ll) < ys.length := by rw [hidx]; omega
                  simp only at hK hn2
                  refine cond_T hN (by rw [cgt hN]; simp; omega) ?_
                  cbv
                  simp only [hsub]
                  cbv
                  repeat' (first | exact True.intro | with_reducible refine dup ?_ | refine And.intro ?_ ?_ | (refine ob_ hN hob1 ?_; try cbv))
                  all_goals
                    refine op_ hN (load_arr ty_ok rfl hpt rfl wideK (Nat.le_of_ble_eq_true rfl) hil ?_)
                    intro x2 hx2
                    rw [hidx, hx] at hx2
                    obtain rfl := (Option.some.inj hx2).symm
                    cbv
                    repeat' (first | exact True.intro | with_reducible refine dup ?_ | refine And.intro ?_ ?_)
                    all_goals
                      refine cond_ hN (fun h5 => ?_) (fun h5 => ?_)
                      · rw [cgt hN] at h5
                        simp only [decide_eq_true_eq, decide_eq_false_iff_not, Int.ofNat_eq_natCast, gt_iff_lt, ge_iff_le, Bool.not_eq_true', Bool.not_eq_false', Int.not_lt, Int.not_le] at h5
                        have hlt5 : k > stands := by have : (stands : Int) < (k : Int) := h5; omega
                        rw [if_pos hlt5] at hK hn2
                        cbv
                        refine op_ hN (op_close rfl (.mch ⟨ahead, line, chk, anc, (kind, k) :: l, waits⟩ true) [0, 1] [26, 27, 28, 29] _ (hmc chk anc waits) rfl rfl (call_ (ends_spec hb ⟨⟨ahead, line, chk, anc, (kind, k) :: l, waits⟩, core⟩ (Int.ofNat stands) (kind, k) l rfl) hG [0, 1] rfl rfl rfl rfl rfl ?_))
                        simp only [OM.bind] at hK hn2
                        generalize endsM right (Int.ofNat stands) ⟨⟨ahead, line, chk, anc, (kind, k) :: l, waits⟩, core⟩ = y at hK hn2 ⊢
                        obtain ⟨r, s'⟩ := y
                        cases r with
                        | err e a => cbv; exact hf _ _ (fin_ [] rfl rfl hK)
                        | ovf => exact hK.elim
                        | ok u =>
                          simp only at hK hn2
                          cbv
                          exact hn _ (Leads.nxt (s', n) [] hn2 (Nat.lt_succ_self n) ⟨⟨rfl, rfl, rfl, trivial⟩, rfl, Nat.le_of_ble_eq_true rfl⟩)
                      · rw [cgt hN] at h5
                        simp only [decide_eq_true_eq, decide_eq_false_iff_not, Int.ofNat_eq_natCast, gt_iff_lt, ge_iff_le, Bool.not_eq_true', Bool.not_eq_false', Int.not_lt, Int.not_le] at h5
                        have hlt5 : ¬ k > stands := by have : (k : Int) ≤ (stands : Int) := h5; omega
                        rw [if_neg hlt5] at hK
                        simp only [placeT] at hK
                        cbv
                        repeat' (first | exact True.intro | with_reducible refine dup ?_ | refine And.intro ?_ ?_)
                        all_goals
                          refine cond_F hN (by rw [ceq hN]; simp; omega) ?_
                          cbv
                          simp only [hsub]
                          cbv
                          repeat' (first | exact True.intro | with_reducible refine dup ?_ | refine And.intro ?_ ?_ | (refine ob_ hN hob1 ?_; try cbv))
                        all_goals
                          refine op_ hN (load_arr ty_ok rfl hpt rfl wideK (Nat.le_of_ble_eq_true rfl) hil ?_)
                          intro x3 hx3
                          rw [hidx, hx] at hx3
                          obtain rfl := (Option.some.inj hx3).symm
                          cbv
                          repeat' (first | exact True.intro | with_reducible refine dup ?_ | refine And.intro ?_ ?_)
                          all_goals
                            refine cond_ hN (fun h6 => ?_) (fun h6 => ?_)
                            · rw [cne hN] at h6
                              rw [if_neg (by simp at h6; omega)] at hK
                              cbv
                              refine op_ hN (call_ (fail_spec 10 (Int.ofNat stands)) hG [] rfl rfl rfl rfl rfl ?_)
                              cbv
                              exact hf _ _ (fin_close rfl (.mch ⟨ahead, line, chk, anc, (kind, k) :: l, waits⟩ true) [0, 1] [26, 27, 28, 29] _ (hmc chk anc waits) rfl (fin_ [] rfl rfl hK))
                            · rw [cne hN] at h6
                              rw [if_pos (by simp at h6; omega)] at hK
                              cbv
                              exact hf _ _ (fin_close rfl (.mch ⟨ahead, line, chk, anc, (kind, k) :: l, waits⟩ true) [0, 1] [26, 27, 28, 29] _ (hmc chk anc waits) rfl (fin_ [] rfl rfl hK))
end Hx
