/-
  Part of a proof.
-/
import Derived.Test.YtkkifbjdbhjhaaaGreatDoorV22
import Derived.Test.YtkkifbjdbhjhaaaGreatDoorV08
import Derived.Test.YtkkifbjdbhjhaaaGreatDoorV06
set_option linter.unusedVariables false
set_option linter.unusedSimpArgs false
/- ref05.own: the walk. -/
namespace Hx
open Go Sx Go.Proofs
set_option maxRecDepth 100000
set_option maxHeartbeats 4000000
set_option linter.unusedVariables false
set_option linter.unusedSimpArgs false
variable {GOk : Gl → Prop}
theorem own_spec_r (p wr : Bool) (lo len cap : Nat) (xs l : List Ev) (hv : VecOk p lo len cap xs l) (hlen : len ≤ 1000000) (f : Nat) (hfl : f < len) :
    Triple (BB Ip GOk) 59 1 2 [.vec p 0 3 lo len cap, .int .i64 (Int.ofNat f)] [.arr p wr 0 56 encE xs]
      (fun K => ∀ q lo2 len2 cap2 ys, VecOk q lo2 len2 cap2 ys ((ownGo (f + 1) 0 (l.drop (f + 1))).map Int.ofNat) → K (.ret (.vec q 1 1 lo2 len2 cap2)) [.arr p wr 0 56 encE xs, .arr q true 1 3 encI ys]) := by
  refine triple_of BB_ok (tb := ty) rfl (n0 := 1) (fun _ : Unit => _) pl59 Tryz.call59 Tryz.func59 rfl (by kernel_rfl) (Nat.le_of_ble_eq_true rfl) (by decide) rfl pre_none ?_
  rintro G hG K hK W bi bc bs bk bu bb bo bg bl bp bn be Ncond Nob Nop Nloop Nscope hN Nfin hf _ _
  have hvl := hv.length
  have hroom := hv.room
  have hfits := hv.fits
  have hf1 : bi .add .i64 (Int.ofNat f) 1 = Int.ofNat (f + 1) := inext hN (by omega)
  cbv
  simp only [hf1]
  refine loopN_ hN (loop_ hN ty_ok mixed (ι := Nat × Int × List Nat × Bool × Nat × Nat × Nat × List Int) (fun y => ⟨[(0, .vec p 0 3 lo len cap), (5, .vec y.2.2.2.1 1 1 y.2.2.2.2.1 y.2.2.2.2.2.1 y.2.2.2.2.2.2.1), (6, .int .i64 y.2.1), (7, .int .i64 (Int.ofNat y.1))], [.arr p wr 0 56 encE xs, .arr y.2.2.2.1 true 1 3 encI y.2.2.2.2.2.2.2], 2⟩)
    (fun y => y.1 ≤ len ∧ y.2.2.1 ++ ownGo y.1 y.2.1 (l.drop y.1) = ownGo (f + 1) 0 (l.drop (f + 1)) ∧ y.2.2.1.length ≤ y.1 ∧ VecOk y.2.2.2.1 y.2.2.2.2.1 y.2.2.2.2.2.1 y.2.2.2.2.2.2.1 y.2.2.2.2.2.2.2 (y.2.2.1.map Int.ofNat) ∧ -(y.1 : Int) ≤ y.2.1 ∧ y.2.1 ≤ y.1) (fun y => len - y.1) ?_ ?_)
  · refine leads_noArr true 1 2 3 encI [] rfl ?_
    refine leads_eset 5 .nilslice (.vec false 1 1 0 0 0) rfl (fun _ => rfl) ?_
    exact Leads.idx (f + 1, 0, [], false, 0, 0, 0, []) [1] ⟨hfl, rfl, Nat.zero_le _, ⟨fun _ => rfl, Nat.le_refl _, Nat.le_refl _, rfl⟩, by simp only; omega, by simp only; omega⟩ ⟨⟨rfl, rfl, rfl, rfl, trivial⟩, rfl, Nat.le_of_ble_eq_true rfl⟩
  rintro ⟨i, dep, outl, q, lo2, len2, cap2, ys⟩ ⟨hi, hgo, hol, hw, hda, hdb⟩ Nnext hn _
  simp only at hi hgo hol hw hda hdb
  have hwl := hw.length
  rw [List.length_map] at hwl
  have hwf := hw.fits
  have hwr := hw.room
  cbv
  refine cond_ hN ?_ ?_ <;> intro h <;> rw [clt hN] at h
  · skip
    simp only [decide_eq_true_eq, decide_eq_false_iff_not, Int.ofNat_eq_natCast, gt_iff_lt, ge_iff_le, Bool.not_eq_true', Bool.not_eq_false', Int.not_lt, Int.not_le] at h
    have hilt : i < len := by have : (i : Int) < (len : Int) := h; omega
    have hda : -(i : Int) ≤ dep := hda
    have hdb : dep ≤ (i : Int) := hdb
    have hpt : p = true := by
      cases p with
      | true => rfl
      | false => have := hv.pr rfl; omega
    have hil : i < l.length := by omega
    have hxi : xs[lo + i]? = some (l[i]'hil) := by
      have h5 : ((xs.drop lo).take len)[i]? = some (l[i]'hil) := by rw [hv.eq]; exact List.getElem?_eq_getElem hil
      rw [List.getElem?_take, if_pos hilt, List.getElem?_drop] at h5
      exact h5
    have hdrop : l.drop i = (l[i]'hil) :: l.drop (i + 1) := List.drop_eq_getElem_cons hil
    generalize (l[i]'hil) = x at hxi hdrop
    rw [hdrop] at hgo
    obtain ⟨kind, text, val⟩ := x
    simp only [ownGo] at hgo
    have hidx : bp lo (Int.ofNat i) = lo + i := by rw [bp_ hN]; simp
    have hinx : bi .add .i64 (Int.ofNat i) 1 = Int.ofNat (i + 1) := inext hN (by omega)
    obtain ⟨dep1, hdep1⟩ : ∃ d, dep + 1 = d := ⟨_, rfl⟩
    have hadd : bi .add .i64 dep 1 = dep1 := by rw [← hdep1]; exact iadd hN (by omega) (by omega)
    obtain ⟨dep2, hdep2⟩ : ∃ d, dep - 1 = d := ⟨_, rfl⟩
    have hsub : bi .sub .i64 dep 1 = dep2 := by rw [← hdep2]; exact isub hN (by omega) (by omega)
    rw [hdep1, hdep2] at hgo
    have hb_dep1 : -((i + 1 : Nat) : Int) ≤ dep1 ∧ dep1 ≤ ((i + 1 : Nat) : Int) := by omega
    have hb_dep2 : -((i + 1 : Nat) : Int) ≤ dep2 ∧ dep2 ≤ ((i + 1 : Nat) : Int) := by omega
    have hb_dep : -((i + 1 : Nat) : Int) ≤ dep ∧ dep ≤ ((i + 1 : Nat) : Int) := by omega
    cbv
    refine ob_ hN ⟨⟨by simp, by simpa using hilt⟩, hpt, trivial⟩ ?_
    cbv
    refine op_ hN (load_arr ty_ok rfl hpt rfl wideE (Nat.le_of_ble_eq_true rfl) (by rw [hidx]; omega) ?_)
    intro z hz
    rw [hidx, hxi] at hz
    obtain rfl := Option.some.inj hz
    clear hz
    by_cases hc : kind = 6 ∨ kind = 9 ∨ kind = 12
    · have hkc : isC kind = true := by rcases hc with rfl | rfl | rfl <;> rfl
      rw [if_pos hkc] at hgo
      rcases hc with rfl | rfl | rfl
      all_goals
        cbv
        repeat' (first
          | (refine cond_T hN ?_ ?_; (focus (rw [ceq hN]; rfl)); cbv)
          | (refine cond_F hN ?_ ?_; (focus (rw [ceq hN]; rfl)); cbv))
        simp only [hsub, hinx]
        exact hn _ (Leads.nxt (i + 1, dep2, outl, q, lo2, len2, cap2, ys) [1] ⟨hilt, hgo, by simp only; omega, hw, hb_dep2.1, hb_dep2.2⟩ (by simp only; omega) ⟨⟨rfl, rfl, rfl, rfl, trivial⟩, rfl, Nat.le_of_ble_eq_true rfl⟩)
    have hkc : isC kind = false := by
      simp only [not_or] at hc
      simp [isC, hc.1, hc.2.1, hc.2.2]
    rw [hkc] at hgo
    simp only [Bool.false_eq_true, if_false] at hgo
    by_cases ho : kind = 5 ∨ kind = 7 ∨ kind = 10
    · have hko : k57a kind = true := by rcases ho with rfl | rfl | rfl <;> rfl
      rw [if_pos hko] at hgo
      rcases ho with rfl | rfl | rfl
      all_goals
        cbv
        repeat' (first
          | (refine cond_T hN ?_ ?_; (focus (rw [ceq hN]; rfl)); cbv)
          | (refine cond_F hN ?_ ?_; (focus (rw [ceq hN]; rfl)); cbv))
        refine cond_ hN ?_ ?_ <;> intro hd <;> rw [ceq hN] at hd
        · have hd : dep = 0 := of_decide_eq_true hd
          rw [if_pos hd] at hgo
          cbv
          refine op_ hN (append_vec (new := [(Int.ofNat i)]) (z := 0) ty_ok rfl rfl rfl rfl (fun k => by simp) rfl rfl wideI rfl rfl (src_cells wideI rfl (fun _ _ _ _ => rfl) rfl) hw.pr hw.room hw.fits (by simp; omega) (by decide) ?_)
          intro p' lo' m' cap' xs' hm' e1 e2 e3 e4
          cbv
          repeat' (first
            | (refine cond_T hN ?_ ?_; (focus (rw [ceq hN]; rfl)); cbv)
            | (refine cond_F hN ?_ ?_; (focus (rw [ceq hN]; rfl)); cbv))
          simp only [hinx, hadd]
          exact hn _ (Leads.nxt (i + 1, dep1, outl ++ [i], p', lo', m', cap', xs') [3] ⟨hilt, by rw [← hgo, List.append_assoc], by simp; omega, ⟨e1, e2, e3, by rw [e4, hw.eq]; simp⟩, hb_dep1.1, hb_dep1.2⟩ (by simp only; omega) ⟨⟨rfl, rfl, rfl, rfl, trivial⟩, rfl, Nat.le_of_ble_eq_true rfl⟩)
        · have hd : ¬ dep = 0 := of_decide_eq_false hd
          rw [if_neg hd, List.nil_append] at hgo
          cbv
          repeat' (first
            | (refine cond_T hN ?_ ?_; (focus (rw [ceq hN]; rfl)); cbv)
            | (refine cond_F hN ?_ ?_; (focus (rw [ceq hN]; rfl)); cbv))
          simp only [hinx, hadd]
          exact hn _ (Leads.nxt (i + 1, dep1, outl, q, lo2, len2, cap2, ys) [1] ⟨hilt, hgo, by simp only; omega, hw, hb_dep1.1, hb_dep1.2⟩ (by simp only; omega) ⟨⟨rfl, rfl, rfl, rfl, trivial⟩, rfl, Nat.le_of_ble_eq_true rfl⟩)
    have hko : k57a kind = false := by
      simp only [not_or] at ho
      simp [k57a, ho.1, ho.2.1, ho.2.2]
    rw [if_neg (show ¬ k57a kind = true by rw [hko]; simp)] at hgo
    simp only [not_or] at ho hc
    cbv
    repeat' (first
      | (refine cond_F hN ?_ ?_; (focus (rw [ceq hN]; apply decide_eq_false; first | exact ho.1 | exact ho.2.1 | exact ho.2.2 | exact hc.1 | exact hc.2.1 | exact hc.2.2)); cbv))
    refine cond_ hN ?_ ?_ <;> intro hd <;> rw [ceq hN] at hd
    · have hd : dep = 0 := of_decide_eq_true hd
      rw [if_pos hd] at hgo
      cbv
      refine op_ hN (append_vec (new := [(Int.ofNat i)]) (z := 0) ty_ok rfl rfl rfl rfl (fun k => by simp) rfl rfl wideI rfl rfl (src_cells wideI rfl (fun _ _ _ _ => rfl) rfl) hw.pr hw.room hw.fits (by simp; omega) (by decide) ?_)
      intro p' lo' m' cap' xs' hm' e1 e2 e3 e4
      cbv
      repeat' (first
        | (refine cond_F hN ?_ ?_; (focus (rw [ceq hN]; apply decide_eq_false; first | exact ho.1 | exact ho.2.1 | exact ho.2.2 | exact hc.1 | exact hc.2.1 | exact hc.2.2)); cbv))
      simp only [hinx]
      exact hn _ (Leads.nxt (i + 1, dep, outl ++ [i], p', lo', m', cap', xs') [3] ⟨hilt, by rw [← hgo, List.append_assoc], by simp; omega, ⟨e1, e2, e3, by rw [e4, hw.eq]; simp⟩, hb_dep.1, hb_dep.2⟩ (by simp only; omega) ⟨⟨rfl, rfl, rfl, rfl, trivial⟩, rfl, Nat.le_of_ble_eq_true rfl⟩)
    · have hd : ¬ dep = 0 := of_decide_eq_false hd
      rw [if_neg hd, List.nil_append] at hgo
      cbv
      repeat' (first
        | (refine cond_F hN ?_ ?_; (focus (rw [ceq hN]; apply decide_eq_false; first | exact ho.1 | exact ho.2.1 | exact ho.2.2 | exact hc.1 | exact hc.2.1 | exact hc.2.2)); cbv))
      simp only [hinx]
      exact hn _ (Leads.nxt (i + 1, dep, outl, q, lo2, len2, cap2, ys) [1] ⟨hilt, hgo, by simp only; omega, hw, hb_dep.1, hb_dep.2⟩ (by simp only; omega) ⟨⟨rfl, rfl, rfl, rfl, trivial⟩, rfl, Nat.le_of_ble_eq_true rfl⟩)
  · skip
    simp only [decide_eq_true_eq, decide_eq_false_iff_not, Int.ofNat_eq_natCast, gt_iff_lt, ge_iff_le, Bool.not_eq_true', Bool.not_eq_false', Int.not_lt, Int.not_le] at h
    have hie : i = len := by have : (len : Int) ≤ (i : Int) := h; omega
    rw [List.drop_eq_nil_of_le (by omega)] at hgo
    simp only [ownGo, List.append_nil] at hgo
    rw [hgo] at hw
    cbv
    exact hf _ _ (fin_ [1] rfl rfl (hK q lo2 len2 cap2 ys hw))
end Hx
/- ref05.Step's body in named pieces. -/
namespace Hx
open Go Sx Go.Proofs
set_option maxRecDepth 100000
set_option maxHeartbeats 4000000
set_option linter.unusedVariables false
set_option linter.unusedSimpArgs false
variable {GOk : Gl → Prop}
noncomputable def rstc : Code := Go.Proofs.Tryz.f32.body.getD .skip
noncomputable def rst_0 : {c : Code // c = cdL (rstc)} := ⟨_, by cbv⟩
noncomputable def rst_1 : {c : Code // c = cdL (cdR (rstc))} := ⟨_, by cbv⟩
noncomputable def rst_2 : {c : Code // c = cdL (cdL (cdR (cdR (rstc))))} := ⟨_, by cbv⟩
noncomputable def rst_3 : {c : Code // c = cdL (cdL (cdR (cdL (cdR (cdR (rstc))))))} := ⟨_, by cbv⟩
noncomputable def rst_5 : Code := .seq rst_3.1 .ret
noncomputable def rst_7 : Code := .cond (.tmp 19) rst_5 .skip
noncomputable def rst_8 : Code := .seq rst_2.1 rst_7
noncomputable def rst_9 : {c : Code // c = cdL (cdR (cdR (cdR (rstc))))} := ⟨_, by cbv⟩
noncomputable def rst_10 : {c : Code // c = cdL (cdR (cdR (cdR (cdR (rstc)))))} := ⟨_, by cbv⟩
noncomputable def rst_11 : {c : Code // c = cdL (cdR (cdR (cdR (cdR (cdR (rstc))))))} := ⟨_, by cbv⟩
noncomputable def rst_12 : {c : Code // c = cdL (cdR (cdR (cdR (cdR (cdR (cdR (rstc)))))))} := ⟨_, by cbv⟩
noncomputable def rst_13 : {c : Code // c = cdL (cdL (cdR (cdR (cdR (cdR (cdR (cdR (cdR (rstc)))))))))} := ⟨_, by cbv⟩
noncomputable def rst_14 : {c : Code // c = cdL (cdL (cdL (cdR (cdL (cdR (cdR (cdR (cdR (cdR (cdR (cdR (rstc))))))))))))} := ⟨_, by cbv⟩
noncomputable def rst_15 : {c : Code // c = cdL (cdL (cdR (cdL (cdL (cdR (cdL (cdR (cdR (cdR (cdR (cdR (cdR (cdR (rstc))))))))))))))} := ⟨_, by cbv⟩
noncomputable def rst_17 : Code := .seq rst_15.1 .ret
noncomputable def rst_19 : Code := .cond (.tmp 62) rst_17 .skip
noncomputable def rst_20 : Code := .seq rst_14.1 rst_19
noncomputable def rst_21 : {c : Code // c = cdL (cdR (cdL (cdR (cdL (cdR (cdR (cdR (cdR (cdR (cdR (cdR (rstc))))))))))))} := ⟨_, by cbv⟩
noncomputable def rst_23 : Code := .seq rst_21.1 .ret
noncomputable def rst_24 : Code := .seq rst_20 rst_23
noncomputable def rst_26 : Code := .cond (.tmp 55) rst_24 .skip
noncomputable def rst_27 : Code := .seq rst_13.1 rst_26
noncomputable def rst_28 : {c : Code // c = cdL (cdR (cdR (cdR (cdR (cdR (cdR (cdR (cdR (rstc)))))))))} := ⟨_, by cbv⟩
noncomputable def rst_29 : {c : Code // c = cdL (cdR (cdR (cdR (cdR (cdR (cdR (cdR (cdR (cdR (rstc))))))))))} := ⟨_, by cbv⟩
noncomputable def rst_30 : {c : Code // c = cdL (cdL (cdR (cdR (cdR (cdR (cdR (cdR (cdR (cdR (cdR (cdR (rstc))))))))))))} := ⟨_, by cbv⟩
noncomputable def rst_31 : {c : Code // c = cdL (cdR (cdL (cdR (cdR (cdR (cdR (cdR (cdR (cdR (cdR (cdR (cdR (rstc)))))))))))))} := ⟨_, by cbv⟩
noncomputable def rst_33 : Code := .cond (.tmp 68) rst_31.1 .skip
noncomputable def rst_34 : Code := .seq rst_30.1 rst_33
noncomputable def rst_35 : {c : Code // c = cdL (cdR (cdR (cdR (cdR (cdR (cdR (cdR (cdR (cdR (cdR (cdR (rstc))))))))))))} := ⟨_, by cbv⟩
noncomputable def rst_36 : {c : Code // c = cdL (cdL (cdR (cdR (cdR (cdR (cdR (cdR (cdR (cdR (cdR (cdR (cdR (cdR (rstc))))))))))))))} := ⟨_, by cbv⟩
noncomputable def rst_37 : {c : Code // c = cdL (cdL (cdR (cdL (cdR (cdR (cdR (cdR (cdR (cdR (cdR (cdR (cdR (cdR (cdR (cdR (rstc))))))))))))))))} := ⟨_, by cbv⟩
noncomputable def rst_38 : {c : Code // c = cdL (cdR (cdL (cdR (cdL (cdR (cdR (cdR (cdR (cdR (cdR (cdR (cdR (cdR (cdR (cdR (cdR (rstc)))))))))))))))))} := ⟨_, by cbv⟩
noncomputable def rst_39 : {c : Code // c = cdL (cdR (cdR (cdL (cdR (cdL (cdR (cdR (cdR (cdR (cdR (cdR (cdR (cdR (cdR (cdR (cdR (cdR (rstc))))))))))))))))))} := ⟨_, by cbv⟩
noncomputable def rst_40 : {c : Code // c = cdL (cdL (cdR (cdR (cdR (cdL (cdR (cdL (cdR (cdR (cdR (cdR (cdR (cdR (cdR (cdR (cdR (cdR (cdR (cdR (rstc))))))))))))))))))))} := ⟨_, by cbv⟩
noncomputable def rst_41 : {c : Code // c = cdL (cdR (cdL (cdR (cdR (cdR (cdL (cdR (cdL (cdR (cdR (cdR (cdR (cdR (cdR (cdR (cdR (cdR (cdR (cdR (cdR (rstc)))))))))))))))))))))} := ⟨_, by cbv⟩
noncomputable def rst_42 : {c : Code // c = cdR (cdR (cdL (cdR (cdR (cdR (cdL (cdR (cdL (cdR (cdR (cdR (cdR (cdR (cdR (cdR (cdR (cdR (cdR (cdR (cdR (rstc)))))))))))))))))))))} := ⟨_, by cbv⟩
noncomputable def rst_43 : Code := .cond (.tmp 94) rst_41.1 rst_42.1
noncomputable def rst_44 : Code := .seq rst_40.1 rst_43
noncomputable def rst_45 : {c : Code // c = cdL (cdR (cdR (cdR (cdR (cdL (cdR (cdL (cdR (cdR (cdR (cdR (cdR (cdR (cdR (cdR (cdR (cdR (cdR (cdR (rstc))))))))))))))))))))} := ⟨_, by cbv⟩
noncomputable def rst_46 : {c : Code // c = cdL (cdR (cdR (cdR (cdR (cdR (cdL (cdR (cdL (cdR (cdR (cdR (cdR (cdR (cdR (cdR (cdR (cdR (cdR (cdR (cdR (rstc)))))))))))))))))))))} := ⟨_, by cbv⟩
noncomputable def rst_48 : Code := .cond (.tmp 102) rst_46.1 .skip
noncomputable def rst_49 : Code := .seq rst_45.1 rst_48
noncomputable def rst_50 : Code := .cond (.tmp 91) rst_44 rst_49
noncomputable def rst_51 : Code := .seq rst_39.1 rst_50
noncomputable def rst_52 : Code := .cond (.tmp 84) rst_38.1 rst_51
noncomputable def rst_53 : Code := .seq rst_37.1 rst_52
noncomputable def rst_54 : Code := .block 0 rst_53
noncomputable def rst_55 : Code := .seq rst_36.1 rst_54
noncomputable def rst_56 : {c : Code // c = cdL (cdL (cdR (cdR (cdR (cdR (cdR (cdR (cdR (cdR (cdR (cdR (cdR (cdR (cdR (rstc)))))))))))))))} := ⟨_, by cbv⟩
noncomputable def rst_57 : {c : Code // c = cdL (cdL (cdR (cdL (cdR (cdR (cdR (cdR (cdR (cdR (cdR (cdR (cdR (cdR (cdR (cdR (cdR (rstc)))))))))))))))))} := ⟨_, by cbv⟩
noncomputable def rst_59 : Code := .seq rst_57.1 .ret
noncomputable def rst_61 : Code := .cond (.tmp 136) rst_59 .skip
noncomputable def rst_62 : Code := .seq rst_56.1 rst_61
noncomputable def rst_63 : {c : Code // c = cdL (cdL (cdR (cdR (cdR (cdR (cdR (cdR (cdR (cdR (cdR (cdR (cdR (cdR (cdR (cdR (rstc))))))))))))))))} := ⟨_, by cbv⟩
noncomputable def rst_64 : {c : Code // c = cdL (cdL (cdR (cdL (cdR (cdR (cdR (cdR (cdR (cdR (cdR (cdR (cdR (cdR (cdR (cdR (cdR (cdR (rstc))))))))))))))))))} := ⟨_, by cbv⟩
noncomputable def rst_66 : Code := .seq rst_64.1 .ret
noncomputable def rst_68 : Code := .cond (.tmp 141) rst_66 .skip
noncomputable def rst_69 : Code := .seq rst_63.1 rst_68
noncomputable def rst_70 : {c : Code // c = cdL (cdL (cdR (cdR (cdR (cdR (cdR (cdR (cdR (cdR (cdR (cdR (cdR (cdR (cdR (cdR (cdR (rstc)))))))))))))))))} := ⟨_, by cbv⟩
noncomputable def rst_71 : {c : Code // c = cdL (cdL (cdR (cdL (cdR (cdR (cdR (cdR (cdR (cdR (cdR (cdR (cdR (cdR (cdR (cdR (cdR (cdR (cdR (rstc)))))))))))))))))))} := ⟨_, by cbv⟩
noncomputable def rst_72 : {c : Code // c = cdL (cdL (cdR (cdL (cdR (cdL (cdR (cdR (cdR (cdR (cdR (cdR (cdR (cdR (cdR (cdR (cdR (cdR (cdR (cdR (cdR (rstc)))))))))))))))))))))} := ⟨_, by cbv⟩
noncomputable def rst_73 : {c : Code // c = cdL (cdL (cdL (cdL (cdR (cdL (cdR (cdL (cdR (cdL (cdR (cdR (cdR (cdR (cdR (cdR (cdR (cdR (cdR (cdR (cdR (cdR (cdR (cdR (cdR (rstc)))))))))))))))))))))))))} := ⟨_, by cbv⟩
noncomputable def rst_76 : Code := .cond (.tmp 151) .skip (.exit 1)
noncomputable def rst_77 : Code := .seq rst_73.1 rst_76
noncomputable def rst_78 : {c : Code // c = cdL (cdL (cdL (cdR (cdL (cdL (cdR (cdL (cdR (cdL (cdR (cdL (cdR (cdR (cdR (cdR (cdR (cdR (cdR (cdR (cdR (cdR (cdR (cdR (cdR (cdR (cdR (rstc)))))))))))))))))))))))))))} := ⟨_, by cbv⟩
noncomputable def rst_79 : {c : Code // c = cdL (cdL (cdR (cdL (cdL (cdR (cdL (cdL (cdR (cdL (cdR (cdL (cdR (cdL (cdR (cdR (cdR (cdR (cdR (cdR (cdR (cdR (cdR (cdR (cdR (cdR (cdR (cdR (cdR (rstc)))))))))))))))))))))))))))))} := ⟨_, by cbv⟩
noncomputable def rst_80 : {c : Code // c = cdL (cdR (cdL (cdR (cdL (cdL (cdR (cdL (cdL (cdR (cdL (cdR (cdL (cdR (cdL (cdR (cdR (cdR (cdR (cdR (cdR (cdR (cdR (cdR (cdR (cdR (cdR (cdR (cdR (cdR (rstc))))))))))))))))))))))))))))))} := ⟨_, by cbv⟩
noncomputable def rst_81 : {c : Code // c = cdL (cdL (cdR (cdR (cdL (cdR (cdL (cdL (cdR (cdL (cdL (cdR (cdL (cdR (cdL (cdR (cdL (cdR (cdR (cdR (cdR (cdR (cdR (cdR (cdR (cdR (cdR (cdR (cdR (cdR (cdR (cdR (rstc))))))))))))))))))))))))))))))))} := ⟨_, by cbv⟩
noncomputable def rst_83 : Code := .seq rst_81.1 .ret
noncomputable def rst_85 : Code := .cond (.tmp 176) rst_83 .skip
noncomputable def rst_86 : Code := .seq rst_80.1 rst_85
noncomputable def rst_87 : Code := .seq rst_79.1 rst_86
noncomputable def rst_89 : Code := .cond (.tmp 163) rst_87 .skip
noncomputable def rst_90 : Code := .seq rst_78.1 rst_89
noncomputable def rst_91 : Code := .block 2 rst_90
noncomputable def rst_92 : {c : Code // c = cdR (cdR (cdL (cdL (cdR (cdL (cdR (cdL (cdR (cdL (cdR (cdR (cdR (cdR (cdR (cdR (cdR (cdR (cdR (cdR (cdR (cdR (cdR (cdR (cdR (rstc)))))))))))))))))))))))))} := ⟨_, by cbv⟩
noncomputable def rst_93 : Code := .seq rst_91 rst_92.1
noncomputable def rst_94 : Code := .seq rst_77 rst_93
noncomputable def rst_95 : Code := .loop rst_94
noncomputable def rst_96 : Code := .block 1 rst_95
noncomputable def rst_97 : Code := .seq rst_72.1 rst_96
noncomputable def rst_98 : {c : Code // c = cdL (cdR (cdR (cdL (cdR (cdL (cdR (cdR (cdR (cdR (cdR (cdR (cdR (cdR (cdR (cdR (cdR (cdR (cdR (cdR (cdR (rstc)))))))))))))))))))))} := ⟨_, by cbv⟩
noncomputable def rst_99 : {c : Code // c = cdL (cdL (cdR (cdR (cdR (cdL (cdR (cdL (cdR (cdR (cdR (cdR (cdR (cdR (cdR (cdR (cdR (cdR (cdR (cdR (cdR (cdR (cdR (rstc)))))))))))))))))))))))} := ⟨_, by cbv⟩
noncomputable def rst_101 : Code := .seq rst_99.1 .ret
noncomputable def rst_103 : Code := .cond (.tmp 178) rst_101 .skip
noncomputable def rst_104 : Code := .seq rst_98.1 rst_103
noncomputable def rst_105 : Code := .seq rst_97 rst_104
noncomputable def rst_106 : Code := .seq rst_71.1 rst_105
noncomputable def rst_108 : Code := .cond (.tmp 147) rst_106 .skip
noncomputable def rst_109 : Code := .seq rst_70.1 rst_108
noncomputable def rst_110 : {c : Code // c = cdL (cdR (cdR (cdR (cdR (cdR (cdR (cdR (cdR (cdR (cdR (cdR (cdR (cdR (cdR (cdR (cdR (rstc)))))))))))))))))} := ⟨_, by cbv⟩
noncomputable def rst_112 : Code := .seq rst_110.1 .ret
noncomputable def rst_113 : Code := .seq rst_109 rst_112
noncomputable def rst_114 : Code := .seq rst_69 rst_113
noncomputable def rst_115 : Code := .seq rst_62 rst_114
noncomputable def rst_116 : Code := .seq rst_55 rst_115
noncomputable def rst_117 : Code := .seq rst_35.1 rst_116
noncomputable def rst_118 : Code := .seq rst_34 rst_117
noncomputable def rst_119 : Code := .seq rst_29.1 rst_118
noncomputable def rst_120 : Code := .seq rst_28.1 rst_119
noncomputable def rst_121 : Code := .seq rst_27 rst_120
noncomputable def rst_122 : Code := .seq rst_12.1 rst_121
noncomputable def rst_123 : Code := .seq rst_11.1 rst_122
noncomputable def rst_124 : Code := .seq rst_10.1 rst_123
noncomputable def rst_125 : Code := .seq rst_9.1 rst_124
noncomputable def rst_126 : Code := .seq rst_8 rst_125
noncomputable def rst_127 : Code := .seq rst_1.1 rst_126
noncomputable def rst_128 : Code := .seq rst_0.1 rst_127
theorem rst_fold : Go.Proofs.Tryz.f32.body = some rst_128 := by kernel_rfl
end Hx
