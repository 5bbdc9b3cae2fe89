/-
  Part of a proof.
-/
import Derived.Test.YtlmbbchfaoeebaaGreatDoorW17
import Derived.Test.YtlmbbchfaoeebaaGreatDoorW09
import Derived.Test.YtlmbbchfaoeebaaGreatDoorW03
set_option linter.unusedVariables false
set_option linter.unusedSimpArgs false
/- sections.machine.line; the closures of looks and finish. -/
namespace Hx
open Go Sx Go.Proofs
set_option maxRecDepth 100000
set_option maxHeartbeats 4000000
set_option linter.unusedVariables false
set_option linter.unusedSimpArgs false
variable {GOk : Gl → Prop}
variable {right : Ev → Bool} {numRead : ByteArray → ByteArray × Int}
theorem blanks_lt0 (t : ByteArray) (h : (cutR t).2 = true) : (cutR t).1 < t.size := by
  simp only [cutR, Bool.and_eq_true, decide_eq_true_eq] at h ⊢; exact h.1
theorem line_spec (hb : RgtOk GOk right) (hr : ReadOk GOk numRead) (s : OS Sec) (t : ByteArray) (ht : t.size < 999000) : Triple (BB Ip GOk) 156 2 2 [.ptr 0 0, .str t] (ocS s)
    (fun K => PostR (fun _ => .tuple []) ocS K (secLine right numRead t s)) := by
  refine triple_of BB_ok (tb := ty) rfl (n0 := 2) (fun _ : Unit => _) pl156 Tryz.call156 Tryz.func156 rfl (by kernel_rfl) (Nat.le_of_ble_eq_true rfl) (by decide) rfl pre_none ?_
  rintro G hG K hK W bi bc bs bk bu bb bo bg bl bp bn be Ncond Nob Nop Nloop Nscope hN Nfin hf _ _
  cbv
  refine op_ hN (call_ (cut_spec t (by omega)) hG [] rfl rfl rfl rfl rfl ?_)
  intro k b hkb
  have hk1 : (cutR t).1 = k := by rw [← hkb]
  have hk2 : (cutR t).2 = b := by rw [← hkb]
  cases b with
  | false =>
    have hM : secLine right numRead t s = (.ok (), s) := by simp only [secLine]; rw [if_neg (by rw [hk2]; decide)]; rfl
    rw [hM] at hK
    cbv
    refine cond_T hN rfl ?_
    cbv
    exact hf _ _ (fin_ [] rfl rfl hK)
  | true =>
    have hkt : k < t.size := by rw [← hk1]; exact blanks_lt0 t hk2
    have hM : secLine right numRead t s = OM.bind (if isB t k 91 then secSection right t k else secAssigns right numRead t k) (fun k => if blanks t k < t.size then OM.fail 2 (Int.ofNat (blanks t k)) else OM.ret ()) s := by simp only [secLine]; rw [if_pos hk2, hk1]
    rw [hM] at hK
    cbv
    refine cond_F hN rfl ?_
    cbv
    refine op_ hN (op_name 0 rfl fun g => op_cput_at 2 [.str t, .int .i64 (Int.ofNat k), .raw (tvS g)] rfl rfl (fun ρ F w h => ?_) (call_ (is_spec t k (tvS g) 91) hG [2] rfl rfl rfl rfl rfl ?_))
    · have := h.at_ (j := 0) (g := g) (by simp)
      simp [SV.denL, SV.den, tellV, this]
    intro m hm
    rw [← hm] at hK
    simp only [OM.bind] at hK
    cases m with
    | true =>
      rw [if_pos rfl] at hK
      cbv
      refine cond_ hN ?_ (fun h => by cases h)
      intro _
      cbv
      refine op_ hN (call_ (section_spec hb s t k g ht hkt) hG [0, 1, 2] rfl rfl rfl rfl rfl ?_)
      generalize secSection right t k s = y at hK ⊢
      obtain ⟨r, s'⟩ := y
      cases r with
      | err e a => cbv; exact hf _ _ (fin_ [] rfl rfl hK)
      | ovf => exact hK.elim
      | ok k2 =>
        simp only at hK
        cbv
        refine op_ hN (call_ (blanks_spec t k2 (tvS g) (by omega)) hG [2] rfl rfl rfl rfl rfl ?_)
        intro b hbb
        rw [← hbb] at hK
        cbv
        refine op_ hN (call_ (more_spec t b (tvS g)) hG [2] rfl rfl rfl rfl rfl ?_)
        intro mo hmo
        cases mo with
        | true =>
          have hlt : b < t.size := by simpa using hmo.symm
          rw [if_pos hlt] at hK
          simp only [OM.fail] at hK
          cbv
          refine cond_ hN ?_ (fun h => by cases h)
          intro _
          cbv
          refine op_ hN (call_ (bad_spec t b (tvS g)) hG [2] rfl rfl rfl rfl rfl ?_)
          cbv
          exact hf _ _ (fin_ [] rfl rfl hK)
        | false =>
          have hlt : ¬ b < t.size := by simpa using hmo.symm
          rw [if_neg hlt] at hK
          simp only [OM.ret] at hK
          cbv
          refine cond_ hN (fun h => by cases h) ?_
          intro _
          cbv
          exact hf _ _ (fin_ [] rfl rfl hK)
    | false =>
      rw [if_neg (by decide)] at hK
      cbv
      refine cond_ hN (fun h => by cases h) ?_
      intro _
      cbv
      refine op_ hN (call_ (assigns_spec hb hr s t k g ht (by omega)) hG [0, 1, 2] rfl rfl rfl rfl rfl ?_)
      generalize secAssigns right numRead t k s = y at hK ⊢
      obtain ⟨r, s'⟩ := y
      cases r with
      | err e a => cbv; exact hf _ _ (fin_ [] rfl rfl hK)
      | ovf => exact hK.elim
      | ok k2 =>
        simp only at hK
        cbv
        refine op_ hN (call_ (blanks_spec t k2 (tvS g) (by omega)) hG [2] rfl rfl rfl rfl rfl ?_)
        intro b hbb
        rw [← hbb] at hK
        cbv
        refine op_ hN (call_ (more_spec t b (tvS g)) hG [2] rfl rfl rfl rfl rfl ?_)
        intro mo hmo
        cases mo with
        | true =>
          have hlt : b < t.size := by simpa using hmo.symm
          rw [if_pos hlt] at hK
          simp only [OM.fail] at hK
          cbv
          refine cond_ hN ?_ (fun h => by cases h)
          intro _
          cbv
          refine op_ hN (call_ (bad_spec t b (tvS g)) hG [2] rfl rfl rfl rfl rfl ?_)
          cbv
          exact hf _ _ (fin_ [] rfl rfl hK)
        | false =>
          have hlt : ¬ b < t.size := by simpa using hmo.symm
          rw [if_neg hlt] at hK
          simp only [OM.ret] at hK
          cbv
          refine cond_ hN (fun h => by cases h) ?_
          intro _
          cbv
          exact hf _ _ (fin_ [] rfl rfl hK)
end Hx
