/-
  Part of a proof.
-/
import Derived.Test.YtkkifbjdbhjhaaaGreatDoorV20
import Derived.Test.YtkkifbjdbhjhaaaGreatDoorV14
import Derived.Stop.Asserts
set_option linter.unusedVariables false
set_option linter.unusedSimpArgs false
/- delim.machine.End; the machine as pull asks for one; New, Decode. -/
namespace Hx
open Go Sx Go.Proofs
set_option maxRecDepth 100000
set_option maxHeartbeats 4000000
set_option linter.unusedVariables false
set_option linter.unusedSimpArgs false
variable {GOk : Gl → Prop}
def dEnd2 (s1 : DS) : Option (Int × DS) := if s1.1.state = 2 then some (2, s1)
    else match (if s1.1.row then dEnds false s1 else some (0, s1)) with
      | none => none
      | some (e, s2) => if e ≠ 0 then some (e, s2) else match dTell (ev0 6) s2 with
        | none => none
        | some s3 => some (0, s3)
theorem dEnd_eq (s : DS) : dEnd s = match (if s.1.started then some s else dTell (ev0 5) s) with
  | none => none
  | some s1 => dEnd2 s1 := rfl
theorem mend_d (m : Dlm) (c : Core) : Triple (BB Ip GOk) 224 2 2 [.ptr 0 0, .fn (.func 55) [.ptr 1 0] []] [.abs (.dlm m) [0, 1], .abs (.core c 68 51) [1, 0]]
    (fun K => PostD K c (dEnd (m, c.queue))) := by
  obtain ⟨state, started, row, header, named, cell, cells⟩ := m
  refine triple_of BB_ok (tb := ty) rfl (n0 := 4) (fun y : {cs' // Tm (.dlm ⟨state, started, row, header, named, cell, cells⟩) cs'} => csRen (sg [0, 1] 2) y.1 ++ [.abs (.core c 68 51) [1, 0]]) pl224 Tryz.call224 Tryz.func224 rfl (by kernel_rfl) (Nat.le_of_ble_eq_true rfl) (by decide) rfl (pre_open rfl rfl rfl) ?_
  rintro G hG K hK W bi bc bs bk bu bb bo bg bl bp bn be Ncond Nob Nop Nloop Nscope hN Nfin hf _ ⟨cs', hT⟩
  obtain ⟨p, lo, len, cap, xs, q, lo2, len2, cap2, ys, hv1, hv2, hok, rfl⟩ := id hT
  simp only at hv1 hv2 hok
  rw [dEnd_eq] at hK
  simp only at hK
  cases started with
  | true =>
    have hK1 : PostD K c (dEnd2 (⟨state, true, row, header, named, cell, cells⟩, c.queue)) := hK
    clear hK
    cbv
    refine cond_F hN rfl ?_
    unfold dEnd2 at hK1
    simp only at hK1
    cbv
    refine cond_ hN ?_ ?_ <;> intro h1 <;> rw [ceq hN] at h1
    · rw [if_pos (of_decide_eq_true h1)] at hK1
      have hKf := hK1 c rfl
      cbv
      exact hf _ _ (fin_cput 0 [.int .i64 state, .bool true, .bool row, .vec p 2 1 lo len cap, .bool named, .vec q 3 1 lo2 len2 cap2, .int .i64 (Int.ofNat cells)] rfl (fun _ => rfl) (fin_close rfl (.dlm ⟨state, true, row, header, named, cell, cells⟩) [0, 1] [2, 3] _ (dlmTm hv1 hv2 hok) rfl (fin_ [] rfl rfl hKf)))
    rw [if_neg (of_decide_eq_false h1)] at hK1
    cases row with
    | true =>
      have hK1 : PostD K c (match dEnds false (⟨state, true, true, header, named, cell, cells⟩, c.queue) with
        | none => none
        | some (e, s2) => if e ≠ 0 then some (e, s2) else match dTell (ev0 6) s2 with
          | none => none
          | some s3 => some (0, s3)) := hK1
      cbv
      refine cond_T hN rfl ?_
      cbv
      refine op_ hN (op_cput 0 [.int .i64 state, .bool true, .bool true, .vec p 2 1 lo len cap, .bool named, .vec q 3 1 lo2 len2 cap2, .int .i64 (Int.ofNat cells)] rfl (fun _ => rfl) (op_close rfl (.dlm ⟨state, true, true, header, named, cell, cells⟩) [0, 1] [2, 3] _ (dlmTm hv1 hv2 hok) rfl rfl (op_vals (vals' := [.fn (.func 227) [] [], .ptr 0 0, .bool false, .fn (.func 55) [.ptr 1 0] []]) (fun ρ F w h => by simp [SV.denL, SV.den]) ?_)))
      refine call_ (ends_d ⟨state, true, true, header, named, cell, cells⟩ c false) hG [0, 1] rfl rfl rfl rfl rfl ?_
      generalize dEnds false (⟨state, true, true, header, named, cell, cells⟩, c.queue) = y at hK1 ⊢
      cases y with
      | none => exact hK1.elim
      | some y =>
        obtain ⟨e, m2, q2⟩ := y
        intro c2 hc2
        simp only at hK1
        cbv
        refine cond_ hN ?_ ?_ <;> intro h2 <;> rw [cne hN] at h2
        · have h2 : e ≠ 0 := by simpa using h2
          rw [if_pos h2] at hK1
          have hKf := hK1 c2 hc2
          cbv
          exact hf _ _ (fin_ [] rfl rfl hKf)
        · have h2 : e = 0 := by simpa using h2
          rw [if_neg (by simpa using h2)] at hK1
          have hq2 : c2.queue = q2 := by rw [hc2]
          rcases dTell_cases (ev0 6) m2 q2 with ⟨h3, _⟩ | ⟨h3, hq⟩
          · rw [h3] at hK1; exact hK1.elim
          rw [h3] at hK1
          have hK1 : PostD K c (some (0, (m2, q2 ++ [ev0 6]))) := hK1
          cbv
          refine op_ hN (call_ (told_d _ _ c2 (ev0 6) (by rw [hq2]; exact hq)) hG [1, 0] rfl rfl rfl rfl rfl ?_)
          intro c3 hc3
          have hKf := hK1 c3 (by rw [hc3, hq2, hc2])
          cbv
          exact hf _ _ (fin_ [] rfl rfl hKf)
    | false =>
      have hK1 : PostD K c (match dTell (ev0 6) (⟨state, true, false, header, named, cell, cells⟩, c.queue) with
          | none => none
          | some s3 => some (0, s3)) := hK1
      rcases dTell_cases (ev0 6) ⟨state, true, false, header, named, cell, cells⟩ c.queue with ⟨h3, _⟩ | ⟨h3, hq⟩
      · rw [h3] at hK1; exact hK1.elim
      rw [h3] at hK1
      have hK1 : PostD K c (some (0, ((⟨state, true, false, header, named, cell, cells⟩ : Dlm), c.queue ++ [ev0 6]))) := hK1
      cbv
      refine cond_F hN rfl ?_
      cbv
      refine op_ hN (call_ (told_d _ _ c (ev0 6) hq) hG [1, 0] rfl rfl rfl rfl rfl ?_)
      intro c3 hc3
      have hKf := hK1 c3 hc3
      cbv
      exact hf _ _ (fin_cput 0 [.int .i64 state, .bool true, .bool false, .vec p 2 1 lo len cap, .bool named, .vec q 3 1 lo2 len2 cap2, .int .i64 (Int.ofNat cells)] rfl (fun _ => rfl) (fin_close rfl (.dlm ⟨state, true, false, header, named, cell, cells⟩) [0, 1] [2, 3] _ (dlmTm hv1 hv2 hok) rfl (fin_ [] rfl rfl hKf)))
  | false =>
    have hK : PostD K c (match dTell (ev0 5) (⟨state, false, row, header, named, cell, cells⟩, c.queue) with
      | none => none
      | some s1 => dEnd2 s1) := hK
    rcases dTell_cases (ev0 5) ⟨state, false, row, header, named, cell, cells⟩ c.queue with ⟨h1, _⟩ | ⟨h1, hq⟩
    · rw [h1] at hK; exact hK.elim
    rw [h1] at hK
    have hK : PostD K c (dEnd2 (⟨state, false, row, header, named, cell, cells⟩, c.queue ++ [ev0 5])) := hK
    cbv
    refine cond_T hN rfl ?_
    cbv
    refine op_ hN (call_ (told_d _ _ c (ev0 5) hq) hG [1, 0] rfl rfl rfl rfl rfl ?_)
    intro c1 hc1
    have hK1 : PostD K c1 (dEnd2 (⟨state, false, row, header, named, cell, cells⟩, c1.queue)) := by
      have := PostD.same hK ⟨_, hc1⟩
      rw [hc1] at this ⊢
      exact this
    clear hK hc1 h1 hq
    unfold dEnd2 at hK1
    simp only at hK1
    cbv
    refine cond_ hN ?_ ?_ <;> intro h1 <;> rw [ceq hN] at h1
    · rw [if_pos (of_decide_eq_true h1)] at hK1
      have hKf := hK1 c1 rfl
      cbv
      exact hf _ _ (fin_cput 0 [.int .i64 state, .bool false, .bool row, .vec p 2 1 lo len cap, .bool named, .vec q 3 1 lo2 len2 cap2, .int .i64 (Int.ofNat cells)] rfl (fun _ => rfl) (fin_close rfl (.dlm ⟨state, false, row, header, named, cell, cells⟩) [0, 1] [2, 3] _ (dlmTm hv1 hv2 hok) rfl (fin_ [] rfl rfl hKf)))
    rw [if_neg (of_decide_eq_false h1)] at hK1
    cases row with
    | true =>
      have hK1 : PostD K c1 (match dEnds false (⟨state, false, true, header, named, cell, cells⟩, c1.queue) with
        | none => none
        | some (e, s2) => if e ≠ 0 then some (e, s2) else match dTell (ev0 6) s2 with
          | none => none
          | some s3 => some (0, s3)) := hK1
      cbv
      refine cond_T hN rfl ?_
      cbv
      refine op_ hN (op_cput 0 [.int .i64 state, .bool false, .bool true, .vec p 2 1 lo len cap, .bool named, .vec q 3 1 lo2 len2 cap2, .int .i64 (Int.ofNat cells)] rfl (fun _ => rfl) (op_close rfl (.dlm ⟨state, false, true, header, named, cell, cells⟩) [0, 1] [2, 3] _ (dlmTm hv1 hv2 hok) rfl rfl (op_vals (vals' := [.fn (.func 227) [] [], .ptr 0 0, .bool false, .fn (.func 55) [.ptr 1 0] []]) (fun ρ F w h => by simp [SV.denL, SV.den]) ?_)))
      refine call_ (ends_d ⟨state, false, true, header, named, cell, cells⟩ c1 false) hG [0, 1] rfl rfl rfl rfl rfl ?_
      generalize dEnds false (⟨state, false, true, header, named, cell, cells⟩, c1.queue) = y at hK1 ⊢
      cases y with
      | none => exact hK1.elim
      | some y =>
        obtain ⟨e, m2, q2⟩ := y
        intro c2 hc2
        simp only at hK1
        cbv
        refine cond_ hN ?_ ?_ <;> intro h2 <;> rw [cne hN] at h2
        · have h2 : e ≠ 0 := by simpa using h2
          rw [if_pos h2] at hK1
          have hKf := hK1 c2 hc2
          cbv
          exact hf _ _ (fin_ [] rfl rfl hKf)
        · have h2 : e = 0 := by simpa using h2
          rw [if_neg (by simpa using h2)] at hK1
          have hq2 : c2.queue = q2 := by rw [hc2]
          rcases dTell_cases (ev0 6) m2 q2 with ⟨h3, _⟩ | ⟨h3, hq⟩
          · rw [h3] at hK1; exact hK1.elim
          rw [h3] at hK1
          have hK1 : PostD K c1 (some (0, (m2, q2 ++ [ev0 6]))) := hK1
          cbv
          refine op_ hN (call_ (told_d _ _ c2 (ev0 6) (by rw [hq2]; exact hq)) hG [1, 0] rfl rfl rfl rfl rfl ?_)
          intro c3 hc3
          have hKf := hK1 c3 (by rw [hc3, hq2, hc2])
          cbv
          exact hf _ _ (fin_ [] rfl rfl hKf)
    | false =>
      have hK1 : PostD K c1 (match dTell (ev0 6) (⟨state, false, false, header, named, cell, cells⟩, c1.queue) with
          | none => none
          | some s3 => some (0, s3)) := hK1
      rcases dTell_cases (ev0 6) ⟨state, false, false, header, named, cell, cells⟩ c1.queue with ⟨h3, _⟩ | ⟨h3, hq⟩
      · rw [h3] at hK1; exact hK1.elim
      rw [h3] at hK1
      have hK1 : PostD K c1 (some (0, ((⟨state, false, false, header, named, cell, cells⟩ : Dlm), c1.queue ++ [ev0 6]))) := hK1
      cbv
      refine cond_F hN rfl ?_
      cbv
      refine op_ hN (call_ (told_d _ _ c1 (ev0 6) hq) hG [1, 0] rfl rfl rfl rfl rfl ?_)
      intro c3 hc3
      have hKf := hK1 c3 hc3
      cbv
      exact hf _ _ (fin_cput 0 [.int .i64 state, .bool false, .bool false, .vec p 2 1 lo len cap, .bool named, .vec q 3 1 lo2 len2 cap2, .int .i64 (Int.ofNat cells)] rfl (fun _ => rfl) (fin_close rfl (.dlm ⟨state, false, false, header, named, cell, cells⟩) [0, 1] [2, 3] _ (dlmTm hv1 hv2 hok) rfl (fin_ [] rfl rfl hKf)))
def pdD (m : Dlm) (_ : Bool) : Pd := .dlm m
theorem dlm_mach : MachOk GOk pdD 68 51 dlmStep dlmEnd (fun _ => none) where
  step := by
    refine ⟨225, fun v w => by kernel_rfl, fun s t x b h => ?_⟩
    obtain ⟨h1, h2⟩ := step_d (GOk := GOk) s.m s.c x b h
    refine ⟨h1, fun G hG K hK => h2 G hG K ?_⟩
    unfold dlmStep at hK
    generalize dStep x (s.m, s.c.queue) = y at hK ⊢
    cases y with
    | none => exact hK
    | some z => obtain ⟨e, m, q⟩ := z; rintro c' rfl; exact hK true
  fin := by
    refine ⟨224, fun v w => by kernel_rfl, fun s t => ?_⟩
    obtain ⟨h1, h2⟩ := mend_d (GOk := GOk) s.m s.c
    refine ⟨h1, fun G hG K hK => h2 G hG K ?_⟩
    unfold dlmEnd at hK
    generalize dEnd (s.m, s.c.queue) = y at hK ⊢
    cases y with
    | none => exact hK
    | some z => obtain ⟨e, m, q⟩ := z; rintro c' rfl; exact hK true
  place := .inr ⟨fun u w => run_typeAssert_lacksB Tryz.underlying122 (by kernel_rfl) (by kernel_rfl) u _ w, fun _ => rfl⟩
def dlmOS : OS Dlm := ⟨dlm0, ⟨⟨0, 128, 191⟩, [], 0, false, false, 0, false⟩⟩
theorem dcore0_tm : Tm (.core dlmOS.c 68 51) [.cells 0 51 [.iface 68 (.ptr 1 0), .ptr 2 0, .vec false 3 3 0 0 0, .int .i64 (Int.ofNat 0), .bool false, .bool false, .int .i64 0, .bool false], .cells 2 120 [.int .i64 0, .int .u8 128, .int .u8 191], .arr false true 3 56 encE []] :=
  ⟨false, 0, 0, 0, [], ⟨fun _ => rfl, Nat.le_refl _, Nat.le_refl _, rfl⟩, rfl⟩
theorem dlm0_tm : Tm (.dlm dlm0) [.cells 0 70 [.int .i64 0, .bool false, .bool false, .vec false 2 1 0 0 0, .bool false, .vec false 3 1 0 0 0, .int .i64 (Int.ofNat 0)], .arr false true 2 9 encS [], .arr false true 3 5 encB []] :=
  ⟨false, 0, 0, 0, [], false, 0, 0, 0, [], ⟨fun _ => rfl, Nat.le_refl _, Nat.le_refl _, rfl⟩, ⟨fun _ => rfl, Nat.le_refl _, Nat.le_refl _, rfl⟩, ⟨Nat.zero_le _, Nat.zero_le _, Nat.zero_le _⟩, rfl⟩
theorem dlm_new_spec : Triple (BB Ip GOk) 15 0 2 [] [] (fun K => K (.ret (.ptr 0 0)) [.abs (.core dlmOS.c 68 51) [0, 1], .abs (.dlm dlm0) [1, 0]]) := by
  refine triple_of BB_ok (tb := ty) rfl (n0 := 0) (fun _ : Unit => _) pl15 Tryz.call15 Tryz.func15 rfl (by kernel_rfl) (Nat.le_of_ble_eq_true rfl) (by decide) rfl pre_none ?_
  rintro G hG K hK W bi bc bs bk bu bb bo bg bl bp bn be Ncond Nob Nop Nloop Nscope hN Nfin hf _ _
  cbv
  refine op_ hN (inline_ BB_ok (tb := ty) rfl pl28 Tryz.call28 Tryz.func28 rfl (by kernel_rfl) (Nat.le_of_ble_eq_true rfl) ?_)
  intro W2 bi2 bc2 bs2 bk2 bu2 bb2 bo2 bg2 bl2 bp2 bn2 be2 Ncond2 Nob2 Nop2 Nloop2 Nscope2 hN2
  cbv
  refine op_ hN2 (call_ (src_new_spec) hG [] rfl rfl rfl rfl rfl ?_)
  cbv
  exact hf _ _ (fin_noArr true 20 56 encE [] (fin_noArr true 21 9 encS [] (fin_noArr true 22 5 encB [] (fin_cput 3 [.iface 68 (.ptr 0 0), .ptr 2 0, .vec false 20 3 0 0 0, .int .i64 (Int.ofNat 0), .bool false, .bool false, .int .i64 0, .bool false] rfl (fun _ => rfl)
    (fin_cput 0 [.int .i64 0, .bool false, .bool false, .vec false 21 1 0 0 0, .bool false, .vec false 22 1 0 0 0, .int .i64 (Int.ofNat 0)] rfl (fun _ => rfl) (fin_close rfl (.core dlmOS.c 68 51) [3, 0] [2, 20] _ dcore0_tm rfl (fin_close rfl (.dlm dlm0) [0, 3] [21, 22] _ dlm0_tm rfl (fin_ [3, 0] rfl rfl hK))))))))
def dlmAllM (text : List UInt8) : Option (OS Dlm) := allG dlmStep dlmEnd (fun _ => none) text dlmOS
def PostA2 (rest : List (Chunk Pd)) (K : Out → List (Chunk Pd) → Prop) : Option (OS Dlm) → Prop
  | none => False
  | some s => ∀ p lo len cap xs, VecOk p lo len cap xs s.c.queue → K (.ret (.tuple [.vec p 1 3 lo len cap, .int .i64 s.c.err, .int .i64 (Int.ofNat s.c.at_)])) (.arr p true 1 56 encE xs :: rest)
theorem ddecode_spec (pt : Bool) (lo cap : Nat) (len : Nat) (xs text : List UInt8) (hv : VecOk pt lo len cap xs text) (hlen : len < 1000000) :
    Triple (BB Ip GOk) 7 1 2 [.vec pt 0 1 lo len cap] [.arr pt false 0 5 encB xs] (fun K => PostA2 [.arr pt false 0 5 encB xs] K (dlmAllM text)) := by
  refine triple_of BB_ok (tb := ty) rfl (n0 := 1) (fun _ : Unit => _) pl7 Tryz.call7 Tryz.func7 rfl (by kernel_rfl) (Nat.le_of_ble_eq_true rfl) (by decide) rfl pre_none ?_
  rintro G hG K hK W bi bc bs bk bu bb bo bg bl bp bn be Ncond Nob Nop Nloop Nscope hN Nfin hf _ _
  cbv
  refine op_ hN (call_ (dlm_new_spec) hG [] rfl rfl rfl rfl rfl ?_)
  cbv
  refine op_ hN (call_ (all_spec (dlm_mach) dlmOS false rfl pt lo cap len xs text hv hlen) hG [1, 2, 0] rfl rfl rfl rfl rfl ?_)
  have hA : allG dlmStep dlmEnd (fun _ => none) text dlmOS = dlmAllM text := rfl
  rw [hA]
  generalize dlmAllM text = y at hK ⊢
  cases y with
  | none => exact hK.elim
  | some s2 =>
    intro p lo1 len1 cap1 ys hv1
    obtain ⟨m, ⟨⟨sl, sa, sb⟩, queue, cat, closed, over, err, told⟩⟩ := s2
    cbv
    exact hf _ _ (fin_ [3] rfl rfl (hK p lo1 len1 cap1 ys hv1))
end Hx
