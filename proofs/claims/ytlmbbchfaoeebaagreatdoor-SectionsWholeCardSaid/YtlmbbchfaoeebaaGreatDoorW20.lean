/-
  Part of a proof.
-/
import Derived.Test.YtlmbbchfaoeebaaGreatDoorW19
import Derived.Test.YtlmbbchfaoeebaaGreatDoorW11
set_option linter.unusedVariables false
set_option linter.unusedSimpArgs false
/- sections.machine.finish: the walk. -/
namespace Hx
open Go Sx Go.Proofs
set_option maxRecDepth 100000
set_option maxHeartbeats 4000000
set_option linter.unusedVariables false
set_option linter.unusedSimpArgs false
variable {GOk : Gl → Prop}
variable {right : Ev → Bool} {numRead : ByteArray → ByteArray × Int}
theorem finish_spec (hb : RgtOk GOk right) (s : OS Sec) (t : Bool) : Triple (BB Ip GOk) 152 2 2 [.ptr 0 0, .fn (.func 31) [.ptr 1 0] []] [.abs (.sec s.m t) [0, 1], .abs (.core s.c 50 40) [1, 0]]
    (fun K => PostLS K (secFinish right s)) := by
  obtain ⟨⟨ahead, line, chk, place, header, begun⟩, core⟩ := s
  refine triple_defer BB_ok (tb := ty) rfl (rs := [_, _]) (n0 := 6) (fun y : {cs' // Tm (.sec ⟨ahead, line, chk, place, header, begun⟩ t) cs'} => csRen (sg [0, 1] 2) y.1 ++ [.abs (.core core 50 40) [1, 0]]) pl152 Tryz.call152 Tryz.call158 Tryz.func152 rfl (by kernel_rfl) (by kernel_rfl) rfl rfl rfl rfl rfl rfl rfl rfl rfl rfl rfl rfl rfl rfl (pre_open rfl rfl rfl) ?_
  rintro G hG K hK W bi bc bs bk bu bb bo bg bl bp bn be Ncond Nob Nop Nloop Nscope hN ⟨cs', hT⟩
  obtain ⟨p, lo, len, cap, xs, q, lo2, len2, cap2, ys, hp, lo3, len3, cap3, zs, tl, hv1, hv2, hv3, hl, htl, htl2, rfl⟩ := id hT
  simp only at hv1 hv2 hv3 hl
  have hmc := secTm (ahead := ahead) (chk := chk) (begun := begun) hv1 hv2 hv3 hl
  have htl3 : tl = .fn (.func 31) [.ptr 1 0] [] ∨ tl = .nilfn := by cases t with
    | true => exact .inl (htl rfl)
    | false => exact .inr (htl2 rfl)
  clear htl htl2
  rcases htl3 with rfl | rfl
  all_goals
    cbv
    refine ⟨[.ptr 6 0], 6, rfl, rfl, rfl, rfl, ?_⟩
    clear hN
    intro D kv W bi bc bs bk bu bb bo bg bl bp bn be Ncond Nob Nop Nloop Nscope hN
    cbv
    refine op_ hN (op_close rfl (.sec ⟨ahead, line, chk, place, header, begun⟩ true) [0, 1] [2, 3, 4, 5] _ hmc rfl rfl (nodeD ?_))
    refine call_ (sec_begins_spec hb ⟨⟨ahead, line, chk, place, header, begun⟩, core⟩ 0) hG [0, 1] rfl rfl rfl rfl rfl ?_
    simp only [secFinish, secFinishO, OM.bind] at hK
    generalize secBegins right 0 ⟨⟨ahead, line, chk, place, header, begun⟩, core⟩ = y at hK ⊢
    obtain ⟨r, s1⟩ := y
    cases r with
    | err e a =>
      simp only at hK
      by_cases hea : e ≤ 0
      · rw [if_pos hea] at hK; exact hK.elim
      rw [if_neg hea] at hK
      cbv
      exact ⟨(flt e a).den id, fun _ => rfl, dend_ (finish_cl_pan e a (by omega)) hG [6] rfl rfl rfl rfl rfl rfl ⟨_, rfl, fin_ [] rfl rfl hK⟩⟩
    | ovf => exact hK.elim
    | ok u =>
      simp only at hK
      cbv
      refine op_ hN (nodeD ?_)
      refine call_ (sec_leaves_spec hb s1 0 0 (Nat.zero_le _)) hG [0, 1] rfl rfl rfl rfl rfl ?_
      generalize secLeaves right 0 0 s1 = y at hK ⊢
      obtain ⟨r, s2⟩ := y
      cases r with
      | err e a =>
        simp only at hK
        by_cases hea : e ≤ 0
        · rw [if_pos hea] at hK; exact hK.elim
        rw [if_neg hea] at hK
        cbv
        exact ⟨(flt e a).den id, fun _ => rfl, dend_ (finish_cl_pan e a (by omega)) hG [6] rfl rfl rfl rfl rfl rfl ⟨_, rfl, fin_ [] rfl rfl hK⟩⟩
      | ovf => exact hK.elim
      | ok u =>
        simp only at hK
        cbv
        refine op_ hN (nodeD ?_)
        refine call_ (sec_says_spec hb s2 (ev0 9) 0 (okE0 9 (by decide) (by decide))) hG [0, 1] rfl rfl rfl rfl rfl ?_
        generalize secSays right (ev0 9) 0 s2 = y at hK ⊢
        obtain ⟨r, s3⟩ := y
        cases r with
        | err e a =>
          simp only at hK
          by_cases hea : e ≤ 0
          · rw [if_pos hea] at hK; exact hK.elim
          rw [if_neg hea] at hK
          cbv
          exact ⟨(flt e a).den id, fun _ => rfl, dend_ (finish_cl_pan e a (by omega)) hG [6] rfl rfl rfl rfl rfl rfl ⟨_, rfl, fin_ [] rfl rfl hK⟩⟩
        | ovf => exact hK.elim
        | ok u =>
          simp only at hK
          cbv
          exact dend_ (finish_cl_ret 0 (by simp)) hG [6] rfl rfl rfl rfl rfl rfl ⟨_, rfl, fin_ [] rfl rfl hK⟩
end Hx
/- sections.machine.Step, End, At: the walks. -/
namespace Hx
open Go Sx Go.Proofs
set_option maxRecDepth 100000
set_option maxHeartbeats 4000000
set_option linter.unusedVariables false
set_option linter.unusedSimpArgs false
variable {GOk : Gl → Prop}
variable {right : Ev → Bool} {numRead : ByteArray → ByteArray × Int}
def PostT (t : Bool) (K : Out → List (Chunk Pd) → Prop) : Option (Int × OS Sec) → Prop
  | none => False
  | some (e, s') => K (.ret (.int .i64 e)) [.abs (.sec s'.m t) [0, 1], .abs (.core s'.c 50 40) [1, 0]]
theorem PostLS.toT {K : Out → List (Chunk Pd) → Prop} {y : Option (Int × OS Sec)} (h : PostT true K y) : PostLS K y := by
  cases y with
  | none => exact h
  | some z => exact h
theorem mstep_spec (hln : LineOk GOk right numRead) (s : OS Sec) (t : Bool) (x : UInt8) (b : Int) (hxb : ((x.toNat : Nat) : Int) = b) : Triple (BB Ip GOk) 149 2 2 [.ptr 0 0, .int .u8 b, .fn (.func 31) [.ptr 1 0] []] [.abs (.sec s.m t) [0, 1], .abs (.core s.c 50 40) [1, 0]]
    (fun K => PostT (t || decide (x = 10)) K (secStep right numRead x s)) := by
  obtain ⟨⟨ahead, line, chk, place, header, begun⟩, core⟩ := s
  refine triple_of BB_ok (tb := ty) rfl (n0 := 6) (fun y : {cs' // Tm (.sec ⟨ahead, line, chk, place, header, begun⟩ t) cs'} => csRen (sg [0, 1] 2) y.1 ++ [.abs (.core core 50 40) [1, 0]]) pl149 Tryz.call149 Tryz.func149 rfl (by kernel_rfl) (Nat.le_of_ble_eq_true rfl) (by decide) rfl (pre_open rfl rfl rfl) ?_
  rintro G hG K hK W bi bc bs bk bu bb bo bg bl bp bn be Ncond Nob Nop Nloop Nscope hN Nfin hf _ ⟨cs', hT⟩
  obtain ⟨p, lo, len, cap, xs, q, lo2, len2, cap2, ys, hp, lo3, len3, cap3, zs, tl, hv1, hv2, hv3, hl, htl, htl2, rfl⟩ := id hT
  simp only at hv1 hv2 hv3 hl
  have hmc : ∀ a p lo len cap xs line', VecOk p lo len cap xs line' → line'.length ≤ 160 → Tm (.sec ⟨a, line', chk, place, header, begun⟩ t) [.cells 0 57 [.int .i64 (Int.ofNat a), .vec p 2 1 lo len cap, .ptr 5 0, .vec q 3 2 lo2 len2 cap2, .vec hp 4 1 lo3 len3 cap3, .bool begun, tl], .arr p true 2 5 encB xs, .arr q true 3 240 encT ys, .arr hp true 4 9 encS zs, .abs (.chk chk) [5]] :=
    fun a p lo len cap xs line' h1 h2 => ⟨p, lo, len, cap, xs, q, lo2, len2, cap2, ys, hp, lo3, len3, cap3, zs, _, h1, hv2, hv3, ⟨h2, hl.2⟩, htl, htl2, rfl⟩
  have hlen := hv1.length
  have h10 : x = 10 ↔ b = 10 := by
    rw [← hxb]
    constructor
    · rintro rfl; rfl
    · intro h; exact UInt8.toNat_inj.1 (by have : x.toNat = 10 := by exact_mod_cast h
                                           rw [this]; rfl)
  have htl3 : tl = .fn (.func 31) [.ptr 1 0] [] ∨ tl = .nilfn := by cases t with
    | true => exact .inl (htl rfl)
    | false => exact .inr (htl2 rfl)
  clear htl htl2
  rcases htl3 with rfl | rfl
  all_goals
    cbv
    refine op_ hN (inline_ BB_ok (tb := ty) rfl pl153 Tryz.call153 Tryz.func153 rfl (by kernel_rfl) (Nat.le_of_ble_eq_true rfl) ?_)
    intro W2 bi2 bc2 bs2 bk2 bu2 bb2 bo2 bg2 bl2 bp2 bn2 be2 Ncond2 Nob2 Nop2 Nloop2 Nscope2 hN2
    cbv
    refine cond_ hN2 (fun h => ?_) (fun h => ?_)
    · rw [ceq hN2] at h
      have hx : x = 10 := h10.2 (by simpa using h)
      have hM : secStep right numRead x ⟨⟨ahead, line, chk, place, header, begun⟩, core⟩ = secLooks right numRead 1 ⟨⟨ahead, line, chk, place, header, begun⟩, core⟩ := by unfold secStep; rw [if_pos hx]
      rw [hM, decide_eq_true hx, Bool.or_true] at hK
      cbv
      refine cond_F hN (by rw [cne hN]; rfl) ?_
      cbv
      refine op_ hN (op_close rfl (.sec ⟨ahead, line, chk, place, header, begun⟩ t) [0, 1] [2, 3, 4, 5] _ (hmc ahead p lo len cap xs line hv1 hl.1) rfl rfl ?_)
      refine call_ (looks_spec hln ⟨⟨ahead, line, chk, place, header, begun⟩, core⟩ t 1 (Nat.le_refl 1)) hG [0, 1] rfl rfl rfl rfl rfl ?_
      generalize secLooks right numRead 1 ⟨⟨ahead, line, chk, place, header, begun⟩, core⟩ = y at hK ⊢
      cases y with
      | none => exact hK.elim
      | some z =>
        obtain ⟨e, s'⟩ := z
        cbv
        exact hf _ _ (fin_ [] rfl rfl hK)
    · rw [ceq hN2] at h
      have hx : ¬ x = 10 := fun hx => by rw [decide_eq_true (h10.1 hx)] at h; exact nomatch h
      rw [decide_eq_false hx, Bool.or_false] at hK
      cbv
      refine cond_ hN2 (fun h2 => ?_) (fun h2 => ?_)
      · rw [cge hN2] at h2
        simp only [decide_eq_true_eq, decide_eq_false_iff_not, Int.ofNat_eq_natCast, gt_iff_lt, ge_iff_le, Bool.not_eq_true', Bool.not_eq_false', Int.not_lt, Int.not_le] at h2
        have hge : line.length ≥ 160 := by have : (160 : Int) ≤ (len : Int) := h2; omega
        by_cases hA : ahead > 1000000
        · have hM : secStep right numRead x ⟨⟨ahead, line, chk, place, header, begun⟩, core⟩ = none := by unfold secStep; rw [if_neg hx, if_pos hge, if_pos hA]
          rw [hM] at hK; exact hK.elim
        have hM : secStep right numRead x ⟨⟨ahead, line, chk, place, header, begun⟩, core⟩ = some (4, ⟨⟨ahead + 160, line, chk, place, header, begun⟩, core⟩) := by unfold secStep; rw [if_neg hx, if_pos hge, if_neg hA]
        rw [hM] at hK
        have hadd : bi .add .i64 (Int.ofNat ahead) 160 = Int.ofNat (ahead + 160) := by rw [iadd hN (by simp; omega) (by simp; omega)]; simp
        obtain ⟨A2, hA2⟩ : ∃ x, x = ahead + 160 := ⟨_, rfl⟩
        rw [← hA2] at hadd hK
        cbv
        refine cond_T hN (by rw [cne hN]; rfl) ?_
        cbv
        simp only [hadd]
        exact hf _ _ (fin_close rfl (.sec ⟨A2, line, chk, place, header, begun⟩ t) [0, 1] [2, 3, 4, 5] _ (hmc A2 p lo len cap xs line hv1 hl.1) rfl (fin_ [] rfl rfl hK))
      · rw [cge hN2] at h2
        simp only [decide_eq_true_eq, decide_eq_false_iff_not, Int.ofNat_eq_natCast, gt_iff_lt, ge_iff_le, Bool.not_eq_true', Bool.not_eq_false', Int.not_lt, Int.not_le] at h2
        have hlt : ¬ line.length ≥ 160 := by have : (len : Int) < 160 := h2; omega
        have hM : secStep right numRead x ⟨⟨ahead, line, chk, place, header, begun⟩, core⟩ = some (0, ⟨⟨ahead, line ++ [x], chk, place, header, begun⟩, core⟩) := by unfold secStep; rw [if_neg hx, if_neg hlt]
        rw [hM] at hK
        cbv
        refine op_ hN2 (append_vec (new := [x]) (z := 0) ty_ok rfl rfl rfl rfl (fun k => by simp) rfl rfl wideB rfl rfl (src_cells wideB rfl (fun _ _ _ _ => by rw [← hxb]; rfl) rfl) hv1.pr hv1.room hv1.fits (by simp; omega) (by decide) ?_)
        intro p' lo' m' cap' xs' hm' e1 e2 e3 e4
        have hv' : VecOk p' lo' m' cap' xs' (line ++ [x]) := ⟨e1, e2, e3, by rw [e4, hv1.eq]⟩
        cbv
        refine cond_F hN (by rw [cne hN]; rfl) ?_
        cbv
        exact hf _ _ (fin_close rfl (.sec ⟨ahead, line ++ [x], chk, place, header, begun⟩ t) [0, 1] [7, 3, 4, 5] _ (hmc ahead p' lo' m' cap' xs' (line ++ [x]) hv' (by simp; omega)) rfl (fin_ [] rfl rfl hK))
theorem at_spec (m : Sec) (t : Bool) : Triple (BB Ip GOk) 147 2 2 [.ptr 0 0] [.abs (.sec m t) [0, 1]] (fun K => K (.ret (.int .i64 (Int.ofNat m.ahead))) [.abs (.sec m t) [0, 1]]) := by
  obtain ⟨ahead, line, chk, place, header, begun⟩ := m
  refine triple_of BB_ok (tb := ty) rfl (n0 := 6) (fun y : {cs' // Tm (.sec ⟨ahead, line, chk, place, header, begun⟩ t) cs'} => csRen (sg [0, 1] 2) y.1 ++ []) pl147 Tryz.call147 Tryz.func147 rfl (by kernel_rfl) (Nat.le_of_ble_eq_true rfl) (by decide) rfl (pre_open rfl rfl rfl) ?_
  rintro G hG K hK W bi bc bs bk bu bb bo bg bl bp bn be Ncond Nob Nop Nloop Nscope hN Nfin hf _ ⟨cs', hT⟩
  obtain ⟨p, lo, len, cap, xs, q, lo2, len2, cap2, ys, hp, lo3, len3, cap3, zs, tl, hv1, hv2, hv3, hl, htl, htl2, rfl⟩ := id hT
  have htl3 : tl = .fn (.func 31) [.ptr 1 0] [] ∨ tl = .nilfn := by cases t with
    | true => exact .inl (htl rfl)
    | false => exact .inr (htl2 rfl)
  clear htl htl2
  rcases htl3 with rfl | rfl
  all_goals
    cbv
    exact hf _ _ (fin_close rfl (.sec ⟨ahead, line, chk, place, header, begun⟩ t) [0, 1] [2, 3, 4, 5] _ hT rfl (fin_ [] rfl rfl hK))
theorem mend_spec (hb : RgtOk GOk right) (hln : LineOk GOk right numRead) (s : OS Sec) (t : Bool) : Triple (BB Ip GOk) 148 2 2 [.ptr 0 0, .fn (.func 31) [.ptr 1 0] []] [.abs (.sec s.m t) [0, 1], .abs (.core s.c 50 40) [1, 0]]
    (fun K => PostLS K (secEnd right numRead s)) := by
  obtain ⟨⟨ahead, line, chk, place, header, begun⟩, core⟩ := s
  refine triple_of BB_ok (tb := ty) rfl (n0 := 6) (fun y : {cs' // Tm (.sec ⟨ahead, line, chk, place, header, begun⟩ t) cs'} => csRen (sg [0, 1] 2) y.1 ++ [.abs (.core core 50 40) [1, 0]]) pl148 Tryz.call148 Tryz.func148 rfl (by kernel_rfl) (Nat.le_of_ble_eq_true rfl) (by decide) rfl (pre_open rfl rfl rfl) ?_
  rintro G hG K hK W bi bc bs bk bu bb bo bg bl bp bn be Ncond Nob Nop Nloop Nscope hN Nfin hf _ ⟨cs', hT⟩
  obtain ⟨p, lo, len, cap, xs, q, lo2, len2, cap2, ys, hp, lo3, len3, cap3, zs, tl, hv1, hv2, hv3, hl, htl, htl2, rfl⟩ := id hT
  simp only at hv1 hv2 hv3 hl
  have hmc : Tm (.sec ⟨ahead, line, chk, place, header, begun⟩ t) [.cells 0 57 [.int .i64 (Int.ofNat ahead), .vec p 2 1 lo len cap, .ptr 5 0, .vec q 3 2 lo2 len2 cap2, .vec hp 4 1 lo3 len3 cap3, .bool begun, tl], .arr p true 2 5 encB xs, .arr q true 3 240 encT ys, .arr hp true 4 9 encS zs, .abs (.chk chk) [5]] :=
    ⟨p, lo, len, cap, xs, q, lo2, len2, cap2, ys, hp, lo3, len3, cap3, zs, _, hv1, hv2, hv3, hl, htl, htl2, rfl⟩
  have hlen := hv1.length
  have htl3 : tl = .fn (.func 31) [.ptr 1 0] [] ∨ tl = .nilfn := by cases t with
    | true => exact .inl (htl rfl)
    | false => exact .inr (htl2 rfl)
  clear htl htl2
  rcases htl3 with rfl | rfl
  all_goals
    cbv
    refine op_ hN (inline_ BB_ok (tb := ty) rfl pl150 Tryz.call150 Tryz.func150 rfl (by kernel_rfl) (Nat.le_of_ble_eq_true rfl) ?_)
    intro W2 bi2 bc2 bs2 bk2 bu2 bb2 bo2 bg2 bl2 bp2 bn2 be2 Ncond2 Nob2 Nop2 Nloop2 Nscope2 hN2
    cbv
    cases line with
    | nil =>
      obtain rfl : len = 0 := by simpa using hlen.symm
      have hM : secEnd right numRead ⟨⟨ahead, [], chk, place, header, begun⟩, core⟩ = secFinish right ⟨⟨ahead, [], chk, place, header, begun⟩, core⟩ := rfl
      rw [hM] at hK
      refine cond_F hN (by rw [ceq hN2]; rfl) ?_
      cbv
      refine op_ hN (op_close rfl (.sec ⟨ahead, [], chk, place, header, begun⟩ t) [0, 1] [2, 3, 4, 5] _ hmc rfl rfl ?_)
      refine call_ (finish_spec hb ⟨⟨ahead, [], chk, place, header, begun⟩, core⟩ t) hG [0, 1] rfl rfl rfl rfl rfl ?_
      generalize secFinish right ⟨⟨ahead, [], chk, place, header, begun⟩, core⟩ = y at hK ⊢
      cases y with
      | none => exact hK.elim
      | some z =>
        obtain ⟨e, s'⟩ := z
        cbv
        exact hf _ _ (fin_ [] rfl rfl hK)
    | cons c l =>
      have hlen0 : len ≠ 0 := by simp at hlen; omega
      have hM : secEnd right numRead ⟨⟨ahead, c :: l, chk, place, header, begun⟩, core⟩ = (match secLooks right numRead 0 ⟨⟨ahead, c :: l, chk, place, header, begun⟩, core⟩ with
        | none => none
        | some (e, s') => if e ≠ 0 then some (e, s') else secFinish right s') := rfl
      rw [hM] at hK
      refine cond_T hN (by rw [ceq hN2, decide_eq_false (show ¬ (Int.ofNat len = 0) by simpa using hlen0)]) ?_
      cbv
      refine op_ hN (op_close rfl (.sec ⟨ahead, c :: l, chk, place, header, begun⟩ t) [0, 1] [2, 3, 4, 5] _ hmc rfl rfl ?_)
      refine call_ (looks_spec hln ⟨⟨ahead, c :: l, chk, place, header, begun⟩, core⟩ t 0 (Nat.zero_le 1)) hG [0, 1] rfl rfl rfl rfl rfl ?_
      generalize secLooks right numRead 0 ⟨⟨ahead, c :: l, chk, place, header, begun⟩, core⟩ = y at hK ⊢
      cases y with
      | none => exact hK.elim
      | some z =>
        obtain ⟨e, s'⟩ := z
        simp only at hK
        cbv
        refine cond_ hN (fun h => ?_) (fun h => ?_)
        · rw [cne hN] at h
          rw [if_pos (by simpa using h)] at hK
          cbv
          exact hf _ _ (fin_ [] rfl rfl hK)
        · rw [cne hN] at h
          rw [if_neg (by simpa using h)] at hK
          cbv
          refine op_ hN (call_ (finish_spec hb s' true) hG [0, 1] rfl rfl rfl rfl rfl ?_)
          generalize secFinish right s' = y at hK ⊢
          cases y with
          | none => exact hK.elim
          | some z =>
            obtain ⟨e, s'⟩ := z
            cbv
            exact hf _ _ (fin_ [] rfl rfl hK)
end Hx
