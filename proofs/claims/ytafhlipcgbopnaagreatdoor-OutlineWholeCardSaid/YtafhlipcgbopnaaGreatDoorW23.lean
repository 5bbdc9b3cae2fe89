/-
  Part of a proof.
-/
import Derived.Test.YtafhlipcgbopnaaGreatDoorW22
import Derived.Test.YtafhlipcgbopnaaGreatDoorW03
import Derived.Test.YtafhlipcgbopnaaGreatDoorW05
import Derived.Test.YtafhlipcgbopnaaGreatDoorIter
set_option linter.unusedVariables false
set_option linter.unusedSimpArgs false
/- outline.machine.Step, End, At. -/
namespace Hx
open Go Sx Go.Proofs
set_option maxRecDepth 100000
set_option maxHeartbeats 4000000
set_option linter.unusedVariables false
set_option linter.unusedSimpArgs false
variable {GOk : Gl → Prop}
variable {right : Ev → Bool} {numRead : ByteArray → ByteArray × Int}
def PostT (t : Bool) (K : Out → List (Chunk Pd) → Prop) : Option (Int × OS) → Prop
  | none => False
  | some (e, s') => K (.ret (.int .i64 e)) [.abs (.mch s'.m t) [0, 1], .abs (.core s'.c) [1, 0]]
theorem PostL.toT {K : Out → List (Chunk Pd) → Prop} {y : Option (Int × OS)} (h : PostT true K y) : PostL K y := by
  cases y with
  | none => exact h
  | some z => exact h
theorem mstep_spec (hln : LineOk GOk right numRead) (s : OS) (t : Bool) (x : UInt8) (b : Int) (hxb : ((x.toNat : Nat) : Int) = b) : Triple (BB Ip GOk) 143 2 2 [.ptr 0 0, .int .u8 b, .fn (.func 25) [.ptr 1 0] []] [.abs (.mch s.m t) [0, 1], .abs (.core s.c) [1, 0]]
    (fun K => PostT (t || decide (x = 10)) K (stepM right numRead x s)) := by
  obtain ⟨⟨ahead, line, chk, anc, opn, waits⟩, core⟩ := s
  refine triple_of BB_ok (tb := ty) rfl (n0 := 6) (fun y : {cs' // Tm (.mch ⟨ahead, line, chk, anc, opn, waits⟩ t) cs'} => csRen (sg [0, 1] 2) y.1 ++ [.abs (.core core) [1, 0]]) pl143 Tryz.call143 Tryz.func143 rfl (by kernel_rfl) (Nat.le_of_ble_eq_true rfl) (by decide) rfl (pre_open rfl rfl rfl) ?_
  rintro G hG K hK W bi bc bs bk bu bb bo bg bl bp bn be Ncond Nob Nop Nloop Nscope hN Nfin hf _ ⟨cs', hT⟩
  obtain ⟨p, lo, len, cap, xs, q, lo2, len2, cap2, ys, tl, hv1, hv2, hl, htl, htl2, rfl⟩ := id hT
  simp only at hv1 hv2 hl
  have hmc : ∀ a p lo len cap xs line', VecOk p lo len cap xs line' → line'.length ≤ 160 → Tm (.mch ⟨a, line', chk, anc, opn, waits⟩ t) [.cells 0 55 [.int .i64 (Int.ofNat a), .vec p 2 1 lo len cap, .ptr 4 0, .ptr 5 0, .vec q 3 2 lo2 len2 cap2, .bool waits, tl], .arr p true 2 5 encB xs, .arr q true 3 224 encK ys, .abs (.chk chk) [4], .abs (.anc anc) [5]] :=
    fun a p lo len cap xs line' h1 h2 => ⟨p, lo, len, cap, xs, q, lo2, len2, cap2, ys, _, h1, hv2, ⟨h2, hl.2⟩, htl, htl2, rfl⟩
  have hlen := hv1.length
  have h10 : x = 10 ↔ b = 10 := by
    rw [← hxb]
    constructor
    · rintro rfl; rfl
    · intro h; exact UInt8.toNat_inj.1 (by have : x.toNat = 10 := by exact_mod_cast h
                                           rw [this]; rfl)
  have htl3 : tl = .fn (.func 25) [.ptr 1 0] [] ∨ tl = .nilfn := by cases t with
    | true => exact .inl (htl rfl)
    | false => exact .inr (htl2 rfl)
  clear htl htl2
  rcases htl3 with rfl | rfl
  all_goals
    cbv
    refine op_ hN (inline_ BB_ok (tb := ty) rfl pl147 Tryz.call147 Tryz.func147 rfl (by kernel_rfl) (Nat.le_of_ble_eq_true rfl) ?_)
    intro W2 bi2 bc2 bs2 bk2 bu2 bb2 bo2 bg2 bl2 bp2 bn2 be2 Ncond2 Nob2 Nop2 Nloop2 Nscope2 hN2
    cbv
    refine cond_ hN2 (fun h => ?_) (fun h => ?_)
    · rw [ceq hN2] at h
      have hx : x = 10 := h10.2 (by simpa using h)
      have hM : stepM right numRead x ⟨⟨ahead, line, chk, anc, opn, waits⟩, core⟩ = looksM right numRead 1 ⟨⟨ahead, line, chk, anc, opn, waits⟩, core⟩ := by unfold stepM; rw [if_pos hx]
      rw [hM, decide_eq_true hx, Bool.or_true] at hK
      cbv
      refine cond_F hN (by rw [cne hN]; rfl) ?_
      cbv
      refine op_ hN (op_close rfl (.mch ⟨ahead, line, chk, anc, opn, waits⟩ t) [0, 1] [2, 3, 4, 5] _ (hmc ahead p lo len cap xs line hv1 hl.1) rfl rfl ?_)
      refine call_ (looks_spec hln ⟨⟨ahead, line, chk, anc, opn, waits⟩, core⟩ t 1 (Nat.le_refl 1)) hG [0, 1] rfl rfl rfl rfl rfl ?_
      generalize looksM right numRead 1 ⟨⟨ahead, line, chk, anc, opn, waits⟩, core⟩ = y at hK ⊢
      cases y with
      | none => exact hK.elim
      | some z =>
        obtain ⟨e, s'⟩ := z
        cbv
        exact hf _ _ (fin_ [] rfl rfl hK)
    · rw [ceq hN2] at h
      have hx : ¬ x = 10 := fun hx => by rw [decide_eq_true (h10.1 hx)] at h; exact nomatch h
      rw [decide_eq_false hx, Bool.or_false] at hK
      cbv
      refine cond_ hN2 (fun h2 => ?_) (fun h2 => ?_)
      · rw [cge hN2] at h2
        simp only [decide_eq_true_eq, decide_eq_false_iff_not, Int.ofNat_eq_natCast, gt_iff_lt, ge_iff_le, Bool.not_eq_true', Bool.not_eq_false', Int.not_lt, Int.not_le] at h2
        have hge : line.length ≥ 160 := by have : (160 : Int) ≤ (len : Int) := h2; omega
        by_cases hA : ahead > 1000000
        · have hM : stepM right numRead x ⟨⟨ahead, line, chk, anc, opn, waits⟩, core⟩ = none := by unfold stepM; rw [if_neg hx, if_pos hge, if_pos hA]
          rw [hM] at hK; exact hK.elim
        have hM : stepM right numRead x ⟨⟨ahead, line, chk, anc, opn, waits⟩, core⟩ = some (4, ⟨⟨ahead + 160, line, chk, anc, opn, waits⟩, core⟩) := by unfold stepM; rw [if_neg hx, if_pos hge, if_neg hA]
        rw [hM] at hK
        have hadd : bi .add .i64 (Int.ofNat ahead) 160 = Int.ofNat (ahead + 160) := by rw [iadd hN (by simp; omega) (by simp; omega)]; simp
        obtain ⟨A2, hA2⟩ : ∃ x, x = ahead + 160 := ⟨_, rfl⟩
        rw [← hA2] at hadd hK
        cbv
        refine cond_T hN (by rw [cne hN]; rfl) ?_
        cbv
        simp only [hadd]
        exact hf _ _ (fin_close rfl (.mch ⟨A2, line, chk, anc, opn, waits⟩ t) [0, 1] [2, 3, 4, 5] _ (hmc A2 p lo len cap xs line hv1 hl.1) rfl (fin_ [] rfl rfl hK))
      · rw [cge hN2] at h2
        simp only [decide_eq_true_eq, decide_eq_false_iff_not, Int.ofNat_eq_natCast, gt_iff_lt, ge_iff_le, Bool.not_eq_true', Bool.not_eq_false', Int.not_lt, Int.not_le] at h2
        have hlt : ¬ line.length ≥ 160 := by have : (len : Int) < 160 := h2; omega
        have hM : stepM right numRead x ⟨⟨ahead, line, chk, anc, opn, waits⟩, core⟩ = some (0, ⟨⟨ahead, line ++ [x], chk, anc, opn, waits⟩, core⟩) := by unfold stepM; rw [if_neg hx, if_neg hlt]
        rw [hM] at hK
        cbv
        refine op_ hN2 (append_vec (new := [x]) (z := 0) ty_ok rfl rfl rfl rfl (fun k => by simp) rfl rfl wideB rfl rfl (src_cells wideB rfl (fun _ _ _ _ => by rw [← hxb]; rfl) rfl) hv1.pr hv1.room hv1.fits (by simp; omega) (by decide) ?_)
        intro p' lo' m' cap' xs' hm' e1 e2 e3 e4
        have hv' : VecOk p' lo' m' cap' xs' (line ++ [x]) := ⟨e1, e2, e3, by rw [e4, hv1.eq]⟩
        cbv
        refine cond_F hN (by rw [cne hN]; rfl) ?_
        cbv
        exact hf _ _ (fin_close rfl (.mch ⟨ahead, line ++ [x], chk, anc, opn, waits⟩ t) [0, 1] [7, 3, 4, 5] _ (hmc ahead p' lo' m' cap' xs' (line ++ [x]) hv' (by simp; omega)) rfl (fin_ [] rfl rfl hK))
theorem at_spec (m : Mch) (t : Bool) : Triple (BB Ip GOk) 141 2 2 [.ptr 0 0] [.abs (.mch m t) [0, 1]] (fun K => K (.ret (.int .i64 (Int.ofNat m.ahead))) [.abs (.mch m t) [0, 1]]) := by
  obtain ⟨ahead, line, chk, anc, opn, waits⟩ := m
  refine triple_of BB_ok (tb := ty) rfl (n0 := 6) (fun y : {cs' // Tm (.mch ⟨ahead, line, chk, anc, opn, waits⟩ t) cs'} => csRen (sg [0, 1] 2) y.1 ++ []) pl141 Tryz.call141 Tryz.func141 rfl (by kernel_rfl) (Nat.le_of_ble_eq_true rfl) (by decide) rfl (pre_open rfl rfl rfl) ?_
  rintro G hG K hK W bi bc bs bk bu bb bo bg bl bp bn be Ncond Nob Nop Nloop Nscope hN Nfin hf _ ⟨cs', hT⟩
  obtain ⟨p, lo, len, cap, xs, q, lo2, len2, cap2, ys, tl, hv1, hv2, hl, htl, htl2, rfl⟩ := id hT
  have htl3 : tl = .fn (.func 25) [.ptr 1 0] [] ∨ tl = .nilfn := by cases t with
    | true => exact .inl (htl rfl)
    | false => exact .inr (htl2 rfl)
  clear htl htl2
  rcases htl3 with rfl | rfl
  all_goals
    cbv
    exact hf _ _ (fin_close rfl (.mch ⟨ahead, line, chk, anc, opn, waits⟩ t) [0, 1] [2, 3, 4, 5] _ hT rfl (fin_ [] rfl rfl hK))
theorem mend_spec (hb : Below GOk right) (hln : LineOk GOk right numRead) (s : OS) (t : Bool) : Triple (BB Ip GOk) 142 2 2 [.ptr 0 0, .fn (.func 25) [.ptr 1 0] []] [.abs (.mch s.m t) [0, 1], .abs (.core s.c) [1, 0]]
    (fun K => PostL K (endM right numRead s)) := by
  obtain ⟨⟨ahead, line, chk, anc, opn, waits⟩, core⟩ := s
  refine triple_of BB_ok (tb := ty) rfl (n0 := 6) (fun y : {cs' // Tm (.mch ⟨ahead, line, chk, anc, opn, waits⟩ t) cs'} => csRen (sg [0, 1] 2) y.1 ++ [.abs (.core core) [1, 0]]) pl142 Tryz.call142 Tryz.func142 rfl (by kernel_rfl) (Nat.le_of_ble_eq_true rfl) (by decide) rfl (pre_open rfl rfl rfl) ?_
  rintro G hG K hK W bi bc bs bk bu bb bo bg bl bp bn be Ncond Nob Nop Nloop Nscope hN Nfin hf _ ⟨cs', hT⟩
  obtain ⟨p, lo, len, cap, xs, q, lo2, len2, cap2, ys, tl, hv1, hv2, hl, htl, htl2, rfl⟩ := id hT
  simp only at hv1 hv2 hl
  have hmc : Tm (.mch ⟨ahead, line, chk, anc, opn, waits⟩ t) [.cells 0 55 [.int .i64 (Int.ofNat ahead), .vec p 2 1 lo len cap, .ptr 4 0, .ptr 5 0, .vec q 3 2 lo2 len2 cap2, .bool waits, tl], .arr p true 2 5 encB xs, .arr q true 3 224 encK ys, .abs (.chk chk) [4], .abs (.anc anc) [5]] :=
    ⟨p, lo, len, cap, xs, q, lo2, len2, cap2, ys, _, hv1, hv2, hl, htl, htl2, rfl⟩
  have hlen := hv1.length
  have htl3 : tl = .fn (.func 25) [.ptr 1 0] [] ∨ tl = .nilfn := by cases t with
    | true => exact .inl (htl rfl)
    | false => exact .inr (htl2 rfl)
  clear htl htl2
  rcases htl3 with rfl | rfl
  all_goals
    cbv
    refine op_ hN (inline_ BB_ok (tb := ty) rfl pl144 Tryz.call144 Tryz.func144 rfl (by kernel_rfl) (Nat.le_of_ble_eq_true rfl) ?_)
    intro W2 bi2 bc2 bs2 bk2 bu2 bb2 bo2 bg2 bl2 bp2 bn2 be2 Ncond2 Nob2 Nop2 Nloop2 Nscope2 hN2
    cbv
    cases line with
    | nil =>
      obtain rfl : len = 0 := by simpa using hlen.symm
      have hM : endM right numRead ⟨⟨ahead, [], chk, anc, opn, waits⟩, core⟩ = finishM right ⟨⟨ahead, [], chk, anc, opn, waits⟩, core⟩ := rfl
      rw [hM] at hK
      refine cond_F hN (by rw [ceq hN2]; rfl) ?_
      cbv
      refine op_ hN (op_close rfl (.mch ⟨ahead, [], chk, anc, opn, waits⟩ t) [0, 1] [2, 3, 4, 5] _ hmc rfl rfl ?_)
      refine call_ (finish_spec hb ⟨⟨ahead, [], chk, anc, opn, waits⟩, core⟩ t) hG [0, 1] rfl rfl rfl rfl rfl ?_
      generalize finishM right ⟨⟨ahead, [], chk, anc, opn, waits⟩, core⟩ = y at hK ⊢
      cases y with
      | none => exact hK.elim
      | some z =>
        obtain ⟨e, s'⟩ := z
        cbv
        exact hf _ _ (fin_ [] rfl rfl hK)
    | cons c l =>
      have hlen0 : len ≠ 0 := by simp at hlen; omega
      have hM : endM right numRead ⟨⟨ahead, c :: l, chk, anc, opn, waits⟩, core⟩ = (match looksM right numRead 0 ⟨⟨ahead, c :: l, chk, anc, opn, waits⟩, core⟩ with
        | none => none
        | some (e, s') => if e ≠ 0 then some (e, s') else finishM right s') := rfl
      rw [hM] at hK
      refine cond_T hN (by rw [ceq hN2, decide_eq_false (show ¬ (Int.ofNat len = 0) by simpa using hlen0)]) ?_
      cbv
      refine op_ hN (op_close rfl (.mch ⟨ahead, c :: l, chk, anc, opn, waits⟩ t) [0, 1] [2, 3, 4, 5] _ hmc rfl rfl ?_)
      refine call_ (looks_spec hln ⟨⟨ahead, c :: l, chk, anc, opn, waits⟩, core⟩ t 0 (Nat.zero_le 1)) hG [0, 1] rfl rfl rfl rfl rfl ?_
      generalize looksM right numRead 0 ⟨⟨ahead, c :: l, chk, anc, opn, waits⟩, core⟩ = y at hK ⊢
      cases y with
      | none => exact hK.elim
      | some z =>
        obtain ⟨e, s'⟩ := z
        simp only at hK
        cbv
        refine cond_ hN (fun h => ?_) (fun h => ?_)
        · rw [cne hN] at h
          rw [if_pos (by simpa using h)] at hK
          cbv
          exact hf _ _ (fin_ [] rfl rfl hK)
        · rw [cne hN] at h
          rw [if_neg (by simpa using h)] at hK
          cbv
          refine op_ hN (call_ (finish_spec hb s' true) hG [0, 1] rfl rfl rfl rfl rfl ?_)
          generalize finishM right s' = y at hK ⊢
          cases y with
          | none => exact hK.elim
          | some z =>
            obtain ⟨e, s'⟩ := z
            cbv
            exact hf _ _ (fin_ [] rfl rfl hK)
end Hx
/- pull.Core: fails, met. -/
namespace Hx
open Go Sx Go.Proofs
set_option maxRecDepth 100000
set_option maxHeartbeats 4000000
set_option linter.unusedVariables false
set_option linter.unusedSimpArgs false
variable {GOk : Gl → Prop}
def failC (c : Core) (e : Int) : Core := { c with over := true, err := e }
theorem fails_spec (c : Core) (e : Int) : Triple (BB Ip GOk) 24 2 2 [.ptr 0 0, .int .i64 e] [.abs (.core c) [0, 1]] (fun K => K (.ret (.tuple [])) [.abs (.core (failC c e)) [0, 1]]) := by
  obtain ⟨⟨sl, sa, sb⟩, queue, cat, closed, over, err, told⟩ := c
  refine triple_of BB_ok (tb := ty) rfl (n0 := 4) (fun y : {cs' // Tm (.core ⟨⟨sl, sa, sb⟩, queue, cat, closed, over, err, told⟩) cs'} => csRen (sg [0, 1] 2) y.1 ++ []) pl24 Tryz.call24 Tryz.func24 rfl (by kernel_rfl) (Nat.le_of_ble_eq_true rfl) (by decide) rfl (pre_open rfl rfl rfl) ?_
  rintro G hG K hK W bi bc bs bk bu bb bo bg bl bp bn be Ncond Nob Nop Nloop Nscope hN Nfin hf _ ⟨cs', hT⟩
  obtain ⟨p, lo, len, cap, xs, hv, rfl⟩ := id hT
  simp only at hv
  cbv
  exact hf _ _ (fin_cput 0 [.iface 47 (.ptr 1 0), .ptr 2 0, .vec p 3 3 lo len cap, .int .i64 (Int.ofNat cat), .bool closed, .bool true, .int .i64 e, .bool told] rfl (fun _ => rfl) (fin_close rfl (.core ⟨⟨sl, sa, sb⟩, queue, cat, closed, true, e, told⟩) [0, 1] [2, 3] _ ⟨p, lo, len, cap, xs, hv, rfl⟩ rfl (fin_ [] rfl rfl hK)))
theorem asserts (u : Value) (w : World) : (Instr.typeAssert (.iface 47 u) 35 83 true).run P w = .ok (.tuple #[.iface 47 u, .bool true]) w := by kernel_rfl
theorem meth_at (v : Value) (w : World) : (method (P.types.size + Made.depth) 47 v "At").run P w = .ok (141, v) w := by kernel_rfl
theorem meth_step (v : Value) (w : World) : (method (P.types.size + Made.depth) 47 v "Step").run P w = .ok (143, v) w := by kernel_rfl
theorem meth_end (v : Value) (w : World) : (method (P.types.size + Made.depth) 47 v "End").run P w = .ok (142, v) w := by kernel_rfl
theorem met_spec (s : OS) (t : Bool) (e : Int) : Triple (BB Ip GOk) 26 2 2 [.ptr 0 0, .int .i64 e] [.abs (.core s.c) [0, 1], .abs (.mch s.m t) [1, 0]]
    (fun K => K (.ret (.tuple [])) [.abs (.core (metM e s).c) [0, 1], .abs (.mch s.m t) [1, 0]]) := by
  obtain ⟨m, ⟨⟨sl, sa, sb⟩, queue, cat, closed, over, err, told⟩⟩ := s
  refine triple_of BB_ok (tb := ty) rfl (n0 := 2) (fun _ : Unit => _) pl26 Tryz.call26 Tryz.func26 rfl (by kernel_rfl) (Nat.le_of_ble_eq_true rfl) (by decide) rfl pre_none ?_
  rintro G hG K hK W bi bc bs bk bu bb bo bg bl bp bn be Ncond Nob Nop Nloop Nscope hN Nfin hf _ _
  cbv
  refine op_ hN (call_ (fails_spec ⟨⟨sl, sa, sb⟩, queue, cat, closed, over, err, told⟩ e) hG [0, 1] rfl rfl rfl rfl rfl ?_)
  cbv
  refine op_ hN (op_open rfl 0 2 rfl rfl rfl rfl ?_)
  rintro _ ⟨p, lo, len, cap, xs, hv, rfl⟩
  simp only at hv
  refine load_ ty_ok rfl ?_
  cbv
  refine op_ hN (assert_if asserts ?_)
  cbv
  refine cond_ hN (fun h => ?_) (fun h => ?_)
  · rw [cne hN] at h
    have he : e ≠ 0 := by simpa using h
    have hM : (metM e ⟨m, ⟨⟨sl, sa, sb⟩, queue, cat, closed, over, err, told⟩⟩).c = ⟨⟨sl, sa, sb⟩, queue, m.ahead, closed, true, e, told⟩ := by simp only [metM]; rw [if_pos he]
    simp only [hM] at hK
    cbv
    refine op_ hN (invoke_ (at_spec m t) hG [1, 0] meth_at rfl rfl rfl rfl rfl ?_)
    obtain ⟨A, hA⟩ : ∃ x, x = m.ahead := ⟨_, rfl⟩
    rw [← hA] at hK ⊢
    cbv
    exact hf _ _ (fin_cput 0 [.iface 47 (.ptr 1 0), .ptr 2 0, .vec p 3 3 lo len cap, .int .i64 (Int.ofNat A), .bool closed, .bool true, .int .i64 e, .bool told] rfl (fun _ => rfl) (fin_close rfl (.core ⟨⟨sl, sa, sb⟩, queue, A, closed, true, e, told⟩) [0, 1] [2, 3] _ ⟨p, lo, len, cap, xs, hv, rfl⟩ rfl (fin_ [] rfl rfl hK)))
  · rw [cne hN] at h
    have he : ¬ e ≠ 0 := by simpa using h
    have hM : (metM e ⟨m, ⟨⟨sl, sa, sb⟩, queue, cat, closed, over, err, told⟩⟩).c = ⟨⟨sl, sa, sb⟩, queue, cat, closed, true, e, told⟩ := by simp only [metM]; rw [if_neg he]
    simp only [hM] at hK
    cbv
    exact hf _ _ (fin_close rfl (.core ⟨⟨sl, sa, sb⟩, queue, cat, closed, true, e, told⟩) [0, 1] [2, 3] _ ⟨p, lo, len, cap, xs, hv, rfl⟩ rfl (fin_ [] rfl rfl hK))
end Hx
/- pull.Core.Feed. -/
namespace Hx
open Go Sx Go.Proofs
set_option maxRecDepth 100000
set_option maxHeartbeats 4000000
set_option linter.unusedVariables false
set_option linter.unusedSimpArgs false
variable {GOk : Gl → Prop}
variable {right : Ev → Bool} {numRead : ByteArray → ByteArray × Int}
def coreC (s : OS) (t : Bool) : List (Chunk Pd) := [.abs (.core s.c) [0, 1], .abs (.mch s.m t) [1, 0]]
def PostF (rest : List (Chunk Pd)) (v : SV) (K : Out → List (Chunk Pd) → Prop) : Option OS → Prop
  | none => False
  | some s => ∀ t, K (.ret v) ([.abs (.core s.c) [0, 1], .abs (.mch s.m t) [1, 0]] ++ rest)
theorem feed_spec (hb : Below GOk right) (hln : LineOk GOk right numRead) (s : OS) (t0 : Bool) (hcl : s.c.closed = false) (pt : Bool) (lo cap : Nat) (len : Nat) (xs text : List UInt8) (hv : VecOk pt lo len cap xs text) (hlen : len < 1000000) :
    Triple (BB Ip GOk) 15 3 3 [.ptr 0 0, .vec pt 2 1 lo len cap] [.abs (.core s.c) [0, 1], .abs (.mch s.m t0) [1, 0], .arr pt false 2 5 encB xs]
    (fun K => PostF [.arr pt false 2 5 encB xs] (.bool true) K (feedGo right numRead text s)) := by
  obtain ⟨m, ⟨⟨sl, sa, sb⟩, queue, cat, closed, over, err, told⟩⟩ := s
  simp only at hcl
  subst hcl
  refine triple_of BB_ok (tb := ty) rfl (n0 := 5) (fun y : {cs' // Tm (.core ⟨⟨sl, sa, sb⟩, queue, cat, false, over, err, told⟩) cs'} => csRen (sg [0, 1] 3) y.1 ++ [.abs (.mch m t0) [1, 0], .arr pt false 2 5 encB xs]) pl15 Tryz.call15 Tryz.func15 rfl (by kernel_rfl) (Nat.le_of_ble_eq_true rfl) (by decide) rfl (pre_open rfl rfl rfl) ?_
  rintro G hG K hK W bi bc bs bk bu bb bo bg bl bp bn be Ncond Nob Nop Nloop Nscope hN Nfin hf _ ⟨cs', hT⟩
  obtain ⟨p, lo1, len1, cap1, ys, hv1, rfl⟩ := id hT
  have hlt := hv.length
  have hroom := hv.room
  have hfits := hv.fits
  cbv
  refine cond_F hN rfl ?_
  cbv
  refine loopN_ hN (loop_ hN ty_ok mixed (ι := Nat × OS × Bool) (fun y => ⟨[(0, .ptr 0 0), (12, .vec pt 2 1 lo len cap), (13, .int .i64 (Int.ofNat len)), (14, .int .i64 (Int.ofNat y.1))], [.abs (.core y.2.1.c) [0, 1], .abs (.mch y.2.1.m y.2.2) [1, 0], .arr pt false 2 5 encB xs], 3⟩)
    (fun y => y.1 ≤ len ∧ feedGo right numRead (text.drop y.1) y.2.1 = feedGo right numRead text ⟨m, ⟨⟨sl, sa, sb⟩, queue, cat, false, over, err, told⟩⟩) (fun y => len - y.1) ?_ ?_)
  · refine leads_close rfl (.core ⟨⟨sl, sa, sb⟩, queue, cat, false, over, err, told⟩) [0, 1] [3, 4] _ hT rfl ?_
    exact Leads.idx (0, ⟨m, ⟨⟨sl, sa, sb⟩, queue, cat, false, over, err, told⟩⟩, t0) [] ⟨Nat.zero_le _, rfl⟩ ⟨⟨rfl, rfl, rfl, rfl, trivial⟩, rfl, Nat.le_of_ble_eq_true rfl⟩
  rintro ⟨i, s1, t⟩ ⟨hi, hgo⟩ Nnext hn _
  simp only at hi hgo
  cbv
  refine cond_ hN (fun h => ?_) (fun h => ?_)
  · rw [clt hN] at h
    simp only [decide_eq_true_eq, decide_eq_false_iff_not, Int.ofNat_eq_natCast, gt_iff_lt, ge_iff_le, Bool.not_eq_true', Bool.not_eq_false', Int.not_lt, Int.not_le] at h
    have hilt : i < len := by have : (i : Int) < (len : Int) := h; omega
    have hpt : pt = true := by
      cases pt with
      | true => rfl
      | false => have := hv.pr rfl; omega
    have hidx : bp lo (Int.ofNat i) = lo + i := by rw [bp_ hN]; simp
    have hil : i < text.length := by omega
    have hx : xs[lo + i]? = some (text[i]'hil) := by
      have h5 : ((xs.drop lo).take len)[i]? = some (text[i]'hil) := by rw [hv.eq]; exact List.getElem?_eq_getElem hil
      rw [List.getElem?_take, if_pos hilt, List.getElem?_drop] at h5
      exact h5
    have hdrop : text.drop i = (text[i]'hil) :: text.drop (i + 1) := List.drop_eq_getElem_cons hil
    generalize (text[i]'hil) = x at hx hdrop
    rw [hdrop] at hgo
    cbv
    refine ob_ hN ⟨⟨by simp, by simpa using hilt⟩, hpt, trivial⟩ ?_
    cbv
    refine op_ hN (load_byte ty_ok rfl hpt rfl rfl (by rw [hidx]; omega) ?_)
    intro x2 b hx2 hxb
    rw [hidx, hx] at hx2
    obtain rfl := (Option.some.inj hx2).symm
    obtain ⟨m1, ⟨⟨sl1, sa1, sb1⟩, queue1, cat1, closed1, over1, err1, told1⟩⟩ := s1
    cbv
    refine op_ hN (op_open rfl 0 2 rfl rfl rfl rfl ?_)
    rintro _ ⟨p, lo1, len1, cap1, ys, hv1, rfl⟩
    simp only at hv1
    have hcore : ∀ sl sa sb cat over err, Tm (.core ⟨⟨sl, sa, sb⟩, queue1, cat, closed1, over, err, told1⟩) [.cells 0 40 [.iface 47 (.ptr 1 0), .ptr 2 0, .vec p 3 3 lo1 len1 cap1, .int .i64 (Int.ofNat cat), .bool closed1, .bool over, .int .i64 err, .bool told1], .cells 2 81 [.int .i64 sl, .int .u8 sa, .int .u8 sb], .arr p true 3 44 encE ys] :=
      fun sl sa sb cat over err => ⟨p, lo1, len1, cap1, ys, hv1, rfl⟩
    refine load_ ty_ok rfl ?_
    simp only [feedGo] at hgo
    cbv
    refine cond_ hN (fun h2 => ?_) (fun h2 => ?_)
    · subst h2
      rw [if_pos rfl] at hgo
      rw [← hgo] at hK
      cbv
      exact hf _ _ (fin_as (.bool true) (fun _ => rfl) (fin_close rfl (.core ⟨⟨sl1, sa1, sb1⟩, queue1, cat1, closed1, true, err1, told1⟩) [0, 1] [3, 4] _ (hcore _ _ _ _ _ _) rfl (fin_ [] rfl rfl (hK t))))
    · subst h2
      rw [if_neg (by simp), ← hxb] at hgo
      cbv
      refine op_ hN (call_ (scan_step_spec ⟨sl1, sa1, sb1⟩ b) hG [3] rfl rfl rfl rfl rfl ?_)
      intro r sc hsc
      rw [← hsc] at hgo
      obtain ⟨sl2, sa2, sb2⟩ := sc
      cases r with
      | false =>
        simp only at hgo
        rw [← hgo] at hK
        cbv
        refine cond_T hN rfl ?_
        cbv
        refine op_ hN (op_close rfl (.core ⟨⟨sl2, sa2, sb2⟩, queue1, cat1, closed1, false, err1, told1⟩) [0, 1] [3, 4] _ (hcore _ _ _ _ _ _) rfl rfl ?_)
        refine call_ (fails_spec ⟨⟨sl2, sa2, sb2⟩, queue1, cat1, closed1, false, err1, told1⟩ 3) hG [0, 1] rfl rfl rfl rfl rfl ?_
        cbv
        exact hf _ _ (fin_as (.bool true) (fun _ => rfl) (fin_ [] rfl rfl (hK t)))
      | true =>
        simp only at hgo
        cbv
        refine cond_F hN rfl ?_
        cbv
        refine op_ hN (op_close rfl (.core ⟨⟨sl2, sa2, sb2⟩, queue1, cat1, closed1, false, err1, told1⟩) [0, 1] [3, 4] _ (hcore _ _ _ _ _ _) rfl rfl ?_)
        refine invoke_ (mstep_spec hln ⟨m1, ⟨⟨sl2, sa2, sb2⟩, queue1, cat1, closed1, false, err1, told1⟩⟩ t x2 b hxb.symm) hG [1, 0] meth_step rfl rfl rfl rfl rfl ?_
        generalize stepM right numRead x2 ⟨m1, ⟨⟨sl2, sa2, sb2⟩, queue1, cat1, closed1, false, err1, told1⟩⟩ = y at hgo ⊢
        generalize (t || decide (x2 = 10)) = t2
        cases y with
        | none => simp only at hgo; rw [← hgo] at hK; exact hK.elim
        | some z =>
          obtain ⟨e, s2⟩ := z
          simp only at hgo
          cbv
          refine cond_ hN (fun h3 => ?_) (fun h3 => ?_)
          · rw [cne hN] at h3
            rw [if_pos (by simpa using h3)] at hgo
            rw [← hgo] at hK
            have hK2 : K (.ret (.bool true)) ([.abs (.core (metM e s2).c) [0, 1], .abs (.mch s2.m t2) [1, 0]] ++ [.arr pt false 2 5 encB xs]) := hK t2
            cbv
            refine op_ hN (call_ (met_spec s2 t2 e) hG [0, 1] rfl rfl rfl rfl rfl ?_)
            generalize (metM e s2).c = c' at hK2 ⊢
            cbv
            exact hf _ _ (fin_as (.bool true) (fun _ => rfl) (fin_ [] rfl rfl hK2))
          · rw [cne hN] at h3
            rw [if_neg (by simpa using h3)] at hgo
            by_cases hA : s2.c.at_ > 1000000
            · rw [if_pos hA] at hgo; rw [← hgo] at hK; exact hK.elim
            rw [if_neg hA] at hgo
            obtain ⟨m2, ⟨⟨sl3, sa3, sb3⟩, queue3, cat3, closed3, over3, err3, told3⟩⟩ := s2
            simp only at hA hgo
            have hadd : bi .add .i64 (Int.ofNat cat3) 1 = Int.ofNat (cat3 + 1) := inext hN (by omega)
            have hadd2 : bi .add .i64 (Int.ofNat i) 1 = Int.ofNat (i + 1) := inext hN (by omega)
            cbv
            refine op_ hN (op_open rfl 0 2 rfl rfl rfl rfl ?_)
            rintro _ ⟨p3, lo3, len3, cap3, zs, hv3, rfl⟩
            refine load_ ty_ok rfl ?_
            cbv
            simp only [hadd, hadd2]
            refine hn _ (leads_close rfl (.core ⟨⟨sl3, sa3, sb3⟩, queue3, cat3 + 1, closed3, over3, err3, told3⟩) [0, 1] [5, 6] _ ⟨p3, lo3, len3, cap3, zs, hv3, rfl⟩ rfl ?_)
            exact Leads.nxt (i + 1, ⟨m2, ⟨⟨sl3, sa3, sb3⟩, queue3, cat3 + 1, closed3, over3, err3, told3⟩⟩, t2) [] ⟨hilt, hgo⟩ (by simp only; omega) ⟨⟨rfl, rfl, rfl, rfl, trivial⟩, rfl, Nat.le_of_ble_eq_true rfl⟩
  · rw [clt hN] at h
    simp only [decide_eq_true_eq, decide_eq_false_iff_not, Int.ofNat_eq_natCast, gt_iff_lt, ge_iff_le, Bool.not_eq_true', Bool.not_eq_false', Int.not_lt, Int.not_le] at h
    have hie : i = len := by have : (len : Int) ≤ (i : Int) := h; omega
    rw [hie, ← hlt, List.drop_length] at hgo
    simp only [feedGo] at hgo
    rw [← hgo] at hK
    cbv
    exact hf _ _ (fin_as (.bool true) (fun _ => rfl) (fin_ [] rfl rfl (hK t)))
end Hx
/- pull.Core.Close, All. -/
namespace Hx
open Go Sx Go.Proofs
set_option maxRecDepth 100000
set_option maxHeartbeats 4000000
set_option linter.unusedVariables false
set_option linter.unusedSimpArgs false
variable {GOk : Gl → Prop}
variable {right : Ev → Bool} {numRead : ByteArray → ByteArray × Int}
theorem close_spec (hb : Below GOk right) (hln : LineOk GOk right numRead) (s : OS) (t : Bool) :
    Triple (BB Ip GOk) 16 2 2 [.ptr 0 0] [.abs (.core s.c) [0, 1], .abs (.mch s.m t) [1, 0]] (fun K => PostF [] (.tuple []) K (closeM right numRead s)) := by
  obtain ⟨m, ⟨⟨sl, sa, sb⟩, queue, cat, closed, over, err, told⟩⟩ := s
  refine triple_of BB_ok (tb := ty) rfl (n0 := 4) (fun y : {cs' // Tm (.core ⟨⟨sl, sa, sb⟩, queue, cat, closed, over, err, told⟩) cs'} => csRen (sg [0, 1] 2) y.1 ++ [.abs (.mch m t) [1, 0]]) pl16 Tryz.call16 Tryz.func16 rfl (by kernel_rfl) (Nat.le_of_ble_eq_true rfl) (by decide) rfl (pre_open rfl rfl rfl) ?_
  rintro G hG K hK W bi bc bs bk bu bb bo bg bl bp bn be Ncond Nob Nop Nloop Nscope hN Nfin hf _ ⟨cs', hT⟩
  obtain ⟨p, lo, len, cap, ys, hv, rfl⟩ := id hT
  simp only at hv
  have hcore : ∀ over err, Tm (.core ⟨⟨sl, sa, sb⟩, queue, cat, true, over, err, told⟩) [.cells 0 40 [.iface 47 (.ptr 1 0), .ptr 2 0, .vec p 3 3 lo len cap, .int .i64 (Int.ofNat cat), .bool true, .bool over, .int .i64 err, .bool told], .cells 2 81 [.int .i64 sl, .int .u8 sa, .int .u8 sb], .arr p true 3 44 encE ys] :=
    fun over err => ⟨p, lo, len, cap, ys, hv, rfl⟩
  cases closed with
  | true =>
    have hM : closeM right numRead ⟨m, ⟨⟨sl, sa, sb⟩, queue, cat, true, over, err, told⟩⟩ = some ⟨m, ⟨⟨sl, sa, sb⟩, queue, cat, true, over, err, told⟩⟩ := by unfold closeM; rw [if_pos (by simp)]
    rw [hM] at hK
    cbv
    refine cond_T hN rfl ?_
    cbv
    exact hf _ _ (fin_cput 0 [.iface 47 (.ptr 1 0), .ptr 2 0, .vec p 3 3 lo len cap, .int .i64 (Int.ofNat cat), .bool true, .bool over, .int .i64 err, .bool told] rfl (fun _ => rfl) (fin_close rfl (.core ⟨⟨sl, sa, sb⟩, queue, cat, true, over, err, told⟩) [0, 1] [2, 3] _ (hcore _ _) rfl (fin_ [] rfl rfl (hK t))))
  | false =>
    cbv
    refine cond_F hN rfl ?_
    cbv
    cases over with
    | true =>
      have hM : closeM right numRead ⟨m, ⟨⟨sl, sa, sb⟩, queue, cat, false, true, err, told⟩⟩ = some ⟨m, ⟨⟨sl, sa, sb⟩, queue, cat, true, true, err, told⟩⟩ := by unfold closeM; rw [if_pos (by simp)]
      rw [hM] at hK
      refine cond_T hN rfl ?_
      cbv
      exact hf _ _ (fin_cput 0 [.iface 47 (.ptr 1 0), .ptr 2 0, .vec p 3 3 lo len cap, .int .i64 (Int.ofNat cat), .bool true, .bool true, .int .i64 err, .bool told] rfl (fun _ => rfl) (fin_close rfl (.core ⟨⟨sl, sa, sb⟩, queue, cat, true, true, err, told⟩) [0, 1] [2, 3] _ (hcore _ _) rfl (fin_ [] rfl rfl (hK t))))
    | false =>
      refine cond_F hN rfl ?_
      cbv
      refine op_ hN (inline_ BB_ok (tb := ty) rfl pl27 Tryz.call27 Tryz.func27 rfl (by kernel_rfl) (Nat.le_of_ble_eq_true rfl) ?_)
      intro W2 bi2 bc2 bs2 bk2 bu2 bb2 bo2 bg2 bl2 bp2 bn2 be2 Ncond2 Nob2 Nop2 Nloop2 Nscope2 hN2
      cbv
      refine cond_ hN (fun h => ?_) (fun h => ?_)
      · rw [ceq hN2] at h
        have hs : sl ≠ 0 := fun hs => by rw [decide_eq_true hs] at h; exact nomatch h
        have hM : closeM right numRead ⟨m, ⟨⟨sl, sa, sb⟩, queue, cat, false, false, err, told⟩⟩ = some ⟨m, ⟨⟨sl, sa, sb⟩, queue, cat, true, true, 3, told⟩⟩ := by unfold closeM; rw [if_neg (by simp), if_pos hs]
        rw [hM] at hK
        cbv
        refine op_ hN (op_cput 0 [.iface 47 (.ptr 1 0), .ptr 2 0, .vec p 3 3 lo len cap, .int .i64 (Int.ofNat cat), .bool true, .bool false, .int .i64 err, .bool told] rfl (fun _ => rfl) (op_close rfl (.core ⟨⟨sl, sa, sb⟩, queue, cat, true, false, err, told⟩) [0, 1] [2, 3] _ (hcore _ _) rfl rfl ?_))
        refine call_ (fails_spec ⟨⟨sl, sa, sb⟩, queue, cat, true, false, err, told⟩ 3) hG [0, 1] rfl rfl rfl rfl rfl ?_
        cbv
        exact hf _ _ (fin_ [] rfl rfl (hK t))
      · rw [ceq hN2] at h
        have hs : ¬ sl ≠ 0 := fun hs => by rw [decide_eq_false hs] at h; exact nomatch h
        have hM : closeM right numRead ⟨m, ⟨⟨sl, sa, sb⟩, queue, cat, false, false, err, told⟩⟩ = (match endM right numRead ⟨m, ⟨⟨sl, sa, sb⟩, queue, cat, true, false, err, told⟩⟩ with
          | none => none
          | some (e, s') => some (metM e s')) := by unfold closeM; rw [if_neg (by simp), if_neg hs]; rfl
        rw [hM] at hK
        cbv
        refine op_ hN (op_cput 0 [.iface 47 (.ptr 1 0), .ptr 2 0, .vec p 3 3 lo len cap, .int .i64 (Int.ofNat cat), .bool true, .bool false, .int .i64 err, .bool told] rfl (fun _ => rfl) (op_close rfl (.core ⟨⟨sl, sa, sb⟩, queue, cat, true, false, err, told⟩) [0, 1] [2, 3] _ (hcore _ _) rfl rfl ?_))
        refine invoke_ (mend_spec hb hln ⟨m, ⟨⟨sl, sa, sb⟩, queue, cat, true, false, err, told⟩⟩ t) hG [1, 0] meth_end rfl rfl rfl rfl rfl ?_
        generalize endM right numRead ⟨m, ⟨⟨sl, sa, sb⟩, queue, cat, true, false, err, told⟩⟩ = y at hK ⊢
        cases y with
        | none => exact hK.elim
        | some z =>
          obtain ⟨e, s2⟩ := z
          have hK2 : K (.ret (.tuple [])) ([.abs (.core (metM e s2).c) [0, 1], .abs (.mch s2.m true) [1, 0]] ++ []) := hK true
          cbv
          refine op_ hN (call_ (met_spec s2 true e) hG [0, 1] rfl rfl rfl rfl rfl ?_)
          generalize (metM e s2).c = c' at hK2 ⊢
          cbv
          exact hf _ _ (fin_ [] rfl rfl hK2)
def allFrom (right : Ev → Bool) (numRead : ByteArray → ByteArray × Int) (text : List UInt8) (s : OS) : Option OS := match feedGo right numRead text s with
  | none => none
  | some s => closeM right numRead s
theorem allM_from (text : List UInt8) : allM right numRead text = allFrom right numRead text os0 := rfl
def PostA (rest : List (Chunk Pd)) (K : Out → List (Chunk Pd) → Prop) : Option OS → Prop
  | none => False
  | some s => ∀ p lo len cap xs, VecOk p lo len cap xs s.c.queue → K (.ret (.tuple [.vec p 3 3 lo len cap, .int .i64 s.c.err, .int .i64 (Int.ofNat s.c.at_)])) (.arr p true 3 44 encE xs :: rest)
theorem all_spec (hb : Below GOk right) (hln : LineOk GOk right numRead) (s : OS) (t0 : Bool) (hcl : s.c.closed = false) (pt : Bool) (lo cap : Nat) (len : Nat) (xs text : List UInt8) (hv : VecOk pt lo len cap xs text) (hlen : len < 1000000) :
    Triple (BB Ip GOk) 9 3 4 [.ptr 0 0, .vec pt 2 1 lo len cap] [.abs (.core s.c) [0, 1], .abs (.mch s.m t0) [1, 0], .arr pt false 2 5 encB xs]
    (fun K => PostA [.arr pt false 2 5 encB xs] K (allFrom right numRead text s)) := by
  refine triple_of BB_ok (tb := ty) rfl (n0 := 3) (fun _ : Unit => _) pl9 Tryz.call9 Tryz.func9 rfl (by kernel_rfl) (Nat.le_of_ble_eq_true rfl) (by decide) rfl pre_none ?_
  rintro G hG K hK W bi bc bs bk bu bb bo bg bl bp bn be Ncond Nob Nop Nloop Nscope hN Nfin hf _ _
  cbv
  simp only [allFrom] at hK
  refine op_ hN (call_ (feed_spec hb hln s t0 hcl pt lo cap len xs text hv hlen) hG [0, 1, 2] rfl rfl rfl rfl rfl ?_)
  generalize feedGo right numRead text s = y at hK ⊢
  cases y with
  | none => exact hK.elim
  | some s1 =>
    simp only at hK
    intro t1
    cbv
    refine op_ hN (call_ (close_spec hb hln s1 t1) hG [0, 1] rfl rfl rfl rfl rfl ?_)
    generalize closeM right numRead s1 = y at hK ⊢
    cases y with
    | none => exact hK.elim
    | some s2 =>
      intro t2
      obtain ⟨m, ⟨⟨sl, sa, sb⟩, queue, cat, closed, over, err, told⟩⟩ := s2
      cbv
      repeat' (first | exact True.intro | with_reducible refine dup ?_ | refine And.intro ?_ ?_)
      all_goals
        refine op_ hN (op_open rfl 0 2 rfl rfl rfl rfl ?_)
        rintro _ ⟨p, lo1, len1, cap1, ys, hv1, rfl⟩
        refine load_ ty_ok rfl ?_
        cbv
        repeat' (first | exact True.intro | with_reducible refine dup ?_ | refine And.intro ?_ ?_)
        all_goals
          exact hf _ _ (fin_ [19] rfl rfl (hK p lo1 len1 cap1 ys hv1))
end Hx
/- outline.New, Decode; anchors.New. -/
namespace Hx
open Go Sx Go.Proofs
set_option maxRecDepth 100000
set_option maxHeartbeats 4000000
set_option linter.unusedVariables false
set_option linter.unusedSimpArgs false
variable {GOk : Gl → Prop}
variable {right : Ev → Bool} {numRead : ByteArray → ByteArray × Int}
def anc0 : Anc := ⟨[], 0, 0⟩
theorem anc_new_spec : Triple (BB Ip GOk) 14 0 1 [] [] (fun K => K (.ret (.ptr 0 0)) [.abs (.anc anc0) [0]]) := by
  refine triple_of BB_ok (tb := ty) rfl (n0 := 0) (fun _ : Unit => _) pl14 Tryz.call14 Tryz.func14 rfl (by kernel_rfl) (Nat.le_of_ble_eq_true rfl) (by decide) rfl pre_none ?_
  rintro G hG K hK W bi bc bs bk bu bb bo bg bl bp bn be Ncond Nob Nop Nloop Nscope hN Nfin hf _ _
  cbv
  exact hf _ _ (fin_close rfl (.kps []) [9] [] [] rfl rfl (fin_close rfl (.anc anc0) [1] [0, 9] [.cells 0 70 [.map 1, .int .i64 (Int.ofNat 0), .int .i64 (Int.ofNat 0)], .map 1 [], .abs (.kps []) [2]]
    ⟨[], rfl, Nat.zero_le _, Nat.zero_le _, Nat.le_refl _, (fun x h => nomatch h), (fun x h => nomatch h), List.nodup_nil, (fun x h => nomatch h), rfl⟩ rfl (fin_ [1] rfl rfl hK)))
theorem core0_tm : Tm (.core os0.c) [.cells 0 40 [.iface 47 (.ptr 1 0), .ptr 2 0, .vec false 3 3 0 0 0, .int .i64 (Int.ofNat 0), .bool false, .bool false, .int .i64 0, .bool false], .cells 2 81 [.int .i64 0, .int .u8 128, .int .u8 191], .arr false true 3 44 encE []] :=
  ⟨false, 0, 0, 0, [], ⟨fun _ => rfl, Nat.le_refl _, Nat.le_refl _, rfl⟩, rfl⟩
theorem mch0_tm : Tm (.mch os0.m false) [.cells 0 55 [.int .i64 (Int.ofNat 0), .vec false 2 1 0 0 0, .ptr 4 0, .ptr 5 0, .vec false 3 2 0 0 0, .bool false, .nilfn], .arr false true 2 5 encB [], .arr false true 3 224 encK [], .abs (.chk ⟨[], false⟩) [4], .abs (.anc ⟨[], 0, 0⟩) [5]] :=
  ⟨false, 0, 0, 0, [], false, 0, 0, 0, [], .nilfn, ⟨fun _ => rfl, Nat.le_refl _, Nat.le_refl _, rfl⟩, ⟨fun _ => rfl, Nat.le_refl _, Nat.le_refl _, rfl⟩, ⟨Nat.zero_le _, Nat.zero_le _⟩, (fun h => nomatch h), fun _ => rfl, rfl⟩
theorem out_new_spec : Triple (BB Ip GOk) 8 0 2 [] [] (fun K => K (.ret (.ptr 0 0)) [.abs (.core os0.c) [0, 1], .abs (.mch os0.m false) [1, 0]]) := by
  refine triple_of BB_ok (tb := ty) rfl (n0 := 0) (fun _ : Unit => _) pl8 Tryz.call8 Tryz.func8 rfl (by kernel_rfl) (Nat.le_of_ble_eq_true rfl) (by decide) rfl pre_none ?_
  rintro G hG K hK W bi bc bs bk bu bb bo bg bl bp bn be Ncond Nob Nop Nloop Nscope hN Nfin hf _ _
  cbv
  refine op_ hN (call_ (ev_new_spec) hG [] rfl rfl rfl rfl rfl ?_)
  cbv
  refine op_ hN (call_ (anc_new_spec) hG [] rfl rfl rfl rfl rfl ?_)
  cbv
  refine op_ hN (inline_ BB_ok (tb := ty) rfl pl13 Tryz.call13 Tryz.func13 rfl (by kernel_rfl) (Nat.le_of_ble_eq_true rfl) ?_)
  intro W2 bi2 bc2 bs2 bk2 bu2 bb2 bo2 bg2 bl2 bp2 bn2 be2 Ncond2 Nob2 Nop2 Nloop2 Nscope2 hN2
  cbv
  refine op_ hN2 (call_ (src_new_spec) hG [] rfl rfl rfl rfl rfl ?_)
  cbv
  exact hf _ _ (fin_noArr true 11 44 encE [] (fin_noArr true 12 5 encB [] (fin_noArr true 13 224 encK [] (fin_cput 5 [.iface 47 (.ptr 2 0), .ptr 4 0, .vec false 11 3 0 0 0, .int .i64 (Int.ofNat 0), .bool false, .bool false, .int .i64 0, .bool false] rfl (fun _ => rfl)
    (fin_cput 2 [.int .i64 (Int.ofNat 0), .vec false 12 1 0 0 0, .ptr 0 0, .ptr 1 0, .vec false 13 2 0 0 0, .bool false, .nilfn] rfl (fun _ => rfl) (fin_close rfl (.core os0.c) [5, 2] [4, 11] _ core0_tm rfl (fin_close rfl (.mch os0.m false) [2, 5] [12, 13, 0, 1] _ mch0_tm rfl (fin_ [5, 2] rfl rfl hK))))))))
def PostD (rest : List (Chunk Pd)) (K : Out → List (Chunk Pd) → Prop) : Option OS → Prop
  | none => False
  | some s => ∀ p lo len cap xs, VecOk p lo len cap xs s.c.queue → K (.ret (.tuple [.vec p 1 3 lo len cap, .int .i64 s.c.err, .int .i64 (Int.ofNat s.c.at_)])) (.arr p true 1 44 encE xs :: rest)
theorem decode_spec (hb : Below GOk right) (hln : LineOk GOk right numRead) (pt : Bool) (lo cap : Nat) (len : Nat) (xs text : List UInt8) (hv : VecOk pt lo len cap xs text) (hlen : len < 1000000) :
    Triple (BB Ip GOk) 5 1 2 [.vec pt 0 1 lo len cap] [.arr pt false 0 5 encB xs] (fun K => PostD [.arr pt false 0 5 encB xs] K (allM right numRead text)) := by
  refine triple_of BB_ok (tb := ty) rfl (n0 := 1) (fun _ : Unit => _) pl5 Tryz.call5 Tryz.func5 rfl (by kernel_rfl) (Nat.le_of_ble_eq_true rfl) (by decide) rfl pre_none ?_
  rintro G hG K hK W bi bc bs bk bu bb bo bg bl bp bn be Ncond Nob Nop Nloop Nscope hN Nfin hf _ _
  cbv
  refine op_ hN (call_ (out_new_spec) hG [] rfl rfl rfl rfl rfl ?_)
  cbv
  refine op_ hN (call_ (all_spec hb hln os0 false rfl pt lo cap len xs text hv hlen) hG [1, 2, 0] rfl rfl rfl rfl rfl ?_)
  rw [allM_from] at hK
  generalize allFrom right numRead text os0 = y at hK ⊢
  cases y with
  | none => exact hK.elim
  | some s2 =>
    intro p lo1 len1 cap1 ys hv1
    obtain ⟨m, ⟨⟨sl, sa, sb⟩, queue, cat, closed, over, err, told⟩⟩ := s2
    cbv
    exact hf _ _ (fin_ [3] rfl rfl (hK p lo1 len1 cap1 ys hv1))
end Hx
/- pull.Core.Feed over a block that stood before. -/
namespace Hx
open Go Sx Go.Proofs
set_option maxRecDepth 100000
set_option maxHeartbeats 4000000
set_option linter.unusedVariables false
set_option linter.unusedSimpArgs false
variable {GOk : Gl → Prop}
variable {right : Ev → Bool} {numRead : ByteArray → ByteArray × Int}
theorem feed_old (hb : Below GOk right) (hln : LineOk GOk right numRead) (s : OS) (t0 : Bool) (hcl : s.c.closed = false) (pt : Bool) (lo cap : Nat) (len : Nat) (g : Nat) (text : List UInt8) (hlt : text.length = len) (hpr : pt = false → len = 0) (hS : OldB GOk g lo text) (hlen : len < 1000000) :
    Triple (BB Ip GOk) 15 3 3 [.ptr 0 0, .vec pt 2 1 lo len cap] [.abs (.core s.c) [0, 1], .abs (.mch s.m t0) [1, 0], .at_ 2 g]
    (fun K => PostF [.at_ 2 g] (.bool true) K (feedGo right numRead text s)) := by
  obtain ⟨m, ⟨⟨sl, sa, sb⟩, queue, cat, closed, over, err, told⟩⟩ := s
  simp only at hcl
  subst hcl
  refine triple_of BB_ok (tb := ty) rfl (n0 := 5) (fun y : {cs' // Tm (.core ⟨⟨sl, sa, sb⟩, queue, cat, false, over, err, told⟩) cs'} => csRen (sg [0, 1] 3) y.1 ++ [.abs (.mch m t0) [1, 0], .at_ 2 g]) pl15 Tryz.call15 Tryz.func15 rfl (by kernel_rfl) (Nat.le_of_ble_eq_true rfl) (by decide) rfl (pre_open rfl rfl rfl) ?_
  rintro G hG K hK W bi bc bs bk bu bb bo bg bl bp bn be Ncond Nob Nop Nloop Nscope hN Nfin hf _ ⟨cs', hT⟩
  obtain ⟨p, lo1, len1, cap1, ys, hv1, rfl⟩ := id hT
  cbv
  refine cond_F hN rfl ?_
  cbv
  refine loopN_ hN (loop_ hN ty_ok mixed (ι := Nat × OS × Bool) (fun y => ⟨[(0, .ptr 0 0), (12, .vec pt 2 1 lo len cap), (13, .int .i64 (Int.ofNat len)), (14, .int .i64 (Int.ofNat y.1))], [.abs (.core y.2.1.c) [0, 1], .abs (.mch y.2.1.m y.2.2) [1, 0], .at_ 2 g], 3⟩)
    (fun y => y.1 ≤ len ∧ feedGo right numRead (text.drop y.1) y.2.1 = feedGo right numRead text ⟨m, ⟨⟨sl, sa, sb⟩, queue, cat, false, over, err, told⟩⟩) (fun y => len - y.1) ?_ ?_)
  · refine leads_close rfl (.core ⟨⟨sl, sa, sb⟩, queue, cat, false, over, err, told⟩) [0, 1] [3, 4] _ hT rfl ?_
    exact Leads.idx (0, ⟨m, ⟨⟨sl, sa, sb⟩, queue, cat, false, over, err, told⟩⟩, t0) [] ⟨Nat.zero_le _, rfl⟩ ⟨⟨rfl, rfl, rfl, rfl, trivial⟩, rfl, Nat.le_of_ble_eq_true rfl⟩
  rintro ⟨i, s1, t⟩ ⟨hi, hgo⟩ Nnext hn _
  simp only at hi hgo
  cbv
  refine cond_ hN (fun h => ?_) (fun h => ?_)
  · rw [clt hN] at h
    simp only [decide_eq_true_eq, decide_eq_false_iff_not, Int.ofNat_eq_natCast, gt_iff_lt, ge_iff_le, Bool.not_eq_true', Bool.not_eq_false', Int.not_lt, Int.not_le] at h
    have hilt : i < len := by have : (i : Int) < (len : Int) := h; omega
    have hpt : pt = true := by
      cases pt with
      | true => rfl
      | false => have := hpr rfl; omega
    have hidx : bp lo (Int.ofNat i) = lo + i := by rw [bp_ hN]; simp
    have hil : i < text.length := by omega
    have hx : text[i]? = some (text[i]'hil) := List.getElem?_eq_getElem hil
    have hdrop : text.drop i = (text[i]'hil) :: text.drop (i + 1) := List.drop_eq_getElem_cons hil
    cbv
    refine ob_ hN ⟨⟨by simp, by simpa using hilt⟩, hpt, trivial⟩ ?_
    cbv
    generalize (text[i]'hil) = x2 at hx hdrop
    rw [hdrop] at hgo
    refine op_ hN (load_old (id := 2) (g := g) ty_ok (by simp [csRen, Chunk.ren, sg]) rfl rfl hG hS hidx hx ?_)
    intro b hxb
    obtain ⟨m1, ⟨⟨sl1, sa1, sb1⟩, queue1, cat1, closed1, over1, err1, told1⟩⟩ := s1
    cbv
    refine op_ hN (op_open rfl 0 2 rfl rfl rfl rfl ?_)
    rintro _ ⟨p, lo1, len1, cap1, ys, hv1, rfl⟩
    simp only at hv1
    have hcore : ∀ sl sa sb cat over err, Tm (.core ⟨⟨sl, sa, sb⟩, queue1, cat, closed1, over, err, told1⟩) [.cells 0 40 [.iface 47 (.ptr 1 0), .ptr 2 0, .vec p 3 3 lo1 len1 cap1, .int .i64 (Int.ofNat cat), .bool closed1, .bool over, .int .i64 err, .bool told1], .cells 2 81 [.int .i64 sl, .int .u8 sa, .int .u8 sb], .arr p true 3 44 encE ys] :=
      fun sl sa sb cat over err => ⟨p, lo1, len1, cap1, ys, hv1, rfl⟩
    refine load_ ty_ok rfl ?_
    simp only [feedGo] at hgo
    cbv
    refine cond_ hN (fun h2 => ?_) (fun h2 => ?_)
    · subst h2
      rw [if_pos rfl] at hgo
      rw [← hgo] at hK
      cbv
      exact hf _ _ (fin_as (.bool true) (fun _ => rfl) (fin_close rfl (.core ⟨⟨sl1, sa1, sb1⟩, queue1, cat1, closed1, true, err1, told1⟩) [0, 1] [3, 4] _ (hcore _ _ _ _ _ _) rfl (fin_ [] rfl rfl (hK t))))
    · subst h2
      rw [if_neg (by simp), ← hxb] at hgo
      cbv
      refine op_ hN (call_ (scan_step_spec ⟨sl1, sa1, sb1⟩ b) hG [3] rfl rfl rfl rfl rfl ?_)
      intro r sc hsc
      rw [← hsc] at hgo
      obtain ⟨sl2, sa2, sb2⟩ := sc
      cases r with
      | false =>
        simp only at hgo
        rw [← hgo] at hK
        cbv
        refine cond_T hN rfl ?_
        cbv
        refine op_ hN (op_close rfl (.core ⟨⟨sl2, sa2, sb2⟩, queue1, cat1, closed1, false, err1, told1⟩) [0, 1] [3, 4] _ (hcore _ _ _ _ _ _) rfl rfl ?_)
        refine call_ (fails_spec ⟨⟨sl2, sa2, sb2⟩, queue1, cat1, closed1, false, err1, told1⟩ 3) hG [0, 1] rfl rfl rfl rfl rfl ?_
        cbv
        exact hf _ _ (fin_as (.bool true) (fun _ => rfl) (fin_ [] rfl rfl (hK t)))
      | true =>
        simp only at hgo
        cbv
        refine cond_F hN rfl ?_
        cbv
        refine op_ hN (op_close rfl (.core ⟨⟨sl2, sa2, sb2⟩, queue1, cat1, closed1, false, err1, told1⟩) [0, 1] [3, 4] _ (hcore _ _ _ _ _ _) rfl rfl ?_)
        refine invoke_ (mstep_spec hln ⟨m1, ⟨⟨sl2, sa2, sb2⟩, queue1, cat1, closed1, false, err1, told1⟩⟩ t x2 b hxb.symm) hG [1, 0] meth_step rfl rfl rfl rfl rfl ?_
        generalize stepM right numRead x2 ⟨m1, ⟨⟨sl2, sa2, sb2⟩, queue1, cat1, closed1, false, err1, told1⟩⟩ = y at hgo ⊢
        generalize (t || decide (x2 = 10)) = t2
        cases y with
        | none => simp only at hgo; rw [← hgo] at hK; exact hK.elim
        | some z =>
          obtain ⟨e, s2⟩ := z
          simp only at hgo
          cbv
          refine cond_ hN (fun h3 => ?_) (fun h3 => ?_)
          · rw [cne hN] at h3
            rw [if_pos (by simpa using h3)] at hgo
            rw [← hgo] at hK
            have hK2 : K (.ret (.bool true)) ([.abs (.core (metM e s2).c) [0, 1], .abs (.mch s2.m t2) [1, 0]] ++ [.at_ 2 g]) := hK t2
            cbv
            refine op_ hN (call_ (met_spec s2 t2 e) hG [0, 1] rfl rfl rfl rfl rfl ?_)
            generalize (metM e s2).c = c' at hK2 ⊢
            cbv
            exact hf _ _ (fin_as (.bool true) (fun _ => rfl) (fin_ [] rfl rfl hK2))
          · rw [cne hN] at h3
            rw [if_neg (by simpa using h3)] at hgo
            by_cases hA : s2.c.at_ > 1000000
            · rw [if_pos hA] at hgo; rw [← hgo] at hK; exact hK.elim
            rw [if_neg hA] at hgo
            obtain ⟨m2, ⟨⟨sl3, sa3, sb3⟩, queue3, cat3, closed3, over3, err3, told3⟩⟩ := s2
            simp only at hA hgo
            have hadd : bi .add .i64 (Int.ofNat cat3) 1 = Int.ofNat (cat3 + 1) := inext hN (by omega)
            have hadd2 : bi .add .i64 (Int.ofNat i) 1 = Int.ofNat (i + 1) := inext hN (by omega)
            cbv
            refine op_ hN (op_open rfl 0 2 rfl rfl rfl rfl ?_)
            rintro _ ⟨p3, lo3, len3, cap3, zs, hv3, rfl⟩
            refine load_ ty_ok rfl ?_
            cbv
            simp only [hadd, hadd2]
            refine hn _ (leads_close rfl (.core ⟨⟨sl3, sa3, sb3⟩, queue3, cat3 + 1, closed3, over3, err3, told3⟩) [0, 1] [5, 6] _ ⟨p3, lo3, len3, cap3, zs, hv3, rfl⟩ rfl ?_)
            exact Leads.nxt (i + 1, ⟨m2, ⟨⟨sl3, sa3, sb3⟩, queue3, cat3 + 1, closed3, over3, err3, told3⟩⟩, t2) [] ⟨hilt, hgo⟩ (by simp only; omega) ⟨⟨rfl, rfl, rfl, rfl, trivial⟩, rfl, Nat.le_of_ble_eq_true rfl⟩
  · rw [clt hN] at h
    simp only [decide_eq_true_eq, decide_eq_false_iff_not, Int.ofNat_eq_natCast, gt_iff_lt, ge_iff_le, Bool.not_eq_true', Bool.not_eq_false', Int.not_lt, Int.not_le] at h
    have hie : i = len := by have : (len : Int) ≤ (i : Int) := h; omega
    rw [hie, ← hlt, List.drop_length] at hgo
    simp only [feedGo] at hgo
    rw [← hgo] at hK
    cbv
    exact hf _ _ (fin_as (.bool true) (fun _ => rfl) (fin_ [] rfl rfl (hK t)))
end Hx
/- all, Decode over a block that stood before. -/
namespace Hx
open Go Sx Go.Proofs
set_option maxRecDepth 100000
set_option maxHeartbeats 4000000
set_option linter.unusedVariables false
set_option linter.unusedSimpArgs false
variable {GOk : Gl → Prop}
variable {right : Ev → Bool} {numRead : ByteArray → ByteArray × Int}
theorem all_old (hb : Below GOk right) (hln : LineOk GOk right numRead) (s : OS) (t0 : Bool) (hcl : s.c.closed = false) (pt : Bool) (lo cap : Nat) (len : Nat) (g : Nat) (text : List UInt8) (hlt : text.length = len) (hpr : pt = false → len = 0) (hS : OldB GOk g lo text) (hlen : len < 1000000) :
    Triple (BB Ip GOk) 9 3 4 [.ptr 0 0, .vec pt 2 1 lo len cap] [.abs (.core s.c) [0, 1], .abs (.mch s.m t0) [1, 0], .at_ 2 g]
    (fun K => PostA [.at_ 2 g] K (allFrom right numRead text s)) := by
  refine triple_of BB_ok (tb := ty) rfl (n0 := 3) (fun _ : Unit => _) pl9 Tryz.call9 Tryz.func9 rfl (by kernel_rfl) (Nat.le_of_ble_eq_true rfl) (by decide) rfl pre_none ?_
  rintro G hG K hK W bi bc bs bk bu bb bo bg bl bp bn be Ncond Nob Nop Nloop Nscope hN Nfin hf _ _
  cbv
  simp only [allFrom] at hK
  refine op_ hN (call_ (feed_old hb hln s t0 hcl pt lo cap len g text hlt hpr hS hlen) hG [0, 1, 2] rfl rfl rfl rfl rfl ?_)
  generalize feedGo right numRead text s = y at hK ⊢
  cases y with
  | none => exact hK.elim
  | some s1 =>
    simp only at hK
    intro t1
    cbv
    refine op_ hN (call_ (close_spec hb hln s1 t1) hG [0, 1] rfl rfl rfl rfl rfl ?_)
    generalize closeM right numRead s1 = y at hK ⊢
    cases y with
    | none => exact hK.elim
    | some s2 =>
      intro t2
      obtain ⟨m, ⟨⟨sl, sa, sb⟩, queue, cat, closed, over, err, told⟩⟩ := s2
      cbv
      repeat' (first | exact True.intro | with_reducible refine dup ?_ | refine And.intro ?_ ?_)
      all_goals
        refine op_ hN (op_open rfl 0 2 rfl rfl rfl rfl ?_)
        rintro _ ⟨p, lo1, len1, cap1, ys, hv1, rfl⟩
        refine load_ ty_ok rfl ?_
        cbv
        repeat' (first | exact True.intro | with_reducible refine dup ?_ | refine And.intro ?_ ?_)
        all_goals
          exact hf _ _ (fin_ [19] rfl rfl (hK p lo1 len1 cap1 ys hv1))
theorem decode_old (hb : Below GOk right) (hln : LineOk GOk right numRead) (pt : Bool) (lo cap : Nat) (len : Nat) (g : Nat) (text : List UInt8) (hlt : text.length = len) (hpr : pt = false → len = 0) (hS : OldB GOk g lo text) (hlen : len < 1000000) :
    Triple (BB Ip GOk) 5 1 2 [.vec pt 0 1 lo len cap] [.at_ 0 g] (fun K => PostD [.at_ 0 g] K (allM right numRead text)) := by
  refine triple_of BB_ok (tb := ty) rfl (n0 := 1) (fun _ : Unit => _) pl5 Tryz.call5 Tryz.func5 rfl (by kernel_rfl) (Nat.le_of_ble_eq_true rfl) (by decide) rfl pre_none ?_
  rintro G hG K hK W bi bc bs bk bu bb bo bg bl bp bn be Ncond Nob Nop Nloop Nscope hN Nfin hf _ _
  cbv
  refine op_ hN (call_ (out_new_spec) hG [] rfl rfl rfl rfl rfl ?_)
  cbv
  refine op_ hN (call_ (all_old hb hln os0 false rfl pt lo cap len g text hlt hpr hS hlen) hG [1, 2, 0] rfl rfl rfl rfl rfl ?_)
  rw [allM_from] at hK
  generalize allFrom right numRead text os0 = y at hK ⊢
  cases y with
  | none => exact hK.elim
  | some s2 =>
    intro p lo1 len1 cap1 ys hv1
    obtain ⟨m, ⟨⟨sl, sa, sb⟩, queue, cat, closed, over, err, told⟩⟩ := s2
    cbv
    exact hf _ _ (fin_ [3] rfl rfl (hK p lo1 len1 cap1 ys hv1))
end Hx
/- slices.Sorted at a map's keys; a slice's cells that lie as they are. -/
namespace Hx
open Go Sx Go.Proofs
set_option maxRecDepth 100000
set_option maxHeartbeats 4000000
set_option linter.unusedVariables false
set_option linter.unusedSimpArgs false
variable {GOk : Gl → Prop}
open Go.RowKit Go.Maps Go.Sort Go.Shelf in
theorem sorted_calls {H : Type} (blk b nn : Nat) (D0 : DataW H) (R : Value → Option (DataW H × List MemPlace)) (w : World) (hblk : blk < w.heap.size) (hc : w.cell? ⟨blk, 0, none⟩ = some (.map (some b))) (hown : w.ownsMap Tryz.prog 9 R b nn D0) (hmax : Maps.size D0 ≤ maxLen) (hbytes : Maps.size D0 * 16 ≤ 140737488355328) :
    Calls Tryz.prog 184 #[.func (.func 194) #[] #[.pointer (some ⟨blk, 0, none⟩)]] w fun e w' => ∃ (v : Value) (ss : List (List UInt8)), e = .returned v ∧ ss.Perm (strKeys D0) ∧
      w'.ownsRow w.heap.size 9 1 v ss.length ((ss.mergeSort (fun x y => decide (x ≤ y))).map encStr) ∧ (v = .slice none 0 0 ↔ ss = []) ∧ Go.RowKit.Below w.heap.size w w' := by
  have hseq : SeqGives Fence.wide 2 Tryz.prog 194 #[.pointer (some ⟨blk, 0, none⟩)] encStr (fun ss => ss.Perm (strKeys D0)) (Maps.size D0) w :=
    AnyZ.keys_gives (ρ := Tryz.keys185_ren) { Tryz.keys185 with } Fence.wide _ trivial rfl (by omega) blk b nn D0 w hblk hc hown
  exact callsIn_wide.1 (AnyZ.sorted_in Tryz.sorted184 Fence.wide 5 trivial trivial trivial trivial rfl (by omega) (Tryz.sorts184 _) (enters_of Tryz.func193 (by kernel_rfl) rfl) 194 #[.pointer (some ⟨blk, 0, none⟩)] trivial (enters_of Tryz.func194 (by kernel_rfl) rfl) _ _ hmax hbytes _ hseq)
def bLs (l : List UInt8) : ByteArray := ⟨l.toArray⟩
def Rany : Value → Option (DataW Nat × List MemPlace) := fun _ => some (.lit (.bool true), [])
def keyL (s : ByteArray) : Go.Lit × DataW Nat := (.string s.data.toList, .lit (.bool true))
open Go.WideElems in
theorem owns_of {w : World} {b : Nat} {names : List ByteArray} {es : List (Sx.Lit × Sx.Lit)} {e : Array MapEntry} {c : Nat} (hb : w.heap[b]? = some (.map e c)) (hm : mapOf es (e, c)) (hn : es.map (·.1) = names.map Sx.Lit.str) (hs : ∀ s ∈ names, s.size ≤ 1000) (hl : names.length ≤ 1000) :
    w.ownsMap Tryz.prog 9 Rany b 1000 (.map ((names.map keyL).foldr DataW.insert [])) := by
  obtain ⟨h1, h2⟩ := hm
  have u9 : Tryz.prog.underlying 9 = some .string := by kernel_rfl
  have hk : e.toList.map (·.key) = names.map Value.string := by
    have := congrArg (List.map Prod.fst) h1
    simp only [List.map_map] at this
    have h3 : es.map (fun x => x.1.val) = names.map Value.string := by
      have := congrArg (List.map Sx.Lit.val) hn
      simpa [List.map_map, Function.comp_def, Sx.Lit.val] using this
    simpa [Function.comp_def] using this.trans (by simpa [Function.comp_def] using h3)
  have hsz : e.size = names.length := by have := congrArg List.length hk; simpa using this
  have hrd : ∀ x ∈ e.toList, ∃ s ∈ names, x.key = .string s ∧ rd Tryz.prog 9 Rany x = some (keyL s) := by
    intro x hx
    have hx2 : x.key ∈ e.toList.map (·.key) := List.mem_map.2 ⟨x, hx, rfl⟩
    rw [hk] at hx2
    obtain ⟨s, hs2, hse⟩ := List.mem_map.1 hx2
    refine ⟨s, hs2, hse.symm, ?_⟩
    have hmax : s.size ≤ maxLen := Nat.le_trans (hs s hs2) (by decide)
    simp [rd, keyOf, u9, ← hse, mapKey, hmax, Rany, keyL]
  refine ⟨e, c, hb, ⟨by rw [hsz]; exact Nat.le_trans hl (by decide), h2, fun x hx => ?_⟩, by omega, ?_⟩
  · obtain ⟨s, _, _, h⟩ := hrd x hx; exact ⟨_, h⟩
  · congr 2
    have : e.toList.map (rg Tryz.prog 9 Rany) = e.toList.map (fun x => keyL (match x.key with | .string s => s | _ => ⟨#[]⟩)) := by
      refine List.map_congr_left fun x hx => ?_
      obtain ⟨s, _, hke, h⟩ := hrd x hx
      simp only [rg, h, Option.getD_some, hke]
    rw [this]
    have h4 : e.toList.map (fun x => keyL (match x.key with | .string s => s | _ => ⟨#[]⟩)) = (e.toList.map (·.key)).map (fun v => keyL (match v with | .string s => s | _ => ⟨#[]⟩)) := by rw [List.map_map]; rfl
    rw [h4, hk, List.map_map]
    rfl
theorem strKeys_perm (names : List ByteArray) : (strKeys (.map ((names.map keyL).foldr DataW.insert [])) : List (List UInt8)).Perm (names.map fun s => s.data.toList) := by
  have h := (Go.WideShapes.sorted_perm (names.map keyL)).map (fun p => Go.strOf p.1)
  rw [List.map_map] at h
  exact h
theorem sat_born {G : Gl} {Ps : List HP} {w w' : World} {b : Nat} {o : Obj} (h : Sat G Ps w) (hs : w.heap.size ≤ w'.heap.size) (he : ∀ b, b < w.heap.size → w'.heap[b]? = w.heap[b]?) (ei : io w' = io w) (hb : w.heap.size ≤ b) (ho : w'.heap[b]? = some o) : Sat G (pts b o :: Ps) w' := by
  have hsz := h.size
  refine ⟨Nat.le_trans hsz hs, ⟨ei.trans h.old.io, fun c hc => by rw [he c (by omega)]; exact h.old.old c hc⟩, ?_⟩
  refine ⟨fun c => if c = b then some o else none, ⟨by simp, fun c hc => by simp [hc]⟩, fun c x e => ?_, ?_⟩
  · by_cases hc : c = b
    · subst hc; simp at e; subst e; exact ⟨ho, by omega⟩
    · simp [hc] at e
  · refine SatR.mono h.sep fun c x e n => ?_
    have hc : c < w.heap.size := by
      rcases Nat.lt_or_ge c w.heap.size with y | y
      · exact y
      · simp only [hp] at e; rw [Array.getElem?_eq_none y] at e; cases e
    refine ⟨?_, fun y => y.elim n (fun u => ?_)⟩
    · simp only [hp] at e ⊢; rw [he c hc]; exact e
    · have hcb : c ≠ b := by omega
      simp [hcb] at u
variable {Pd : Type} {I : Pd → List Nat → HP}
def sortPre (es : List (Sx.Lit × Sx.Lit)) : List (Chunk Pd) := [.cells 1 68 [.map 0], .map 0 es]
theorem sorted_spec (names : List ByteArray) (es : List (Sx.Lit × Sx.Lit)) (hes : es.map (·.1) = names.map Sx.Lit.str) (hsz : ∀ s ∈ names, s.size ≤ 1000) (hl : names.length ≤ 1000) :
    Triple (BB I GOk) 184 2 3 [.fn (.func 194) [] [.ptr 1 0]] [.cells 1 68 [.map 0], .map 0 es]
    (fun K => ∀ ss : List ByteArray, ss.Perm names → (ss = [] → K (.ret .nilslice) [.cells 1 68 [.map 0], .map 0 es]) ∧
      (∀ (n cap : Nat) (cur : Array Value), n = ss.length → n ≤ cap → (∀ (i : Nat) (s : ByteArray), ss[i]? = some s → cur[i]? = some (Value.string s)) → K (.ret (.vec true 2 1 0 n cap)) [.cells 1 68 [.map 0], .map 0 es, .obj 2 (.cells cur 9 (0, 0))])) := by
  refine ⟨Tryz.call184, fun G hG K hK ρ F w hs => ?_⟩
  have hs2 : SatC I G ρ ([.map 0 es, .cells 1 68 [.map 0]] : List (Chunk Pd)) F w := hs.perm (List.Perm.swap _ _ _)
  have hc1 : w.heap[ρ 1]? = some (.cells #[.map (some (ρ 0))] 68 (0, 0)) := Sat.get hs
  obtain ⟨e, c, hm, hb⟩ := hs2.mapc
  have hown := owns_of hb hm hes hsz hl
  have hlt : ρ 1 < w.heap.size := by
    rcases Nat.lt_or_ge (ρ 1) w.heap.size with x | x
    · exact x
    · rw [Array.getElem?_eq_none x] at hc1; cases hc1
  have hcell : w.cell? ⟨ρ 1, 0, none⟩ = some (.map (some (ρ 0))) := by simp [World.cell?, hc1]
  have hD : Maps.size (.map ((names.map keyL).foldr DataW.insert []) : DataW Nat) = names.length := by
    show ((names.map keyL).foldr DataW.insert []).length = _
    rw [(Go.WideShapes.sorted_perm _).length_eq, List.length_map]
  have hcalls := sorted_calls (ρ 1) (ρ 0) 1000 _ Rany w hlt hcell hown (by rw [hD]; exact Nat.le_trans hl (by decide)) (by rw [hD]; omega)
  have hargs : (SV.denL ρ [SV.fn (.func 194) [] [.ptr 1 0]]).toArray = #[.func (.func 194) #[] #[.pointer (some ⟨ρ 1, 0, none⟩)]] := by simp [SV.denL, SV.den]
  rw [hargs]
  refine hcalls.mono ?_
  rintro en w' ⟨v, ss, rfl, hperm, hrow, hnil, hbel⟩
  have hp2 : ((ss.mergeSort (fun x y => decide (x ≤ y))).map bLs).Perm names := by
    have h1 := (((List.mergeSort_perm ss (fun x y => decide (x ≤ y))).trans hperm).trans (strKeys_perm names)).map bLs
    rw [List.map_map] at h1
    have : names.map (bLs ∘ fun s => s.data.toList) = names := by
      rw [List.map_congr_left (g := id) (fun s _ => by simp [bLs]), List.map_id]
    rw [this] at h1; exact h1
  have hlen : (ss.mergeSort (fun x y => decide (x ≤ y))).length = ss.length := (List.mergeSort_perm _ _).length_eq
  obtain ⟨hk1, hk2⟩ := hK _ hp2
  obtain ⟨hlx, hrow⟩ := hrow
  rcases hrow with ⟨rfl, h0⟩ | ⟨g, cap, cur, rfl, hg, hcur, hncap, -, hcs, htake⟩
  · have hnil2 : (ss.mergeSort (fun x y => decide (x ≤ y))).map bLs = [] := by
      rw [List.map_eq_nil_iff]; exact List.eq_nil_of_length_eq_zero (by rw [hlen]; exact h0)
    exact ⟨.ret .nilslice, _, ρ, rfl, hk1 hnil2, Ext.refl _ _, hs.grow hbel.size hbel.block (Prod.ext hbel.os hbel.output)⟩
  · have hρ : (upd1 ρ 2 g) 2 = g := by simp [upd1]
    have hs3 : SatC I G (upd1 ρ 2 g) ([.cells 1 68 [.map 0], .map 0 es] : List (Chunk Pd)) F w := hs.congr (p := belowB 2) rfl fun i hi => (upd1_ne (by have := belowB_lt hi; omega)).symm
    have hb3 := sat_born hs3 hbel.size hbel.block (Prod.ext hbel.os hbel.output) hg hcur
    have hs4 : SatC I G (upd1 ρ 2 g) ([.obj 2 (.cells cur 9 (0, 0)), .cells 1 68 [.map 0], .map 0 es] : List (Chunk Pd)) F w' := by
      show Sat G (pts ((upd1 ρ 2 g) 2) _ :: _) w'
      rw [hρ]; exact hb3
    have hs5 : SatC I G (upd1 ρ 2 g) ([.cells 1 68 [.map 0], .map 0 es, .obj 2 (.cells cur 9 (0, 0))] : List (Chunk Pd)) F w' := hs4.perm (((List.Perm.swap _ _ _).trans ((List.Perm.swap _ _ _).cons _)))
    refine ⟨.ret (.vec true 2 1 0 ss.length cap), _, upd1 ρ 2 g, ?_, hk2 ss.length cap cur (by rw [List.length_map, hlen]) hncap (fun i s hi => ?_), fun i hi => upd1_ne (by omega), hs5⟩
    · show _ = _
      simp [SV.den, hρ]
    · rw [List.getElem?_map] at hi
      cases hx : (ss.mergeSort (fun x y => decide (x ≤ y)))[i]? with
      | none => rw [hx] at hi; exact nomatch hi
      | some x =>
        rw [hx] at hi
        simp only [Option.map_some, Option.some.injEq] at hi
        subst hi
        have hilt : i < ss.length := by have := (List.getElem?_eq_some_iff.1 hx).1; omega
        have h6 : (cur.toList.take (ss.length * 1))[i]? = some (encStr x) := by rw [htake, List.getElem?_map, hx]; rfl
        rw [List.getElem?_take, if_pos (by omega)] at h6
        rw [← Array.getElem?_toList, h6]
        rfl
end Hx
