/-
  Part of a proof.
-/
import Derived.Test.YtafhlipcgbopnaaGreatDoorW21
import Derived.Test.YtafhlipcgbopnaaGreatDoorW16
set_option linter.unusedVariables false
set_option linter.unusedSimpArgs false
/- outline.machine.finish. -/
namespace Hx
open Go Sx Go.Proofs
set_option maxRecDepth 100000
set_option maxHeartbeats 4000000
set_option linter.unusedVariables false
set_option linter.unusedSimpArgs false
variable {GOk : Gl → Prop}
variable {right : Ev → Bool} {numRead : ByteArray → ByteArray × Int}
theorem saysM_opn {x : Ev} {a : Int} {s : OS} : (saysM right x a s).2.m.opn = s.m.opn := by
  unfold saysM; split
  · rfl
  · split
    · rfl
    · split <;> rfl
theorem finish_spec (hb : Below GOk right) (s : OS) (t : Bool) : Triple (BB Ip GOk) 146 2 2 [.ptr 0 0, .fn (.func 25) [.ptr 1 0] []] [.abs (.mch s.m t) [0, 1], .abs (.core s.c) [1, 0]]
    (fun K => PostL K (finishM right s)) := by
  obtain ⟨⟨ahead, line, chk, anc, opn, waits⟩, core⟩ := s
  refine triple_defer BB_ok (tb := ty) rfl (rs := [_, _]) (n0 := 6) (fun y : {cs' // Tm (.mch ⟨ahead, line, chk, anc, opn, waits⟩ t) cs'} => csRen (sg [0, 1] 2) y.1 ++ [.abs (.core core) [1, 0]]) pl146 Tryz.call146 Tryz.call152 Tryz.func146 rfl (by kernel_rfl) (by kernel_rfl) rfl rfl rfl rfl rfl rfl rfl rfl rfl rfl rfl rfl rfl rfl (pre_open rfl rfl rfl) ?_
  rintro G hG K hK W bi bc bs bk bu bb bo bg bl bp bn be Ncond Nob Nop Nloop Nscope hN ⟨cs', hT⟩
  obtain ⟨p, lo, len, cap, xs, q, lo2, len2, cap2, ys, tl, hv1, hv2, hl, htl, htl2, rfl⟩ := id hT
  simp only at hv1 hv2 hl
  have hmc : Tm (.mch ⟨ahead, line, chk, anc, opn, waits⟩ true) [.cells 0 55 [.int .i64 (Int.ofNat ahead), .vec p 2 1 lo len cap, .ptr 4 0, .ptr 5 0, .vec q 3 2 lo2 len2 cap2, .bool waits, .fn (.func 25) [.ptr 1 0] []], .arr p true 2 5 encB xs, .arr q true 3 224 encK ys, .abs (.chk chk) [4], .abs (.anc anc) [5]] :=
    ⟨p, lo, len, cap, xs, q, lo2, len2, cap2, ys, _, hv1, hv2, hl, fun _ => rfl, (fun h => nomatch h), rfl⟩
  have htl3 : tl = .fn (.func 25) [.ptr 1 0] [] ∨ tl = .nilfn := by cases t with
    | true => exact .inl (htl rfl)
    | false => exact .inr (htl2 rfl)
  clear htl htl2
  rcases htl3 with rfl | rfl
  all_goals
    cbv
    refine ⟨[.ptr 6 0], 6, rfl, rfl, rfl, rfl, ?_⟩
    clear hN
    intro D kv W bi bc bs bk bu bb bo bg bl bp bn be Ncond Nob Nop Nloop Nscope hN
    cbv
    refine op_ hN (op_close rfl (.mch ⟨ahead, line, chk, anc, opn, waits⟩ true) [0, 1] [2, 3, 4, 5] _ hmc rfl rfl (nodeD ?_))
    refine call_ (nothing_spec hb ⟨⟨ahead, line, chk, anc, opn, waits⟩, core⟩ 0) hG [0, 1] rfl rfl rfl rfl rfl ?_
    simp only [finishM, finishO, OM.bind] at hK
    generalize nothingM right 0 ⟨⟨ahead, line, chk, anc, opn, waits⟩, core⟩ = y at hK ⊢
    obtain ⟨r, s1⟩ := y
    cases r with
    | err e a =>
      simp only at hK
      by_cases hea : e ≤ 0
      · rw [if_pos hea] at hK; exact hK.elim
      rw [if_neg hea] at hK
      cbv
      exact ⟨(flt e a).den id, fun _ => rfl, dend_ (finish_cl_pan e a (by omega)) hG [6] rfl rfl rfl rfl rfl rfl ⟨_, rfl, fin_ [] rfl rfl hK⟩⟩
    | ovf => exact hK.elim
    | ok u =>
      simp only at hK
      generalize s1.m.opn.length + 1 = N at hK
      cbv
      clear hv1 hv2 hl hT hmc
      refine loopN_ hN (loop_ hN ty_ok mixed (ι := OS × Nat) (fun y => ⟨[(0, .ptr 0 0), (4, .ptr 6 0)], [.cells 6 25 [.int .i64 0], .abs (.mch y.1.m true) [0, 1], .abs (.core y.1.c) [1, 0]], 7⟩)
        (fun y => endsAll right y.2 y.1 = endsAll right N s1) (fun y => y.2) ?_ ?_)
      · exact Leads.idx (s1, N) [] rfl ⟨⟨rfl, rfl, trivial⟩, rfl, Nat.le_of_ble_eq_true rfl⟩
      rintro ⟨s2, n⟩ hn2 Nnext hn _
      simp only at hn2
      rw [← hn2] at hK
      cases n with
      | zero => rw [endsAll] at hK; exact hK.elim
      | succ n =>
        rw [endsAll] at hK hn2
        obtain ⟨⟨ahead, line, chk, anc, opn, waits⟩, core⟩ := s2
        simp only at hK hn2
        cbv
        refine op_ hN (op_open rfl 0 4 rfl rfl rfl rfl ?_)
        rintro _ ⟨p, lo, len, cap, xs, q, lo2, len2, cap2, ys, tl, hv1, hv2, hl, htl, -, rfl⟩
        obtain rfl := htl rfl
        simp only at hv1 hv2 hl
        have hmc : ∀ chk anc w, Tm (.mch ⟨ahead, line, chk, anc, opn, w⟩ true) [.cells 0 55 [.int .i64 (Int.ofNat ahead), .vec p 2 1 lo len cap, .ptr 4 0, .ptr 5 0, .vec q 3 2 lo2 len2 cap2, .bool w, .fn (.func 25) [.ptr 1 0] []], .arr p true 2 5 encB xs, .arr q true 3 224 encK ys, .abs (.chk chk) [4], .abs (.anc anc) [5]] :=
          fun chk anc w => ⟨p, lo, len, cap, xs, q, lo2, len2, cap2, ys, _, hv1, hv2, hl, fun _ => rfl, (fun h => nomatch h), rfl⟩
        refine load_ ty_ok rfl ?_
        cases opn with
        | nil =>
          obtain rfl : len2 = 0 := by have := hv2.length; simpa using this.symm
          simp only at hK
          cbv
          refine cond_F hN (by rw [cgt hN]; simp) ?_
          cbv
          refine op_ hN (nodeD ?_)
          refine call_ (done_spec chk) hG [9] rfl rfl rfl rfl rfl ?_
          intro b hbd
          have hbd : b = chkDone chk := hbd
          rw [← hbd] at hK
          cases b with
          | true =>
            rw [if_pos rfl] at hK
            cbv
            refine cond_F hN rfl ?_
            cbv
            exact dend_ (finish_cl_ret 0 (by simp)) hG [6] rfl rfl rfl rfl rfl rfl ⟨_, rfl, fin_close rfl (.mch ⟨ahead, line, chk, anc, [], waits⟩ true) [0, 1] [7, 8, 9, 10] _ (hmc chk anc waits) rfl (fin_ [] rfl rfl hK)⟩
          | false =>
            rw [if_neg (by simp)] at hK
            cbv
            refine cond_T hN rfl ?_
            cbv
            exact dend_ (finish_cl_ret 2 (by simp)) hG [6] rfl rfl rfl rfl rfl rfl ⟨_, rfl, fin_close rfl (.mch ⟨ahead, line, chk, anc, [], waits⟩ true) [0, 1] [7, 8, 9, 10] _ (hmc chk anc waits) rfl (fin_ [] rfl rfl hK)⟩
        | cons x l =>
          have hlen2 : len2 ≠ 0 := by have := hv2.length; simp at this; omega
          simp only at hK hn2
          cbv
          refine cond_T hN (by rw [cgt hN]; simp; omega) ?_
          cbv
          refine op_ hN (op_close rfl (.mch ⟨ahead, line, chk, anc, x :: l, waits⟩ true) [0, 1] [7, 8, 9, 10] _ (hmc chk anc waits) rfl rfl (nodeD ?_))
          refine call_ (ends_spec hb ⟨⟨ahead, line, chk, anc, x :: l, waits⟩, core⟩ 0 x l rfl) hG [0, 1] rfl rfl rfl rfl rfl ?_
          simp only [OM.bind] at hK hn2
          generalize endsM right 0 ⟨⟨ahead, line, chk, anc, x :: l, waits⟩, core⟩ = y at hK hn2 ⊢
          obtain ⟨r, s'⟩ := y
          cases r with
          | err e a =>
            simp only at hK
            by_cases hea : e ≤ 0
            · rw [if_pos hea] at hK; exact hK.elim
            rw [if_neg hea] at hK
            cbv
            exact ⟨(flt e a).den id, fun _ => rfl, dend_ (finish_cl_pan e a (by omega)) hG [6] rfl rfl rfl rfl rfl rfl ⟨_, rfl, fin_ [] rfl rfl hK⟩⟩
          | ovf => exact hK.elim
          | ok u =>
            simp only at hK hn2
            cbv
            exact hn _ (Leads.nxt (s', n) [] hn2 (Nat.lt_succ_self n) ⟨⟨rfl, rfl, trivial⟩, rfl, Nat.le_of_ble_eq_true rfl⟩)
end Hx
