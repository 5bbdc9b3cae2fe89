/-
  Part of a proof.
-/
import Derived.Test.YtafhlipcgbopnaaGreatDoorW16
import Derived.Test.YtafhlipcgbopnaaGreatDoorW03
set_option linter.unusedVariables false
set_option linter.unusedSimpArgs false
/- outline.machine.opens. -/
namespace Hx
open Go Sx Go.Proofs
set_option maxRecDepth 100000
set_option maxHeartbeats 4000000
set_option linter.unusedVariables false
set_option linter.unusedSimpArgs false
variable {GOk : Gl → Prop}
variable {right : Ev → Bool} {numRead : ByteArray → ByteArray × Int}
/-- behind a function on a row that gives nothing, and moves nothing -/
def PostU (t : ByteArray) (a g : Nat) (K : Out → List (Chunk Pd) → Prop) : Res Unit × OS → Prop
  | (.ok _, s) => K (.ret (.tuple [])) (rc s t a g)
  | (.err e at_, s) => K (.pan (flt e at_)) (oc s)
  | (.ovf, _) => False
/-- what opens tells -/
def opensT (right : Ev → Bool) (kind : Int) (a stands : Nat) : OM Unit := OM.bind (saysM right (ev0 kind) (Int.ofNat a)) fun _ s => if s.m.opn.length ≥ 1000 then (.ovf, s) else (.ok (), { s with m := { s.m with opn := (kind, stands) :: s.m.opn } })
theorem opensM_item {t : ByteArray} {a : Nat} (hi : isItemB t a = true) (stands : Nat) (s : OS) : opensM right t a stands s = if s.m.opn.length ≥ 1000 then (.ovf, s) else opensT right 5 a stands s := by
  unfold opensM opensT; rw [hi]; simp only [Bool.not_true, Bool.false_and, Bool.false_eq_true, if_true, if_false]
theorem opensM_bad {t : ByteArray} {a : Nat} (hi : isItemB t a = false) (stands : Nat) (s : OS) (h1 : bt t (Int.ofNat a) ≠ 34) (h2 : localOk (Utf8.encode (bt t (Int.ofNat a))) = false) : opensM right t a stands s = (.err 2 (Int.ofNat a), s) := by
  unfold opensM; rw [hi, if_pos (by rw [h2]; simpa using h1)]
theorem opensM_ok {t : ByteArray} {a : Nat} (hi : isItemB t a = false) (stands : Nat) (s : OS) (h1 : bt t (Int.ofNat a) = 34 ∨ localOk (Utf8.encode (bt t (Int.ofNat a))) = true) : opensM right t a stands s = if s.m.opn.length ≥ 1000 then (.ovf, s) else opensT right 7 a stands s := by
  unfold opensM opensT
  rw [hi, if_neg (by rcases h1 with h | h <;> rw [h] <;> simp)]
  simp only [Bool.false_eq_true, if_false]
theorem opens_spec (hb : Below GOk right) (s : OS) (t : ByteArray) (a stands g : Nat) (ht : t.size < 1000000) (ha : a < t.size) : Triple (BB Ip GOk) 163 3 3 [.ptr 0 0, .ptr 2 0, .int .i64 (Int.ofNat stands)] (rc s t a g)
    (fun K => PostU t a g K (opensM right t a stands s)) := by
  refine triple_of BB_ok (tb := ty) rfl (n0 := 3) (fun _ : Unit => _) pl163 Tryz.call163 Tryz.func163 rfl (by kernel_rfl) (Nat.le_of_ble_eq_true rfl) (by decide) rfl pre_none ?_
  rintro G hG K hK W bi bc bs bk bu bb bo bg bl bp bn be Ncond Nob Nop Nloop Nscope hN Nfin hf _ _
  have hbu : bu t (Int.ofNat a) (bn t) = subs t (Int.ofNat a) (Int.ofNat t.size) := by rw [bu_ hN, len_eq hN]; rfl
  have hbb : bb t (Int.ofNat a) = bt t (Int.ofNat a) := by rw [bb_ hN]
  have hob1 : obsP [.le3 (Int.ofNat a) (bn t) (bn t)] := ⟨⟨by simp, by rw [len_eq hN]; simp; omega, Int.le_refl _⟩, trivial⟩
  have hob2 : obsP [.inb (Int.ofNat a) (bn t)] := ⟨⟨by simp, by rw [len_eq hN]; simp; omega⟩, trivial⟩
  cbv
  repeat' (first | exact True.intro | with_reducible refine dup ?_ | refine And.intro ?_ ?_ | (refine ob_ hN hob1 ?_; cbv))
  all_goals
    simp only [hbu]
    refine op_ hN (call_ (isItem_spec (subs t (Int.ofNat a) (Int.ofNat t.size))) hG [] rfl rfl rfl rfl rfl ?_)
    intro m hm
    obtain ⟨ki, hki⟩ : ∃ x, x = subs t (Int.ofNat a) (Int.ofNat t.size) := ⟨_, rfl⟩
    rw [← hki] at hm ⊢
    cases m with
    | true =>
      cbv
      refine cond_ hN (fun _ => ?_) (fun h => by simp at h)
      cbv
      repeat' (first | exact True.intro | with_reducible refine dup ?_ | refine And.intro ?_ ?_ | (refine ob_ hN hob2 ?_; cbv))
      all_goals
        refine cond_F hN (by rw [ceq hN]; decide) ?_
        have hM : opensM right t a stands s = if s.m.opn.length ≥ 1000 then (.ovf, s) else opensT right 5 a stands s := by
          have hi : isItemB t a = true := by rw [isItemB, ← hki, ← hm]
          exact opensM_item hi stands s
        cbv
        by_cases h1000 : s.m.opn.length ≥ 1000
        · rw [if_pos h1000] at hM; rw [hM] at hK; exact hK.elim
        rw [if_neg h1000] at hM
        rw [hM] at hK
        clear hM
        refine op_ hN (call_ (says_spec hb s (ev0 5) (Int.ofNat a) (okE0 5 (by decide) (by decide))) hG [0, 1] rfl rfl rfl rfl rfl ?_)
        simp only [opensT, OM.bind] at hK
        generalize saysM right (ev0 5) (Int.ofNat a) s = y at hK ⊢
        obtain ⟨r, s'⟩ := y
        cases r with
        | err e a => cbv; exact hf _ _ (fin_ [] rfl rfl hK)
        | ovf => exact hK.elim
        | ok u =>
          simp only at hK
          obtain ⟨⟨ahead, line, chk, anc, opn, waits⟩, core⟩ := s'
          simp only at hK
          by_cases h1000 : opn.length ≥ 1000
          · rw [if_pos h1000] at hK; exact hK.elim
          rw [if_neg h1000] at hK
          cbv
          refine op_ hN (op_open rfl 0 4 rfl rfl rfl rfl ?_)
          rintro _ ⟨p, lo, len, cap, xs, q, lo2, len2, cap2, ys, tl, hv1, hv2, hl, htl, -, rfl⟩
          obtain rfl := htl rfl
          simp only at hv1 hv2 hl
          have hmc : ∀ chk anc w, Tm (.mch ⟨ahead, line, chk, anc, opn, w⟩ true) [.cells 0 55 [.int .i64 (Int.ofNat ahead), .vec p 2 1 lo len cap, .ptr 4 0, .ptr 5 0, .vec q 3 2 lo2 len2 cap2, .bool w, .fn (.func 25) [.ptr 1 0] []], .arr p true 2 5 encB xs, .arr q true 3 224 encK ys, .abs (.chk chk) [4], .abs (.anc anc) [5]] :=
            fun chk anc w => ⟨p, lo, len, cap, xs, q, lo2, len2, cap2, ys, _, hv1, hv2, hl, fun _ => rfl, (fun h => nomatch h), rfl⟩
          refine load_ ty_ok rfl ?_
          cbv
          repeat' (first | exact True.intro | with_reducible refine dup ?_ | refine And.intro ?_ ?_)
          all_goals
            have hlen2 := hv2.length
            simp only [List.length_reverse] at hlen2
            refine op_ hN (append_vec (new := [((5 : Int), stands)]) (z := (0, 0)) ty_ok rfl rfl rfl rfl (fun k => by simp) rfl rfl wideK rfl rfl (src_cells wideK rfl (fun _ _ _ _ => rfl) rfl) hv2.pr hv2.room hv2.fits (by simp; omega) (by decide) ?_)
            intro p' lo' m' cap' xs' hm' e1 e2 e3 e4
            cbv
            repeat' (first | exact True.intro | with_reducible refine dup ?_ | refine And.intro ?_ ?_)
            all_goals
              refine hf _ _ (fin_close rfl (.mch ⟨ahead, line, chk, anc, (5, stands) :: opn, waits⟩ true) [0, 1] [23, 28, 25, 26] _ ⟨p, lo, len, cap, xs, p', lo', m', cap', xs', _, hv1, ⟨e1, e2, e3, by rw [e4, hv2.eq, List.reverse_cons]⟩, ⟨hl.1, by simp only [List.length_cons]; omega⟩, fun _ => rfl, (fun h => nomatch h), rfl⟩ rfl (fin_ [] rfl rfl hK))
    | false =>
      cbv
      refine cond_ hN (fun h => by simp at h) (fun _ => ?_)
      cbv
      repeat' (first | exact True.intro | with_reducible refine dup ?_ | refine And.intro ?_ ?_ | (refine ob_ hN hob2 ?_; cbv))
      all_goals
        have hi : isItemB t a = false := by rw [isItemB, ← hki, ← hm]
        generalize hx : bb t (Int.ofNat a) = x
        rw [hbb] at hx
        have hx := hx.symm
        refine cond_T hN (by rw [ceq hN]; decide) ?_
        · cbv
          refine cond_ hN (fun h => ?_) (fun h => ?_)
          · rw [cne hN] at h
            have hE : Utf8.encode (bt t (Int.ofNat a)) = Utf8.encode x := by rw [hx]
            have hbe : be x = Utf8.encode x := by rw [be_ hN]
            cbv
            generalize be x = e at hbe ⊢
            rw [← hbe] at hE
            refine op_ hN (call_ (local_spec e) hG [] rfl rfl rfl rfl rfl ?_)
            intro l hl
            cases l with
            | true =>
              have hM : opensM right t a stands s = if s.m.opn.length ≥ 1000 then (.ovf, s) else opensT right 7 a stands s := by
                exact opensM_ok hi stands s (.inr (by rw [hE, ← hl]))
              cbv
              refine cond_ hN (fun h => by simp at h) (fun _ => ?_)
              cbv
              by_cases h1000 : s.m.opn.length ≥ 1000
              · rw [if_pos h1000] at hM; rw [hM] at hK; exact hK.elim
              rw [if_neg h1000] at hM
              rw [hM] at hK
              clear hM
              refine op_ hN (call_ (says_spec hb s (ev0 7) (Int.ofNat a) (okE0 7 (by decide) (by decide))) hG [0, 1] rfl rfl rfl rfl rfl ?_)
              simp only [opensT, OM.bind] at hK
              generalize saysM right (ev0 7) (Int.ofNat a) s = y at hK ⊢
              obtain ⟨r, s'⟩ := y
              cases r with
              | err e a => cbv; exact hf _ _ (fin_ [] rfl rfl hK)
              | ovf => exact hK.elim
              | ok u =>
                simp only at hK
                obtain ⟨⟨ahead, line, chk, anc, opn, waits⟩, core⟩ := s'
                simp only at hK
                by_cases h1000 : opn.length ≥ 1000
                · rw [if_pos h1000] at hK; exact hK.elim
                rw [if_neg h1000] at hK
                cbv
                refine op_ hN (op_open rfl 0 4 rfl rfl rfl rfl ?_)
                rintro _ ⟨p, lo, len, cap, xs, q, lo2, len2, cap2, ys, tl, hv1, hv2, hl, htl, -, rfl⟩
                obtain rfl := htl rfl
                simp only at hv1 hv2 hl
                have hmc : ∀ chk anc w, Tm (.mch ⟨ahead, line, chk, anc, opn, w⟩ true) [.cells 0 55 [.int .i64 (Int.ofNat ahead), .vec p 2 1 lo len cap, .ptr 4 0, .ptr 5 0, .vec q 3 2 lo2 len2 cap2, .bool w, .fn (.func 25) [.ptr 1 0] []], .arr p true 2 5 encB xs, .arr q true 3 224 encK ys, .abs (.chk chk) [4], .abs (.anc anc) [5]] :=
                  fun chk anc w => ⟨p, lo, len, cap, xs, q, lo2, len2, cap2, ys, _, hv1, hv2, hl, fun _ => rfl, (fun h => nomatch h), rfl⟩
                refine load_ ty_ok rfl ?_
                cbv
                repeat' (first | exact True.intro | with_reducible refine dup ?_ | refine And.intro ?_ ?_)
                all_goals
                  have hlen2 := hv2.length
                  simp only [List.length_reverse] at hlen2
                  refine op_ hN (append_vec (new := [((7 : Int), stands)]) (z := (0, 0)) ty_ok rfl rfl rfl rfl (fun k => by simp) rfl rfl wideK rfl rfl (src_cells wideK rfl (fun _ _ _ _ => rfl) rfl) hv2.pr hv2.room hv2.fits (by simp; omega) (by decide) ?_)
                  intro p' lo' m' cap' xs' hm' e1 e2 e3 e4
                  cbv
                  repeat' (first | exact True.intro | with_reducible refine dup ?_ | refine And.intro ?_ ?_)
                  all_goals
                    refine hf _ _ (fin_close rfl (.mch ⟨ahead, line, chk, anc, (7, stands) :: opn, waits⟩ true) [0, 1] [23, 28, 25, 26] _ ⟨p, lo, len, cap, xs, p', lo', m', cap', xs', _, hv1, ⟨e1, e2, e3, by rw [e4, hv2.eq, List.reverse_cons]⟩, ⟨hl.1, by simp only [List.length_cons]; omega⟩, fun _ => rfl, (fun h => nomatch h), rfl⟩ rfl (fin_ [] rfl rfl hK))
            | false =>
              have hM : opensM right t a stands s = (.err 2 (Int.ofNat a), s) := by
                exact opensM_bad hi stands s (by rw [← hx]; simpa using h) (by rw [hE, ← hl])
              cbv
              refine cond_ hN (fun _ => ?_) (fun h => by simp at h)
              cbv
              refine op_ hN (call_ (bad_spec t a (tellV g)) hG [2] rfl rfl rfl rfl rfl ?_)
              rw [hM] at hK
              cbv
              exact hf _ _ (fin_ [] rfl rfl hK)
          · rw [cne hN] at h
            have hM : opensM right t a stands s = if s.m.opn.length ≥ 1000 then (.ovf, s) else opensT right 7 a stands s := by
              exact opensM_ok hi stands s (.inl (by rw [← hx]; simpa using h))
            cbv
            by_cases h1000 : s.m.opn.length ≥ 1000
            · rw [if_pos h1000] at hM; rw [hM] at hK; exact hK.elim
            rw [if_neg h1000] at hM
            rw [hM] at hK
            clear hM
            refine op_ hN (call_ (says_spec hb s (ev0 7) (Int.ofNat a) (okE0 7 (by decide) (by decide))) hG [0, 1] rfl rfl rfl rfl rfl ?_)
            simp only [opensT, OM.bind] at hK
            generalize saysM right (ev0 7) (Int.ofNat a) s = y at hK ⊢
            obtain ⟨r, s'⟩ := y
            cases r with
            | err e a => cbv; exact hf _ _ (fin_ [] rfl rfl hK)
            | ovf => exact hK.elim
            | ok u =>
              simp only at hK
              obtain ⟨⟨ahead, line, chk, anc, opn, waits⟩, core⟩ := s'
              simp only at hK
              by_cases h1000 : opn.length ≥ 1000
              · rw [if_pos h1000] at hK; exact hK.elim
              rw [if_neg h1000] at hK
              cbv
              refine op_ hN (op_open rfl 0 4 rfl rfl rfl rfl ?_)
              rintro _ ⟨p, lo, len, cap, xs, q, lo2, len2, cap2, ys, tl, hv1, hv2, hl, htl, -, rfl⟩
              obtain rfl := htl rfl
              simp only at hv1 hv2 hl
              have hmc : ∀ chk anc w, Tm (.mch ⟨ahead, line, chk, anc, opn, w⟩ true) [.cells 0 55 [.int .i64 (Int.ofNat ahead), .vec p 2 1 lo len cap, .ptr 4 0, .ptr 5 0, .vec q 3 2 lo2 len2 cap2, .bool w, .fn (.func 25) [.ptr 1 0] []], .arr p true 2 5 encB xs, .arr q true 3 224 encK ys, .abs (.chk chk) [4], .abs (.anc anc) [5]] :=
                fun chk anc w => ⟨p, lo, len, cap, xs, q, lo2, len2, cap2, ys, _, hv1, hv2, hl, fun _ => rfl, (fun h => nomatch h), rfl⟩
              refine load_ ty_ok rfl ?_
              cbv
              repeat' (first | exact True.intro | with_reducible refine dup ?_ | refine And.intro ?_ ?_)
              all_goals
                have hlen2 := hv2.length
                simp only [List.length_reverse] at hlen2
                refine op_ hN (append_vec (new := [((7 : Int), stands)]) (z := (0, 0)) ty_ok rfl rfl rfl rfl (fun k => by simp) rfl rfl wideK rfl rfl (src_cells wideK rfl (fun _ _ _ _ => rfl) rfl) hv2.pr hv2.room hv2.fits (by simp; omega) (by decide) ?_)
                intro p' lo' m' cap' xs' hm' e1 e2 e3 e4
                cbv
                repeat' (first | exact True.intro | with_reducible refine dup ?_ | refine And.intro ?_ ?_)
                all_goals
                  refine hf _ _ (fin_close rfl (.mch ⟨ahead, line, chk, anc, (7, stands) :: opn, waits⟩ true) [0, 1] [23, 28, 25, 26] _ ⟨p, lo, len, cap, xs, p', lo', m', cap', xs', _, hv1, ⟨e1, e2, e3, by rw [e4, hv2.eq, List.reverse_cons]⟩, ⟨hl.1, by simp only [List.length_cons]; omega⟩, fun _ => rfl, (fun h => nomatch h), rfl⟩ rfl (fin_ [] rfl rfl hK))
end Hx
