/-
  Part of a proof.
-/
import Derived.Test.YtlmbbchfaoeebaaGreatDoorV21
import Derived.Test.YtlmbbchfaoeebaaGreatDoorV22
import Derived.Test.YtlmbbchfaoeebaaGreatDoorV16
import Derived.Test.YtlmbbchfaoeebaaGreatDoorV03
import Derived.Stop.Asserts
set_option linter.unusedVariables false
set_option linter.unusedSimpArgs false
/- angle.machine: attributes, tagged, Step, End: the walks. -/
namespace Hx
open Go Sx Go.Proofs
set_option maxRecDepth 100000
set_option maxHeartbeats 4000000
set_option linter.unusedVariables false
set_option linter.unusedSimpArgs false
variable {GOk : Gl → Prop}
variable {right : Ev → Bool}
theorem named_a (hTab : GTab GOk) (hr : RgtOk GOk right) (attr : UInt8 → AM) (x : UInt8) (b : Int) (hb : bOf x = b) (hA : ∀ s, Triple (BB Ip GOk) 203 2 2 [.ptr 0 0, .int .u8 b] (ocA s) (fun K => PostN K (attr x s))) (s : OS Ang) :
    Triple (BB Ip GOk) 200 2 2 [.ptr 0 0, .int .u8 b] (ocA s) (fun K => PostN K (angNamed right attr x s)) := by
  cases hc : (cutB s.m.token wColon).2.2 with
  | true => exact named_true hTab hr attr x b hb hA s hc
  | false => exact named_false hTab hr attr x b hb hA s hc
theorem attr_a (hTab : GTab GOk) (hr : RgtOk GOk right) (s : OS Ang) (x : UInt8) (b : Int) (hb : bOf x = b) : Triple (BB Ip GOk) 203 2 2 [.ptr 0 0, .int .u8 b] (ocA s) (fun K => PostN K (angAttr right x s)) := by
  obtain ⟨⟨state, back, chk, scope, ent, token, text, rest, gap, opn, pairs⟩, core⟩ := s
  refine triple_of BB_ok (tb := ty) rfl (n0 := 7) (fun y : {cs' // Tm (.ang ⟨state, back, chk, scope, ent, token, text, rest, gap, opn, pairs⟩ true) cs'} => csRen (sg [0, 1] 2) y.1 ++ [.abs (.core core 69 48) [1, 0]]) pl203 Tryz.call203 Tryz.func203 rfl (by kernel_rfl) (Nat.le_of_ble_eq_true rfl) (by decide) rfl (pre_open rfl rfl rfl) ?_
  rintro G hG K hK W bi bc bs bk bu bb bo bg bl bp bn be Ncond Nob Nop Nloop Nscope hN Nfin hf _ ⟨cs', hT⟩
  obtain ⟨p, lo, len, cap, xs, q, lo2, len2, cap2, ys, tl, hv1, hv2, hok, htl, -, rfl⟩ := id hT
  obtain rfl := htl rfl
  simp only at hv1 hv2 hok
  simp only [angAttr, hb] at hK
  cbv
  refine op_ hN (call_ (blank_a b) hG [] rfl rfl rfl rfl rfl ?_)
  intro c hc
  rw [← hc] at hK
  clear hc
  cases c with
  | true =>
    rw [if_pos rfl] at hK
    cbv
    refine cond_T hN rfl ?_
    cbv
    exact hf _ _ (fin_cput 0 [.int .i64 state, .int .i64 back, .ptr 4 0, .ptr 5 0, .ptr 6 0, .str token, .str text, .str rest, .bool true, .vec p 2 1 lo len cap, .vec q 3 2 lo2 len2 cap2, .fn (.func 31) [.ptr 1 0] []] rfl (fun _ => rfl) (fin_close rfl (.ang ⟨state, back, chk, scope, ent, token, text, rest, true, opn, pairs⟩ true) [0, 1] [2, 3, 4, 5, 6] _ (angTm hv1 hv2 hok) rfl (fin_ [] rfl rfl hK)))
  | false =>
    rw [if_neg (by decide)] at hK
    cbv
    refine cond_F hN rfl ?_
    cbv
    refine cond_ hN ?_ ?_ <;> intro h1 <;> rw [ceq hN] at h1
    · rw [if_pos (of_decide_eq_true h1)] at hK
      cbv
      refine op_ hN (op_close rfl (.ang ⟨12, back, chk, scope, ent, token, text, rest, gap, opn, pairs⟩ true) [0, 1] [2, 3, 4, 5, 6] _ (angTm hv1 hv2 hok) rfl rfl ?_)
      refine call_ (opens_a hTab hr ⟨⟨12, back, chk, scope, ent, token, text, rest, gap, opn, pairs⟩, core⟩) hG [0, 1] rfl rfl rfl rfl rfl ?_
      have hK2 := hK
      clear hK
      change PostN _ (angOpens right ⟨⟨12, back, chk, scope, ent, token, text, rest, gap, opn, pairs⟩, core⟩) at hK2
      change PostN _ (angOpens right ⟨⟨12, back, chk, scope, ent, token, text, rest, gap, opn, pairs⟩, core⟩)
      generalize angOpens right ⟨⟨12, back, chk, scope, ent, token, text, rest, gap, opn, pairs⟩, core⟩ = y at hK2 ⊢
      cases y with
      | none => exact hK2.elim
      | some y =>
        obtain ⟨e, s2⟩ := y
        cbv
        exact hf _ _ (fin_ [] rfl rfl hK2)
    · rw [if_neg (of_decide_eq_false h1)] at hK
      cbv
      refine cond_ hN ?_ ?_ <;> intro h2 <;> rw [ceq hN] at h2
      · rw [if_pos (of_decide_eq_true h2)] at hK
        cbv
        refine op_ hN (op_close rfl (.ang ⟨11, back, chk, scope, ent, token, text, rest, gap, opn, pairs⟩ true) [0, 1] [2, 3, 4, 5, 6] _ (angTm hv1 hv2 hok) rfl rfl ?_)
        refine call_ (opens_a hTab hr ⟨⟨11, back, chk, scope, ent, token, text, rest, gap, opn, pairs⟩, core⟩) hG [0, 1] rfl rfl rfl rfl rfl ?_
        have hK2 := hK
        clear hK
        change PostN _ (angOpens right ⟨⟨11, back, chk, scope, ent, token, text, rest, gap, opn, pairs⟩, core⟩) at hK2
        change PostN _ (angOpens right ⟨⟨11, back, chk, scope, ent, token, text, rest, gap, opn, pairs⟩, core⟩)
        generalize angOpens right ⟨⟨11, back, chk, scope, ent, token, text, rest, gap, opn, pairs⟩, core⟩ = y at hK2 ⊢
        cases y with
        | none => exact hK2.elim
        | some y =>
          obtain ⟨e, s2⟩ := y
          cbv
          exact hf _ _ (fin_ [] rfl rfl hK2)
      · rw [if_neg (of_decide_eq_false h2)] at hK
        cases gap with
        | false =>
          rw [if_pos rfl] at hK
          cbv
          refine cond_T hN rfl ?_
          cbv
          exact hf _ _ (fin_close rfl (.ang ⟨state, back, chk, scope, ent, token, text, rest, false, opn, pairs⟩ true) [0, 1] [2, 3, 4, 5, 6] _ (angTm hv1 hv2 hok) rfl (fin_ [] rfl rfl hK))
        | true =>
          rw [if_neg (fun h => nomatch h)] at hK
          cbv
          refine cond_F hN rfl ?_
          cbv
          refine op_ hN (op_close rfl (.ang ⟨8, back, chk, scope, ent, sEmp, text, rest, true, opn, pairs⟩ true) [0, 1] [2, 3, 4, 5, 6] _ (angTm hv1 hv2 hok.token0) rfl rfl ?_)
          refine call_ (named_a hTab hr (fun _ _ => none) x b hb (fun s => ⟨Tryz.call203, fun G hG K hK => hK.elim⟩) ⟨⟨8, back, chk, scope, ent, sEmp, text, rest, true, opn, pairs⟩, core⟩) hG [0, 1] rfl rfl rfl rfl rfl ?_
          have hK2 := hK
          clear hK
          change PostN _ (angNamed right (fun _ _ => none) x ⟨⟨8, back, chk, scope, ent, sEmp, text, rest, true, opn, pairs⟩, core⟩) at hK2
          change PostN _ (angNamed right (fun _ _ => none) x ⟨⟨8, back, chk, scope, ent, sEmp, text, rest, true, opn, pairs⟩, core⟩)
          generalize angNamed right (fun _ _ => none) x ⟨⟨8, back, chk, scope, ent, sEmp, text, rest, true, opn, pairs⟩, core⟩ = y at hK2 ⊢
          cases y with
          | none => exact hK2.elim
          | some y =>
            obtain ⟨e, s2⟩ := y
            cbv
            exact hf _ _ (fin_ [] rfl rfl hK2)
theorem name_a (hTab : GTab GOk) (hr : RgtOk GOk right) (s : OS Ang) (x : UInt8) (b : Int) (hb : bOf x = b) : Triple (BB Ip GOk) 200 2 2 [.ptr 0 0, .int .u8 b] (ocA s) (fun K => PostN K (angName right x s)) :=
  named_a hTab hr (angAttr right) x b hb (fun s => attr_a hTab hr s x b hb) s
theorem tagged_a (hTab : GTab GOk) (hr : RgtOk GOk right) (s : OS Ang) (x : UInt8) (b : Int) (hb : bOf x = b) : Triple (BB Ip GOk) 198 2 2 [.ptr 0 0, .int .u8 b] (ocA s) (fun K => PostN K (angTagged right x s)) := by
  obtain ⟨⟨state, back, chk, scope, ent, token, text, rest, gap, opn, pairs⟩, core⟩ := s
  refine triple_of BB_ok (tb := ty) rfl (n0 := 7) (fun y : {cs' // Tm (.ang ⟨state, back, chk, scope, ent, token, text, rest, gap, opn, pairs⟩ true) cs'} => csRen (sg [0, 1] 2) y.1 ++ [.abs (.core core 69 48) [1, 0]]) pl198 Tryz.call198 Tryz.func198 rfl (by kernel_rfl) (Nat.le_of_ble_eq_true rfl) (by decide) rfl (pre_open rfl rfl rfl) ?_
  rintro G hG K hK W bi bc bs bk bu bb bo bg bl bp bn be Ncond Nob Nop Nloop Nscope hN Nfin hf _ ⟨cs', hT⟩
  obtain ⟨p, lo, len, cap, xs, q, lo2, len2, cap2, ys, tl, hv1, hv2, hok, htl, -, rfl⟩ := id hT
  obtain rfl := htl rfl
  simp only at hv1 hv2 hok
  simp only [angTagged, hb] at hK
  have hlen := hv1.length
  cbv
  refine cond_ hN ?_ ?_ <;> intro h1 <;> rw [ceq hN] at h1
  · have h1 : b = 33 := of_decide_eq_true h1
    cbv
    refine cond_ hN ?_ ?_ <;> intro h4 <;> rw [ceq hN] at h4
    · have h4 : opn = [] := by
        have : Int.ofNat len = 0 := of_decide_eq_true h4
        exact List.eq_nil_of_length_eq_zero (by simp at this; omega)
      rw [if_pos ⟨h1, h4⟩] at hK
      cbv
      exact hf _ _ (fin_close rfl (.ang ⟨2, back, chk, scope, ent, token, text, wEntity, gap, opn, pairs⟩ true) [0, 1] [2, 3, 4, 5, 6] _ (angTm hv1 hv2 ⟨hok.tok, hok.txt, by decide, hok.ol, hok.pl, hok.os, hok.ps⟩) rfl (fin_ [] rfl rfl hK))
    · have h4 : opn ≠ [] := by
        intro e; rw [e] at hlen; simp at hlen; subst hlen; simp at h4
      rw [if_neg (fun h => h4 h.2)] at hK
      cbv
      refine cond_ hN ?_ ?_ <;> intro h2 <;> rw [ceq hN] at h2
      · have h2 : b = 47 := of_decide_eq_true h2
        cbv
        refine cond_ hN ?_ ?_ <;> intro h3 <;> rw [cgt hN] at h3
        · have h3 : opn ≠ [] := by
            intro e; rw [e] at hlen; simp at hlen; subst hlen; simp at h3
          rw [if_pos ⟨h2, h3⟩] at hK
          cbv
          exact hf _ _ (fin_close rfl (.ang ⟨13, back, chk, scope, ent, sEmp, text, rest, gap, opn, pairs⟩ true) [0, 1] [2, 3, 4, 5, 6] _ (angTm hv1 hv2 hok.token0) rfl (fin_ [] rfl rfl hK))
        · have h3 : opn = [] := by
            have : ¬ Int.ofNat len > 0 := of_decide_eq_false h3
            exact List.eq_nil_of_length_eq_zero (by simp at this; omega)
          rw [if_neg (fun h => h.2 h3)] at hK
          cbv
          refine op_ hN (op_close rfl (.ang ⟨6, back, chk, scope, ent, sEmp, text, rest, gap, opn, pairs⟩ true) [0, 1] [2, 3, 4, 5, 6] _ (angTm hv1 hv2 hok.token0) rfl rfl ?_)
          refine call_ (name_a hTab hr ⟨⟨6, back, chk, scope, ent, sEmp, text, rest, gap, opn, pairs⟩, core⟩ x b hb) hG [0, 1] rfl rfl rfl rfl rfl ?_
          have hK2 := hK
          clear hK
          change PostN _ (angName right x ⟨⟨6, back, chk, scope, ent, sEmp, text, rest, gap, opn, pairs⟩, core⟩) at hK2
          change PostN _ (angName right x ⟨⟨6, back, chk, scope, ent, sEmp, text, rest, gap, opn, pairs⟩, core⟩)
          generalize angName right x ⟨⟨6, back, chk, scope, ent, sEmp, text, rest, gap, opn, pairs⟩, core⟩ = y at hK2 ⊢
          cases y with
          | none => exact hK2.elim
          | some y =>
            obtain ⟨e, s2⟩ := y
            cbv
            exact hf _ _ (fin_ [] rfl rfl hK2)
      · rw [if_neg (fun h => of_decide_eq_false h2 h.1)] at hK
        cbv
        refine op_ hN (op_close rfl (.ang ⟨6, back, chk, scope, ent, sEmp, text, rest, gap, opn, pairs⟩ true) [0, 1] [2, 3, 4, 5, 6] _ (angTm hv1 hv2 hok.token0) rfl rfl ?_)
        refine call_ (name_a hTab hr ⟨⟨6, back, chk, scope, ent, sEmp, text, rest, gap, opn, pairs⟩, core⟩ x b hb) hG [0, 1] rfl rfl rfl rfl rfl ?_
        have hK2 := hK
        clear hK
        change PostN _ (angName right x ⟨⟨6, back, chk, scope, ent, sEmp, text, rest, gap, opn, pairs⟩, core⟩) at hK2
        change PostN _ (angName right x ⟨⟨6, back, chk, scope, ent, sEmp, text, rest, gap, opn, pairs⟩, core⟩)
        generalize angName right x ⟨⟨6, back, chk, scope, ent, sEmp, text, rest, gap, opn, pairs⟩, core⟩ = y at hK2 ⊢
        cases y with
        | none => exact hK2.elim
        | some y =>
          obtain ⟨e, s2⟩ := y
          cbv
          exact hf _ _ (fin_ [] rfl rfl hK2)
  · rw [if_neg (fun h => of_decide_eq_false h1 h.1)] at hK
    cbv
    refine cond_ hN ?_ ?_ <;> intro h2 <;> rw [ceq hN] at h2
    · have h2 : b = 47 := of_decide_eq_true h2
      cbv
      refine cond_ hN ?_ ?_ <;> intro h3 <;> rw [cgt hN] at h3
      · have h3 : opn ≠ [] := by
          intro e; rw [e] at hlen; simp at hlen; subst hlen; simp at h3
        rw [if_pos ⟨h2, h3⟩] at hK
        cbv
        exact hf _ _ (fin_close rfl (.ang ⟨13, back, chk, scope, ent, sEmp, text, rest, gap, opn, pairs⟩ true) [0, 1] [2, 3, 4, 5, 6] _ (angTm hv1 hv2 hok.token0) rfl (fin_ [] rfl rfl hK))
      · have h3 : opn = [] := by
          have : ¬ Int.ofNat len > 0 := of_decide_eq_false h3
          exact List.eq_nil_of_length_eq_zero (by simp at this; omega)
        rw [if_neg (fun h => h.2 h3)] at hK
        cbv
        refine op_ hN (op_close rfl (.ang ⟨6, back, chk, scope, ent, sEmp, text, rest, gap, opn, pairs⟩ true) [0, 1] [2, 3, 4, 5, 6] _ (angTm hv1 hv2 hok.token0) rfl rfl ?_)
        refine call_ (name_a hTab hr ⟨⟨6, back, chk, scope, ent, sEmp, text, rest, gap, opn, pairs⟩, core⟩ x b hb) hG [0, 1] rfl rfl rfl rfl rfl ?_
        have hK2 := hK
        clear hK
        change PostN _ (angName right x ⟨⟨6, back, chk, scope, ent, sEmp, text, rest, gap, opn, pairs⟩, core⟩) at hK2
        change PostN _ (angName right x ⟨⟨6, back, chk, scope, ent, sEmp, text, rest, gap, opn, pairs⟩, core⟩)
        generalize angName right x ⟨⟨6, back, chk, scope, ent, sEmp, text, rest, gap, opn, pairs⟩, core⟩ = y at hK2 ⊢
        cases y with
        | none => exact hK2.elim
        | some y =>
          obtain ⟨e, s2⟩ := y
          cbv
          exact hf _ _ (fin_ [] rfl rfl hK2)
    · rw [if_neg (fun h => of_decide_eq_false h2 h.1)] at hK
      cbv
      refine op_ hN (op_close rfl (.ang ⟨6, back, chk, scope, ent, sEmp, text, rest, gap, opn, pairs⟩ true) [0, 1] [2, 3, 4, 5, 6] _ (angTm hv1 hv2 hok.token0) rfl rfl ?_)
      refine call_ (name_a hTab hr ⟨⟨6, back, chk, scope, ent, sEmp, text, rest, gap, opn, pairs⟩, core⟩ x b hb) hG [0, 1] rfl rfl rfl rfl rfl ?_
      have hK2 := hK
      clear hK
      change PostN _ (angName right x ⟨⟨6, back, chk, scope, ent, sEmp, text, rest, gap, opn, pairs⟩, core⟩) at hK2
      change PostN _ (angName right x ⟨⟨6, back, chk, scope, ent, sEmp, text, rest, gap, opn, pairs⟩, core⟩)
      generalize angName right x ⟨⟨6, back, chk, scope, ent, sEmp, text, rest, gap, opn, pairs⟩, core⟩ = y at hK2 ⊢
      cases y with
      | none => exact hK2.elim
      | some y =>
        obtain ⟨e, s2⟩ := y
        cbv
        exact hf _ _ (fin_ [] rfl rfl hK2)
def PostT (K : Out → List (Chunk Pd) → Prop) : Option (Int × OS Ang) → Prop
  | none => False
  | some (e, s) => ∀ t, K (.ret (.int .i64 e)) [.abs (.ang s.m t) [0, 1], .abs (.core s.c 69 48) [1, 0]]
theorem PostT.n {K : Out → List (Chunk Pd) → Prop} : ∀ {y : Option (Int × OS Ang)}, PostT K y → PostN K y
  | none, h => h
  | some (e, s), h => h true
theorem step_a (hTab : GTab GOk) (hr : RgtOk GOk right) (s : OS Ang) (t : Bool) (x : UInt8) (b : Int) (hb : bOf x = b) :
    Triple (BB Ip GOk) 196 2 2 [.ptr 0 0, .int .u8 b, .fn (.func 31) [.ptr 1 0] []] [.abs (.ang s.m t) [0, 1], .abs (.core s.c 69 48) [1, 0]] (fun K => PostT K (angStep right x s)) := by
  obtain ⟨⟨state, back, chk, scope, ent, token, text, rest, gap, opn, pairs⟩, core⟩ := s
  refine triple_of BB_ok (tb := ty) rfl (n0 := 7) (fun y : {cs' // Tm (.ang ⟨state, back, chk, scope, ent, token, text, rest, gap, opn, pairs⟩ t) cs'} => csRen (sg [0, 1] 2) y.1 ++ [.abs (.core core 69 48) [1, 0]]) pl196 Tryz.call196 Tryz.func196 rfl (by kernel_rfl) (Nat.le_of_ble_eq_true rfl) (by decide) rfl (pre_open rfl rfl rfl) ?_
  rintro G hG K hK W bi bc bs bk bu bb bo bg bl bp bn be Ncond Nob Nop Nloop Nscope hN Nfin hf _ ⟨cs', hT⟩
  obtain ⟨p, lo, len, cap, xs, q, lo2, len2, cap2, ys, tl, hv1, hv2, hok, htl, htl2, rfl⟩ := id hT
  simp only at hv1 hv2 hok
  have hK := hK.n
  simp only [angStep] at hK
  have htl3 : tl = .fn (.func 31) [.ptr 1 0] [] ∨ tl = .nilfn := by
    cases t with
    | true => exact .inl (htl rfl)
    | false => exact .inr (htl2 rfl)
  clear htl htl2
  rcases htl3 with rfl | rfl
  all_goals
    cbv
    refine cond_ hN ?_ ?_ <;> intro s1 <;> rw [ceq hN] at s1
    · rw [if_pos (of_decide_eq_true s1)] at hK
      cbv
      refine op_ hN (op_close rfl (.ang ⟨state, back, chk, scope, ent, token, text, rest, gap, opn, pairs⟩ true) [0, 1] [2, 3, 4, 5, 6] _ (angTm hv1 hv2 hok) rfl rfl ?_)
      refine call_ (tagged_a hTab hr ⟨⟨state, back, chk, scope, ent, token, text, rest, gap, opn, pairs⟩, core⟩ x b hb) hG [0, 1] rfl rfl rfl rfl rfl ?_
      have hK2 := hK
      clear hK
      change PostN _ (angTagged right x ⟨⟨state, back, chk, scope, ent, token, text, rest, gap, opn, pairs⟩, core⟩) at hK2
      change PostN _ (angTagged right x ⟨⟨state, back, chk, scope, ent, token, text, rest, gap, opn, pairs⟩, core⟩)
      generalize angTagged right x ⟨⟨state, back, chk, scope, ent, token, text, rest, gap, opn, pairs⟩, core⟩ = y at hK2 ⊢
      cases y with
      | none => exact hK2.elim
      | some y =>
        obtain ⟨e, s2⟩ := y
        cbv
        exact hf _ _ (fin_ [] rfl rfl hK2)
    ·
      rw [if_neg (of_decide_eq_false s1)] at hK
      cbv
      refine cond_ hN ?_ ?_ <;> intro s2 <;> rw [ceq hN] at s2
      · rw [if_pos (of_decide_eq_true s2)] at hK
        cbv
        refine op_ hN (op_close rfl (.ang ⟨state, back, chk, scope, ent, token, text, rest, gap, opn, pairs⟩ true) [0, 1] [2, 3, 4, 5, 6] _ (angTm hv1 hv2 hok) rfl rfl ?_)
        refine call_ (defines_a ⟨⟨state, back, chk, scope, ent, token, text, rest, gap, opn, pairs⟩, core⟩ x b hb) hG [0, 1] rfl rfl rfl rfl rfl ?_
        have hK2 := hK
        clear hK
        change PostN _ (angDefines x ⟨⟨state, back, chk, scope, ent, token, text, rest, gap, opn, pairs⟩, core⟩) at hK2
        change PostN _ (angDefines x ⟨⟨state, back, chk, scope, ent, token, text, rest, gap, opn, pairs⟩, core⟩)
        generalize angDefines x ⟨⟨state, back, chk, scope, ent, token, text, rest, gap, opn, pairs⟩, core⟩ = y at hK2 ⊢
        cases y with
        | none => exact hK2.elim
        | some y =>
          obtain ⟨e, s2⟩ := y
          cbv
          exact hf _ _ (fin_ [] rfl rfl hK2)
      ·
        rw [if_neg (of_decide_eq_false s2)] at hK
        cbv
        refine cond_ hN ?_ ?_ <;> intro s3 <;> rw [ceq hN] at s3
        · rw [if_pos (.inl (of_decide_eq_true s3))] at hK
          cbv
          refine op_ hN (op_close rfl (.ang ⟨state, back, chk, scope, ent, token, text, rest, gap, opn, pairs⟩ true) [0, 1] [2, 3, 4, 5, 6] _ (angTm hv1 hv2 hok) rfl rfl ?_)
          refine call_ (name_a hTab hr ⟨⟨state, back, chk, scope, ent, token, text, rest, gap, opn, pairs⟩, core⟩ x b hb) hG [0, 1] rfl rfl rfl rfl rfl ?_
          have hK2 := hK
          clear hK
          change PostN _ (angName right x ⟨⟨state, back, chk, scope, ent, token, text, rest, gap, opn, pairs⟩, core⟩) at hK2
          change PostN _ (angName right x ⟨⟨state, back, chk, scope, ent, token, text, rest, gap, opn, pairs⟩, core⟩)
          generalize angName right x ⟨⟨state, back, chk, scope, ent, token, text, rest, gap, opn, pairs⟩, core⟩ = y at hK2 ⊢
          cases y with
          | none => exact hK2.elim
          | some y =>
            obtain ⟨e, s2⟩ := y
            cbv
            exact hf _ _ (fin_ [] rfl rfl hK2)
        ·
          cbv
          refine cond_ hN ?_ ?_ <;> intro s6 <;> rw [ceq hN] at s6
          · rw [if_pos (.inr (.inl (of_decide_eq_true s6)))] at hK
            cbv
            refine op_ hN (op_close rfl (.ang ⟨state, back, chk, scope, ent, token, text, rest, gap, opn, pairs⟩ true) [0, 1] [2, 3, 4, 5, 6] _ (angTm hv1 hv2 hok) rfl rfl ?_)
            refine call_ (name_a hTab hr ⟨⟨state, back, chk, scope, ent, token, text, rest, gap, opn, pairs⟩, core⟩ x b hb) hG [0, 1] rfl rfl rfl rfl rfl ?_
            have hK2 := hK
            clear hK
            change PostN _ (angName right x ⟨⟨state, back, chk, scope, ent, token, text, rest, gap, opn, pairs⟩, core⟩) at hK2
            change PostN _ (angName right x ⟨⟨state, back, chk, scope, ent, token, text, rest, gap, opn, pairs⟩, core⟩)
            generalize angName right x ⟨⟨state, back, chk, scope, ent, token, text, rest, gap, opn, pairs⟩, core⟩ = y at hK2 ⊢
            cases y with
            | none => exact hK2.elim
            | some y =>
              obtain ⟨e, s2⟩ := y
              cbv
              exact hf _ _ (fin_ [] rfl rfl hK2)
          ·
            cbv
            refine cond_ hN ?_ ?_ <;> intro s8 <;> rw [ceq hN] at s8
            · rw [if_pos (.inr (.inr (.inl (of_decide_eq_true s8))))] at hK
              cbv
              refine op_ hN (op_close rfl (.ang ⟨state, back, chk, scope, ent, token, text, rest, gap, opn, pairs⟩ true) [0, 1] [2, 3, 4, 5, 6] _ (angTm hv1 hv2 hok) rfl rfl ?_)
              refine call_ (name_a hTab hr ⟨⟨state, back, chk, scope, ent, token, text, rest, gap, opn, pairs⟩, core⟩ x b hb) hG [0, 1] rfl rfl rfl rfl rfl ?_
              have hK2 := hK
              clear hK
              change PostN _ (angName right x ⟨⟨state, back, chk, scope, ent, token, text, rest, gap, opn, pairs⟩, core⟩) at hK2
              change PostN _ (angName right x ⟨⟨state, back, chk, scope, ent, token, text, rest, gap, opn, pairs⟩, core⟩)
              generalize angName right x ⟨⟨state, back, chk, scope, ent, token, text, rest, gap, opn, pairs⟩, core⟩ = y at hK2 ⊢
              cases y with
              | none => exact hK2.elim
              | some y =>
                obtain ⟨e, s2⟩ := y
                cbv
                exact hf _ _ (fin_ [] rfl rfl hK2)
            ·
              cbv
              refine cond_ hN ?_ ?_ <;> intro s13 <;> rw [ceq hN] at s13
              · rw [if_pos (.inr (.inr (.inr (of_decide_eq_true s13))))] at hK
                cbv
                refine op_ hN (op_close rfl (.ang ⟨state, back, chk, scope, ent, token, text, rest, gap, opn, pairs⟩ true) [0, 1] [2, 3, 4, 5, 6] _ (angTm hv1 hv2 hok) rfl rfl ?_)
                refine call_ (name_a hTab hr ⟨⟨state, back, chk, scope, ent, token, text, rest, gap, opn, pairs⟩, core⟩ x b hb) hG [0, 1] rfl rfl rfl rfl rfl ?_
                have hK2 := hK
                clear hK
                change PostN _ (angName right x ⟨⟨state, back, chk, scope, ent, token, text, rest, gap, opn, pairs⟩, core⟩) at hK2
                change PostN _ (angName right x ⟨⟨state, back, chk, scope, ent, token, text, rest, gap, opn, pairs⟩, core⟩)
                generalize angName right x ⟨⟨state, back, chk, scope, ent, token, text, rest, gap, opn, pairs⟩, core⟩ = y at hK2 ⊢
                cases y with
                | none => exact hK2.elim
                | some y =>
                  obtain ⟨e, s2⟩ := y
                  cbv
                  exact hf _ _ (fin_ [] rfl rfl hK2)
              ·
                rw [if_neg (fun h => h.elim (of_decide_eq_false s3) (fun h => h.elim (of_decide_eq_false s6) (fun h => h.elim (of_decide_eq_false s8) (of_decide_eq_false s13))))] at hK
                cbv
                refine cond_ hN ?_ ?_ <;> intro s4 <;> rw [ceq hN] at s4
                · rw [if_pos (.inl (of_decide_eq_true s4))] at hK
                  cbv
                  refine op_ hN (op_close rfl (.ang ⟨state, back, chk, scope, ent, token, text, rest, gap, opn, pairs⟩ true) [0, 1] [2, 3, 4, 5, 6] _ (angTm hv1 hv2 hok) rfl rfl ?_)
                  refine call_ (quotes_a ⟨⟨state, back, chk, scope, ent, token, text, rest, gap, opn, pairs⟩, core⟩ x b hb) hG [0, 1] rfl rfl rfl rfl rfl ?_
                  have hK2 := hK
                  clear hK
                  change PostN _ (angQuotes x ⟨⟨state, back, chk, scope, ent, token, text, rest, gap, opn, pairs⟩, core⟩) at hK2
                  change PostN _ (angQuotes x ⟨⟨state, back, chk, scope, ent, token, text, rest, gap, opn, pairs⟩, core⟩)
                  generalize angQuotes x ⟨⟨state, back, chk, scope, ent, token, text, rest, gap, opn, pairs⟩, core⟩ = y at hK2 ⊢
                  cases y with
                  | none => exact hK2.elim
                  | some y =>
                    obtain ⟨e, s2⟩ := y
                    cbv
                    exact hf _ _ (fin_ [] rfl rfl hK2)
                ·
                  cbv
                  refine cond_ hN ?_ ?_ <;> intro s9 <;> rw [ceq hN] at s9
                  · rw [if_pos (.inr (of_decide_eq_true s9))] at hK
                    cbv
                    refine op_ hN (op_close rfl (.ang ⟨state, back, chk, scope, ent, token, text, rest, gap, opn, pairs⟩ true) [0, 1] [2, 3, 4, 5, 6] _ (angTm hv1 hv2 hok) rfl rfl ?_)
                    refine call_ (quotes_a ⟨⟨state, back, chk, scope, ent, token, text, rest, gap, opn, pairs⟩, core⟩ x b hb) hG [0, 1] rfl rfl rfl rfl rfl ?_
                    have hK2 := hK
                    clear hK
                    change PostN _ (angQuotes x ⟨⟨state, back, chk, scope, ent, token, text, rest, gap, opn, pairs⟩, core⟩) at hK2
                    change PostN _ (angQuotes x ⟨⟨state, back, chk, scope, ent, token, text, rest, gap, opn, pairs⟩, core⟩)
                    generalize angQuotes x ⟨⟨state, back, chk, scope, ent, token, text, rest, gap, opn, pairs⟩, core⟩ = y at hK2 ⊢
                    cases y with
                    | none => exact hK2.elim
                    | some y =>
                      obtain ⟨e, s2⟩ := y
                      cbv
                      exact hf _ _ (fin_ [] rfl rfl hK2)
                  ·
                    rw [if_neg (fun h => h.elim (of_decide_eq_false s4) (of_decide_eq_false s9))] at hK
                    cbv
                    refine cond_ hN ?_ ?_ <;> intro s5 <;> rw [ceq hN] at s5
                    · rw [if_pos (of_decide_eq_true s5)] at hK
                      cbv
                      refine op_ hN (op_close rfl (.ang ⟨state, back, chk, scope, ent, token, text, rest, gap, opn, pairs⟩ true) [0, 1] [2, 3, 4, 5, 6] _ (angTm hv1 hv2 hok) rfl rfl ?_)
                      refine call_ (defined_a hTab ⟨⟨state, back, chk, scope, ent, token, text, rest, gap, opn, pairs⟩, core⟩ x b hb) hG [0, 1] rfl rfl rfl rfl rfl ?_
                      have hK2 := hK
                      clear hK
                      change PostN _ (angDefined x ⟨⟨state, back, chk, scope, ent, token, text, rest, gap, opn, pairs⟩, core⟩) at hK2
                      change PostN _ (angDefined x ⟨⟨state, back, chk, scope, ent, token, text, rest, gap, opn, pairs⟩, core⟩)
                      generalize angDefined x ⟨⟨state, back, chk, scope, ent, token, text, rest, gap, opn, pairs⟩, core⟩ = y at hK2 ⊢
                      cases y with
                      | none => exact hK2.elim
                      | some y =>
                        obtain ⟨e, s2⟩ := y
                        cbv
                        exact hf _ _ (fin_ [] rfl rfl hK2)
                    ·
                      rw [if_neg (of_decide_eq_false s5)] at hK
                      cbv
                      refine cond_ hN ?_ ?_ <;> intro s7 <;> rw [ceq hN] at s7
                      · rw [if_pos (of_decide_eq_true s7)] at hK
                        cbv
                        refine op_ hN (op_close rfl (.ang ⟨state, back, chk, scope, ent, token, text, rest, gap, opn, pairs⟩ true) [0, 1] [2, 3, 4, 5, 6] _ (angTm hv1 hv2 hok) rfl rfl ?_)
                        refine call_ (attr_a hTab hr ⟨⟨state, back, chk, scope, ent, token, text, rest, gap, opn, pairs⟩, core⟩ x b hb) hG [0, 1] rfl rfl rfl rfl rfl ?_
                        have hK2 := hK
                        clear hK
                        change PostN _ (angAttr right x ⟨⟨state, back, chk, scope, ent, token, text, rest, gap, opn, pairs⟩, core⟩) at hK2
                        change PostN _ (angAttr right x ⟨⟨state, back, chk, scope, ent, token, text, rest, gap, opn, pairs⟩, core⟩)
                        generalize angAttr right x ⟨⟨state, back, chk, scope, ent, token, text, rest, gap, opn, pairs⟩, core⟩ = y at hK2 ⊢
                        cases y with
                        | none => exact hK2.elim
                        | some y =>
                          obtain ⟨e, s2⟩ := y
                          cbv
                          exact hf _ _ (fin_ [] rfl rfl hK2)
                      ·
                        rw [if_neg (of_decide_eq_false s7)] at hK
                        cbv
                        refine cond_ hN ?_ ?_ <;> intro s10 <;> rw [ceq hN] at s10
                        · rw [if_pos (.inl (of_decide_eq_true s10))] at hK
                          cbv
                          refine op_ hN (op_close rfl (.ang ⟨state, back, chk, scope, ent, token, text, rest, gap, opn, pairs⟩ true) [0, 1] [2, 3, 4, 5, 6] _ (angTm hv1 hv2 hok) rfl rfl ?_)
                          refine call_ (says_a hr ⟨⟨state, back, chk, scope, ent, token, text, rest, gap, opn, pairs⟩, core⟩ x b hb) hG [0, 1] rfl rfl rfl rfl rfl ?_
                          have hK2 := hK
                          clear hK
                          change PostN _ (angSays right x ⟨⟨state, back, chk, scope, ent, token, text, rest, gap, opn, pairs⟩, core⟩) at hK2
                          change PostN _ (angSays right x ⟨⟨state, back, chk, scope, ent, token, text, rest, gap, opn, pairs⟩, core⟩)
                          generalize angSays right x ⟨⟨state, back, chk, scope, ent, token, text, rest, gap, opn, pairs⟩, core⟩ = y at hK2 ⊢
                          cases y with
                          | none => exact hK2.elim
                          | some y =>
                            obtain ⟨e, s2⟩ := y
                            cbv
                            exact hf _ _ (fin_ [] rfl rfl hK2)
                        ·
                          cbv
                          refine cond_ hN ?_ ?_ <;> intro s12 <;> rw [ceq hN] at s12
                          · rw [if_pos (.inr (of_decide_eq_true s12))] at hK
                            cbv
                            refine op_ hN (op_close rfl (.ang ⟨state, back, chk, scope, ent, token, text, rest, gap, opn, pairs⟩ true) [0, 1] [2, 3, 4, 5, 6] _ (angTm hv1 hv2 hok) rfl rfl ?_)
                            refine call_ (says_a hr ⟨⟨state, back, chk, scope, ent, token, text, rest, gap, opn, pairs⟩, core⟩ x b hb) hG [0, 1] rfl rfl rfl rfl rfl ?_
                            have hK2 := hK
                            clear hK
                            change PostN _ (angSays right x ⟨⟨state, back, chk, scope, ent, token, text, rest, gap, opn, pairs⟩, core⟩) at hK2
                            change PostN _ (angSays right x ⟨⟨state, back, chk, scope, ent, token, text, rest, gap, opn, pairs⟩, core⟩)
                            generalize angSays right x ⟨⟨state, back, chk, scope, ent, token, text, rest, gap, opn, pairs⟩, core⟩ = y at hK2 ⊢
                            cases y with
                            | none => exact hK2.elim
                            | some y =>
                              obtain ⟨e, s2⟩ := y
                              cbv
                              exact hf _ _ (fin_ [] rfl rfl hK2)
                          ·
                            rw [if_neg (fun h => h.elim (of_decide_eq_false s10) (of_decide_eq_false s12))] at hK
                            cbv
                            refine cond_ hN ?_ ?_ <;> intro s11 <;> rw [ceq hN] at s11
                            · rw [if_pos (of_decide_eq_true s11)] at hK
                              cbv
                              refine op_ hN (op_close rfl (.ang ⟨state, back, chk, scope, ent, token, text, rest, gap, opn, pairs⟩ true) [0, 1] [2, 3, 4, 5, 6] _ (angTm hv1 hv2 hok) rfl rfl ?_)
                              refine call_ (alone_a hr ⟨⟨state, back, chk, scope, ent, token, text, rest, gap, opn, pairs⟩, core⟩ x b hb) hG [0, 1] rfl rfl rfl rfl rfl ?_
                              have hK2 := hK
                              clear hK
                              change PostN _ (angAlone right x ⟨⟨state, back, chk, scope, ent, token, text, rest, gap, opn, pairs⟩, core⟩) at hK2
                              change PostN _ (angAlone right x ⟨⟨state, back, chk, scope, ent, token, text, rest, gap, opn, pairs⟩, core⟩)
                              generalize angAlone right x ⟨⟨state, back, chk, scope, ent, token, text, rest, gap, opn, pairs⟩, core⟩ = y at hK2 ⊢
                              cases y with
                              | none => exact hK2.elim
                              | some y =>
                                obtain ⟨e, s2⟩ := y
                                cbv
                                exact hf _ _ (fin_ [] rfl rfl hK2)
                            ·
                              rw [if_neg (of_decide_eq_false s11)] at hK
                              cbv
                              refine cond_ hN ?_ ?_ <;> intro s14 <;> rw [ceq hN] at s14
                              · rw [if_pos (of_decide_eq_true s14)] at hK
                                cbv
                                refine op_ hN (op_close rfl (.ang ⟨state, back, chk, scope, ent, token, text, rest, gap, opn, pairs⟩ true) [0, 1] [2, 3, 4, 5, 6] _ (angTm hv1 hv2 hok) rfl rfl ?_)
                                refine call_ (ends_a hr ⟨⟨state, back, chk, scope, ent, token, text, rest, gap, opn, pairs⟩, core⟩ x b hb) hG [0, 1] rfl rfl rfl rfl rfl ?_
                                have hK2 := hK
                                clear hK
                                change PostN _ (angEnds right x ⟨⟨state, back, chk, scope, ent, token, text, rest, gap, opn, pairs⟩, core⟩) at hK2
                                change PostN _ (angEnds right x ⟨⟨state, back, chk, scope, ent, token, text, rest, gap, opn, pairs⟩, core⟩)
                                generalize angEnds right x ⟨⟨state, back, chk, scope, ent, token, text, rest, gap, opn, pairs⟩, core⟩ = y at hK2 ⊢
                                cases y with
                                | none => exact hK2.elim
                                | some y =>
                                  obtain ⟨e, s2⟩ := y
                                  cbv
                                  exact hf _ _ (fin_ [] rfl rfl hK2)
                              ·
                                rw [if_neg (of_decide_eq_false s14)] at hK
                                cbv
                                refine cond_ hN ?_ ?_ <;> intro s15 <;> rw [ceq hN] at s15
                                · rw [if_pos (of_decide_eq_true s15)] at hK
                                  cbv
                                  refine op_ hN (op_close rfl (.ang ⟨state, back, chk, scope, ent, token, text, rest, gap, opn, pairs⟩ true) [0, 1] [2, 3, 4, 5, 6] _ (angTm hv1 hv2 hok) rfl rfl ?_)
                                  refine call_ (refers_a ⟨⟨state, back, chk, scope, ent, token, text, rest, gap, opn, pairs⟩, core⟩ x b hb) hG [0, 1] rfl rfl rfl rfl rfl ?_
                                  have hK2 := hK
                                  clear hK
                                  change PostN _ (angRefers x ⟨⟨state, back, chk, scope, ent, token, text, rest, gap, opn, pairs⟩, core⟩) at hK2
                                  change PostN _ (angRefers x ⟨⟨state, back, chk, scope, ent, token, text, rest, gap, opn, pairs⟩, core⟩)
                                  generalize angRefers x ⟨⟨state, back, chk, scope, ent, token, text, rest, gap, opn, pairs⟩, core⟩ = y at hK2 ⊢
                                  cases y with
                                  | none => exact hK2.elim
                                  | some y =>
                                    obtain ⟨e, s2⟩ := y
                                    cbv
                                    exact hf _ _ (fin_ [] rfl rfl hK2)
                                ·
                                  rw [if_neg (of_decide_eq_false s15)] at hK
                                  cbv
                                  cbv
                                  refine op_ hN (op_close rfl (.ang ⟨state, back, chk, scope, ent, token, text, rest, gap, opn, pairs⟩ true) [0, 1] [2, 3, 4, 5, 6] _ (angTm hv1 hv2 hok) rfl rfl ?_)
                                  refine call_ (begins_a ⟨⟨state, back, chk, scope, ent, token, text, rest, gap, opn, pairs⟩, core⟩ x b hb) hG [0, 1] rfl rfl rfl rfl rfl ?_
                                  have hK2 := hK
                                  clear hK
                                  change PostN _ (angBegins x ⟨⟨state, back, chk, scope, ent, token, text, rest, gap, opn, pairs⟩, core⟩) at hK2
                                  change PostN _ (angBegins x ⟨⟨state, back, chk, scope, ent, token, text, rest, gap, opn, pairs⟩, core⟩)
                                  generalize angBegins x ⟨⟨state, back, chk, scope, ent, token, text, rest, gap, opn, pairs⟩, core⟩ = y at hK2 ⊢
                                  cases y with
                                  | none => exact hK2.elim
                                  | some y =>
                                    obtain ⟨e, s2⟩ := y
                                    cbv
                                    exact hf _ _ (fin_ [] rfl rfl hK2)
theorem end_a (s : OS Ang) (t : Bool) : Triple (BB Ip GOk) 195 2 2 [.ptr 0 0, .fn (.func 31) [.ptr 1 0] []] [.abs (.ang s.m t) [0, 1], .abs (.core s.c 69 48) [1, 0]] (fun K => PostT K (angEnd s)) := by
  obtain ⟨⟨state, back, chk, scope, ent, token, text, rest, gap, opn, pairs⟩, core⟩ := s
  refine triple_of BB_ok (tb := ty) rfl (n0 := 7) (fun y : {cs' // Tm (.ang ⟨state, back, chk, scope, ent, token, text, rest, gap, opn, pairs⟩ t) cs'} => csRen (sg [0, 1] 2) y.1 ++ [.abs (.core core 69 48) [1, 0]]) pl195 Tryz.call195 Tryz.func195 rfl (by kernel_rfl) (Nat.le_of_ble_eq_true rfl) (by decide) rfl (pre_open rfl rfl rfl) ?_
  rintro G hG K hK W bi bc bs bk bu bb bo bg bl bp bn be Ncond Nob Nop Nloop Nscope hN Nfin hf _ ⟨cs', hT⟩
  obtain ⟨p, lo, len, cap, xs, q, lo2, len2, cap2, ys, tl, hv1, hv2, hok, htl, htl2, rfl⟩ := id hT
  simp only at hv1 hv2 hok
  simp only [angEnd] at hK
  have htl3 : tl = .fn (.func 31) [.ptr 1 0] [] ∨ tl = .nilfn := by
    cases t with
    | true => exact .inl (htl rfl)
    | false => exact .inr (htl2 rfl)
  clear htl htl2
  rcases htl3 with rfl | rfl
  all_goals
    cbv
    refine cond_ hN ?_ ?_ <;> intro h1 <;> rw [cne hN] at h1
    · rw [if_pos (by simpa using h1)] at hK
      cbv
      exact hf _ _ (fin_close rfl (.ang ⟨state, back, chk, scope, ent, token, text, rest, gap, opn, pairs⟩ t) [0, 1] [2, 3, 4, 5, 6] _ hT rfl (fin_ [] rfl rfl (hK t)))
    · rw [if_neg (by simpa using h1)] at hK
      cbv
      exact hf _ _ (fin_close rfl (.ang ⟨state, back, chk, scope, ent, token, text, rest, gap, opn, pairs⟩ t) [0, 1] [2, 3, 4, 5, 6] _ hT rfl (fin_ [] rfl rfl (hK t)))
end Hx
/- angle: the machine as pull asks for one; New, Decode. -/
namespace Hx
open Go Sx Go.Proofs
set_option maxRecDepth 100000
set_option maxHeartbeats 4000000
set_option linter.unusedVariables false
set_option linter.unusedSimpArgs false
variable {GOk : Gl → Prop}
variable {right : Ev → Bool}
theorem ang_mach (hTab : GTab GOk) (hr : RgtOk GOk right) : MachOk GOk Pd.ang 69 48 (angStep right) angEnd (fun _ => none) where
  step := by
    refine ⟨196, fun v w => by kernel_rfl, fun s t x b h => ?_⟩
    obtain ⟨h1, h2⟩ := step_a hTab hr s t x b h
    refine ⟨h1, fun G hG K hK => h2 G hG K ?_⟩
    generalize angStep right x s = y at hK ⊢
    cases y with
    | none => exact hK
    | some z => exact hK
  fin := by
    refine ⟨195, fun v w => by kernel_rfl, fun s t => ?_⟩
    obtain ⟨h1, h2⟩ := end_a s t
    refine ⟨h1, fun G hG K hK => h2 G hG K ?_⟩
    generalize angEnd s = y at hK ⊢
    cases y with
    | none => exact hK
    | some z => exact hK
  place := .inr ⟨fun u w => run_typeAssert_lacksB Tryz.underlying96 (by kernel_rfl) (by kernel_rfl) u _ w, fun _ => rfl⟩
def ang0 : OS Ang := ⟨⟨0, 0, ⟨[], false⟩, [], ⟨[], 0, 0⟩, ⟨#[]⟩, ⟨#[]⟩, ⟨#[]⟩, false, [], []⟩, ⟨⟨0, 128, 191⟩, [], 0, false, false, 0, false⟩⟩
def angAllM (right : Ev → Bool) (text : List UInt8) : Option (OS Ang) := allG (angStep right) angEnd (fun _ => none) text ang0
def PostA1 (rest : List (Chunk Pd)) (K : Out → List (Chunk Pd) → Prop) : Option (OS Ang) → Prop
  | none => False
  | some s => ∀ p lo len cap xs, VecOk p lo len cap xs s.c.queue → K (.ret (.tuple [.vec p 1 3 lo len cap, .int .i64 s.c.err, .int .i64 (Int.ofNat s.c.at_)])) (.arr p true 1 44 encE xs :: rest)
theorem acore0_tm : Tm (.core ang0.c 69 48) [.cells 0 48 [.iface 69 (.ptr 1 0), .ptr 2 0, .vec false 3 3 0 0 0, .int .i64 (Int.ofNat 0), .bool false, .bool false, .int .i64 0, .bool false], .cells 2 94 [.int .i64 0, .int .u8 128, .int .u8 191], .arr false true 3 44 encE []] :=
  ⟨false, 0, 0, 0, [], ⟨fun _ => rfl, Nat.le_refl _, Nat.le_refl _, rfl⟩, rfl⟩
theorem ang0_tm : Tm (.ang ang0.m false) [.cells 0 76 [.int .i64 0, .int .i64 0, .ptr 4 0, .ptr 5 0, .ptr 6 0, .str ⟨#[]⟩, .str ⟨#[]⟩, .str ⟨#[]⟩, .bool false, .vec false 2 1 0 0 0, .vec false 3 2 0 0 0, .nilfn], .arr false true 2 9 encS [], .arr false true 3 273 encPr [], .abs (.chk ⟨[], false⟩) [4], .abs (.scp []) [5], .abs (.ent ⟨[], 0, 0⟩) [6]] :=
  ⟨false, 0, 0, 0, [], false, 0, 0, 0, [], .nilfn, vecNil, vecNil, ⟨Nat.zero_le _, Nat.zero_le _, Nat.zero_le _, Nat.zero_le _, Nat.zero_le _, (fun x hx => nomatch hx), (fun x hx => nomatch hx)⟩, (fun h => nomatch h), fun _ => rfl, rfl⟩
theorem ang_new_spec : Triple (BB Ip GOk) 17 0 2 [] [] (fun K => K (.ret (.ptr 0 0)) [.abs (.core ang0.c 69 48) [0, 1], .abs (.ang ang0.m false) [1, 0]]) := by
  refine triple_of BB_ok (tb := ty) rfl (n0 := 0) (fun _ : Unit => _) pl17 Tryz.call17 Tryz.func17 rfl (by kernel_rfl) (Nat.le_of_ble_eq_true rfl) (by decide) rfl pre_none ?_
  rintro G hG K hK W bi bc bs bk bu bb bo bg bl bp bn be Ncond Nob Nop Nloop Nscope hN Nfin hf _ _
  cbv
  refine op_ hN (call_ (ev_new_spec) hG [] rfl rfl rfl rfl rfl ?_)
  cbv
  refine op_ hN (call_ (scp_new_spec) hG [] rfl rfl rfl rfl rfl ?_)
  cbv
  refine op_ hN (call_ (ent_new_spec) hG [] rfl rfl rfl rfl rfl ?_)
  cbv
  refine op_ hN (inline_ BB_ok (tb := ty) rfl pl18 Tryz.call18 Tryz.func18 rfl (by kernel_rfl) (Nat.le_of_ble_eq_true rfl) ?_)
  intro W2 bi2 bc2 bs2 bk2 bu2 bb2 bo2 bg2 bl2 bp2 bn2 be2 Ncond2 Nob2 Nop2 Nloop2 Nscope2 hN2
  cbv
  refine op_ hN2 (call_ (src_new_spec) hG [] rfl rfl rfl rfl rfl ?_)
  cbv
  exact hf _ _ (fin_noArr true 20 44 encE [] (fin_noArr true 21 9 encS [] (fin_noArr true 22 273 encPr [] (fin_cput 6 [.iface 69 (.ptr 3 0), .ptr 5 0, .vec false 20 3 0 0 0, .int .i64 (Int.ofNat 0), .bool false, .bool false, .int .i64 0, .bool false] rfl (fun _ => rfl)
    (fin_cput 3 [.int .i64 0, .int .i64 0, .ptr 0 0, .ptr 1 0, .ptr 2 0, .str ⟨#[]⟩, .str ⟨#[]⟩, .str ⟨#[]⟩, .bool false, .vec false 21 1 0 0 0, .vec false 22 2 0 0 0, .nilfn] rfl (fun _ => rfl) (fin_close rfl (.core ang0.c 69 48) [6, 3] [5, 20] _ acore0_tm rfl (fin_close rfl (.ang ang0.m false) [3, 6] [21, 22, 0, 1, 2] _ ang0_tm rfl (fin_ [6, 3] rfl rfl hK))))))))
theorem adecode_spec (hTab : GTab GOk) (hr : RgtOk GOk right) (pt : Bool) (lo cap : Nat) (len : Nat) (xs text : List UInt8) (hv : VecOk pt lo len cap xs text) (hlen : len < 1000000) :
    Triple (BB Ip GOk) 10 1 2 [.vec pt 0 1 lo len cap] [.arr pt false 0 5 encB xs] (fun K => PostA1 [.arr pt false 0 5 encB xs] K (angAllM right text)) := by
  refine triple_of BB_ok (tb := ty) rfl (n0 := 1) (fun _ : Unit => _) pl10 Tryz.call10 Tryz.func10 rfl (by kernel_rfl) (Nat.le_of_ble_eq_true rfl) (by decide) rfl pre_none ?_
  rintro G hG K hK W bi bc bs bk bu bb bo bg bl bp bn be Ncond Nob Nop Nloop Nscope hN Nfin hf _ _
  cbv
  refine op_ hN (call_ (ang_new_spec) hG [] rfl rfl rfl rfl rfl ?_)
  cbv
  refine op_ hN (call_ (all_spec (ang_mach hTab hr) ang0 false rfl pt lo cap len xs text hv hlen) hG [1, 2, 0] rfl rfl rfl rfl rfl ?_)
  have hA : allG (angStep right) angEnd (fun _ => none) text ang0 = angAllM right text := rfl
  rw [hA]
  generalize angAllM right text = y at hK ⊢
  cases y with
  | none => exact hK.elim
  | some s2 =>
    intro p lo1 len1 cap1 ys hv1
    obtain ⟨m, ⟨⟨sl, sa, sb⟩, queue, cat, closed, over, err, told⟩⟩ := s2
    cbv
    exact hf _ _ (fin_ [3] rfl rfl (hK p lo1 len1 cap1 ys hv1))
theorem adecode_old (hTab : GTab GOk) (hr : RgtOk GOk right) (pt : Bool) (lo cap : Nat) (len : Nat) (g : Nat) (text : List UInt8) (hlt : text.length = len) (hpr : pt = false → len = 0) (hS : OldB GOk g lo text) (hlen : len < 1000000) :
    Triple (BB Ip GOk) 10 1 2 [.vec pt 0 1 lo len cap] [.at_ 0 g] (fun K => PostA1 [.at_ 0 g] K (angAllM right text)) := by
  refine triple_of BB_ok (tb := ty) rfl (n0 := 1) (fun _ : Unit => _) pl10 Tryz.call10 Tryz.func10 rfl (by kernel_rfl) (Nat.le_of_ble_eq_true rfl) (by decide) rfl pre_none ?_
  rintro G hG K hK W bi bc bs bk bu bb bo bg bl bp bn be Ncond Nob Nop Nloop Nscope hN Nfin hf _ _
  cbv
  refine op_ hN (call_ (ang_new_spec) hG [] rfl rfl rfl rfl rfl ?_)
  cbv
  refine op_ hN (call_ (all_old (ang_mach hTab hr) ang0 false rfl pt lo cap len g text hlt hpr hS hlen) hG [1, 2, 0] rfl rfl rfl rfl rfl ?_)
  have hA : allG (angStep right) angEnd (fun _ => none) text ang0 = angAllM right text := rfl
  rw [hA]
  generalize angAllM right text = y at hK ⊢
  cases y with
  | none => exact hK.elim
  | some s2 =>
    intro p lo1 len1 cap1 ys hv1
    obtain ⟨m, ⟨⟨sl, sa, sb⟩, queue, cat, closed, over, err, told⟩⟩ := s2
    cbv
    exact hf _ _ (fin_ [3] rfl rfl (hK p lo1 len1 cap1 ys hv1))
end Hx
