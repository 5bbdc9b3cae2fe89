/-
  Part of a proof.
-/
import Derived.Test.YtlmbbchfaoeebaaGreatDoorV20
set_option linter.unusedVariables false
set_option linter.unusedSimpArgs false
/- angle.machine.named, where a colon stands in the name: the walk. -/
namespace Hx
open Go Sx Go.Proofs
set_option maxRecDepth 100000
set_option maxHeartbeats 4000000
set_option linter.unusedVariables false
set_option linter.unusedSimpArgs false
variable {GOk : Gl → Prop}
variable {right : Ev → Bool}
theorem named_true (hTab : GTab GOk) (hr : RgtOk GOk right) (attr : UInt8 → AM) (x : UInt8) (b : Int) (hb : bOf x = b) (hA : ∀ s, Triple (BB Ip GOk) 203 2 2 [.ptr 0 0, .int .u8 b] (ocA s) (fun K => PostN K (attr x s))) (s : OS Ang) (hcc : (cutB s.m.token wColon).2.2 = true) :
    Triple (BB Ip GOk) 200 2 2 [.ptr 0 0, .int .u8 b] (ocA s) (fun K => PostN K (angNamed right attr x s)) := by
  obtain ⟨⟨state, back, chk, scope, ent, token, text, rest, gap, opn, pairs⟩, core⟩ := s
  refine triple_of BB_ok (tb := ty) rfl (n0 := 7) (fun y : {cs' // Tm (.ang ⟨state, back, chk, scope, ent, token, text, rest, gap, opn, pairs⟩ true) cs'} => csRen (sg [0, 1] 2) y.1 ++ [.abs (.core core 69 48) [1, 0]]) pl200 Tryz.call200 Tryz.func200 rfl (by kernel_rfl) (Nat.le_of_ble_eq_true rfl) (by decide) rfl (pre_open rfl rfl rfl) ?_
  rintro G hG K hK W bi bc bs bk bu bb bo bg bl bp bn be Ncond Nob Nop Nloop Nscope hN Nfin hf _ ⟨cs', hT⟩
  obtain ⟨p, lo, len, cap, xs, q, lo2, len2, cap2, ys, tl, hv1, hv2, hok, htl, -, rfl⟩ := id hT
  obtain rfl := htl rfl
  simp only at hv1 hv2 hok
  simp only [angNamed, hb] at hK
  simp only at hcc
  have htk := hok.tok
  have hlen1 := hv1.length
  have hlen2 := hv2.length
  have hol := hok.ol
  have hs1 := encR_size (bitI .and .u8 b 127)
  have hs2 := encR_size b
  have he1 : be (W .i32 (bi .and .u8 b 127)) = encR (bitI .and .u8 b 127) := by rw [be_ hN, hN.W, bi_ hN]; rfl
  have he2 : be (W .i32 b) = encR b := by rw [be_ hN, hN.W]; rfl
  have hnb : ∀ loc, nameB b loc = (localOk (⟨#[97]⟩ ++ encR (bitI .and .u8 b 127)) && (decide (b < 128) && (decide (loc ≠ sEmp) || localOk (encR b)))) := fun _ => rfl
  generalize encR (bitI .and .u8 b 127) = en1 at he1 hs1 hnb
  generalize encR b = en2 at he2 hs2 hnb hK
  have hmx : IntKind.i64.max = 9223372036854775807 := by rfl
  have hcat1 : bk ⟨#[97]⟩ en1 = ⟨#[97]⟩ ++ en1 := by rw [bk_ hN]
  have hob1 : obsP [.cat ⟨#[97]⟩ en1] := ⟨by
    show (((⟨#[97]⟩ : ByteArray).size + en1.size : Nat) : Int) ≤ IntKind.i64.max
    have : (⟨#[97]⟩ : ByteArray).size = 1 := rfl
    rw [hmx]; omega, trivial⟩
  have hcat2 : bk token en2 = token ++ en2 := by rw [bk_ hN]
  have hob2 : obsP [.cat token en2] := ⟨by
    show ((token.size + en2.size : Nat) : Int) ≤ IntKind.i64.max
    rw [hmx]; omega, trivial⟩
  have htk2 : (token ++ en2).size ≤ token.size + 4 := by rw [ByteArray.size_append]; omega
  have hcol : bk token ⟨#[58]⟩ = token ++ wColon := by rw [bk_ hN]; rfl
  have hobc : obsP [.cat token ⟨#[58]⟩] := ⟨by
    show ((token.size + (⟨#[58]⟩ : ByteArray).size : Nat) : Int) ≤ IntKind.i64.max
    have : (⟨#[58]⟩ : ByteArray).size = 1 := rfl
    rw [hmx]; omega, trivial⟩
  generalize (⟨#[97]⟩ : ByteArray) ++ en1 = x1 at hcat1 hnb
  generalize token ++ en2 = tk2 at hcat2 htk2 hK
  cbv
  refine op_ hN (call_ (scut_spec hTab token ⟨#[58]⟩ (by omega)) hG [] rfl rfl rfl rfl rfl ?_)
  intro a1 b1 c hc
  have hc2 : cutB token wColon = (a1, b1, c) := cutB_eq hc
  rw [hc2] at hcc
  simp only at hcc
  subst hcc
  have hL : locOf token = b1 := by unfold locOf; rw [hc2]; rfl
  rw [hL, hc2] at hK
  simp only at hK
  clear hc hc2 hL
  cbv
  refine cond_F hN rfl ?_
  cbv
  simp only [he1]
  refine ob_ hN hob1 ?_
  cbv
  simp only [he1, hcat1]
  refine op_ hN (call_ (local_spec x1) hG [] rfl rfl rfl rfl rfl ?_)
  intro d1 hd1
  have hN1 : nameB b b1 = (d1 && (decide (b < 128) && (decide (b1 ≠ sEmp) || localOk en2))) := by rw [hd1]; exact hnb b1
  rw [hN1] at hK
  clear hN1 hd1
  cases d1 with
  | false =>
    rw [Bool.false_and] at hK
    cbv
    refine cond_F hN rfl ?_
    rw [if_neg (fun h => nomatch h)] at hK
    cbv
    refine cond_ hN ?_ ?_ <;> intro o1
    · rw [ceq hN] at o1
      cbv
      refine cond_F hN rfl ?_
      rw [if_neg (fun h => nomatch h.2.1)] at hK
      cbv
      refine op_ hN (call_ (whole_a token hok.tok) hG [] rfl rfl rfl rfl rfl ?_)
      intro w hw
      rw [← hw] at hK
      clear hw
      cases w with
      | false =>
        rw [if_pos rfl] at hK
        cbv
        refine cond_T hN rfl ?_
        cbv
        exact hf _ _ (fin_close rfl (.ang ⟨state, back, chk, scope, ent, token, text, rest, gap, opn, pairs⟩ true) [0, 1] [2, 3, 4, 5, 6] _ (angTm hv1 hv2 hok) rfl (fin_ [] rfl rfl hK))
      | true =>
        rw [if_neg (fun h => nomatch h)] at hK
        cbv
        refine cond_F hN rfl ?_
        cbv
        refine cond_ hN ?_ ?_ <;> intro k1 <;> rw [ceq hN] at k1
        · rw [if_pos (of_decide_eq_true k1)] at hK
          cbv
          refine cond_ hN ?_ ?_ <;> intro k2 <;> rw [cne hN] at k2
          · rw [if_pos (by simpa using k2)] at hK
            cbv
            exact hf _ _ (fin_close rfl (.ang ⟨state, back, chk, scope, ent, token, text, rest, gap, opn, pairs⟩ true) [0, 1] [2, 3, 4, 5, 6] _ (angTm hv1 hv2 hok) rfl (fin_ [] rfl rfl hK))
          · rw [if_neg (by simpa using k2)] at hK
            cbv
            exact hf _ _ (fin_close rfl (.ang ⟨4, back, chk, scope, ent, token, text, rest, gap, opn, pairs⟩ true) [0, 1] [2, 3, 4, 5, 6] _ (angTm hv1 hv2 hok) rfl (fin_ [] rfl rfl hK))
        · rw [if_neg (of_decide_eq_false k1)] at hK
          cbv
          refine cond_ hN ?_ ?_ <;> intro k3 <;> rw [ceq hN] at k3
          · rw [if_pos (of_decide_eq_true k3)] at hK
            cbv
            refine cond_ hN ?_ ?_ <;> intro k4 <;> rw [cne hN] at k4
            · rw [if_pos (by simpa using k4)] at hK
              cbv
              exact hf _ _ (fin_close rfl (.ang ⟨state, back, chk, scope, ent, token, text, rest, gap, opn, pairs⟩ true) [0, 1] [2, 3, 4, 5, 6] _ (angTm hv1 hv2 hok) rfl (fin_ [] rfl rfl hK))
            · rw [if_neg (by simpa using k4)] at hK
              cbv
              refine cond_ hN ?_ ?_ <;> intro k5 <;> rw [cge hN] at k5
              · have k5 : pairs.length ≥ 20 := by have : Int.ofNat len2 ≥ 20 := of_decide_eq_true k5; simp at this; omega
                rw [if_pos k5] at hK
                cbv
                exact hf _ _ (fin_close rfl (.ang ⟨state, back, chk, scope, ent, token, text, rest, gap, opn, pairs⟩ true) [0, 1] [2, 3, 4, 5, 6] _ (angTm hv1 hv2 hok) rfl (fin_ [] rfl rfl hK))
              · have k5 : ¬ pairs.length ≥ 20 := by have : ¬ Int.ofNat len2 ≥ 20 := of_decide_eq_false k5; simp at this; omega
                rw [if_neg k5] at hK
                cbv
                exact hf _ _ (fin_close rfl (.ang ⟨9, back, chk, scope, ent, token, text, rest, gap, opn, pairs⟩ true) [0, 1] [2, 3, 4, 5, 6] _ (angTm hv1 hv2 hok) rfl (fin_ [] rfl rfl hK))
          · rw [if_neg (of_decide_eq_false k3)] at hK
            cbv
            refine cond_ hN ?_ ?_ <;> intro k6 <;> rw [ceq hN] at k6
            · rw [if_pos (of_decide_eq_true k6)] at hK
              cbv
              refine op_ hN (op_close rfl (.ang ⟨14, back, chk, scope, ent, token, text, rest, gap, opn, pairs⟩ true) [0, 1] [2, 3, 4, 5, 6] _ (angTm hv1 hv2 hok) rfl rfl ?_)
              refine call_ (ends_a hr ⟨⟨14, back, chk, scope, ent, token, text, rest, gap, opn, pairs⟩, core⟩ x b hb) hG [0, 1] rfl rfl rfl rfl rfl ?_
              have hK2 := hK
              clear hK
              change PostN _ (angEnds right x ⟨⟨14, back, chk, scope, ent, token, text, rest, gap, opn, pairs⟩, core⟩) at hK2
              change PostN _ (angEnds right x ⟨⟨14, back, chk, scope, ent, token, text, rest, gap, opn, pairs⟩, core⟩)
              generalize angEnds right x ⟨⟨14, back, chk, scope, ent, token, text, rest, gap, opn, pairs⟩, core⟩ = y at hK2 ⊢
              cases y with
              | none => exact hK2.elim
              | some y =>
                obtain ⟨e, s2⟩ := y
                cbv
                exact hf _ _ (fin_ [] rfl rfl hK2)
            · rw [if_neg (of_decide_eq_false k6)] at hK
              by_cases ho : opn.length ≥ 900000
              · rw [if_pos ho] at hK
                exact hK.elim
              rw [if_neg ho] at hK
              have hok3 : AngOk token text rest (opn ++ [token]) [] := ⟨hok.tok, hok.txt, hok.rst, by rw [List.length_append, List.length_singleton]; omega, Nat.zero_le _, fun y hy => (List.mem_append.1 hy).elim (fun h => hok.os y h) (fun h => by rw [List.mem_singleton.1 h]; exact hok.tok), fun y hy => nomatch hy⟩
              cbv
              repeat' (first | exact True.intro | with_reducible refine dup ?_ | refine And.intro ?_ ?_)
              all_goals
                refine op_ hN (append_vec (new := [token]) (z := ⟨#[]⟩) ty_ok rfl rfl rfl rfl (fun k => by simp) rfl rfl wideS rfl rfl (src_cells wideS rfl (fun _ _ _ _ => rfl) rfl) hv1.pr hv1.room hv1.fits (by simp; omega) (by decide) ?_)
                intro p' lo' m' cap' xs' hm' e1 e2 e3 e4
                cbv
                repeat' (first | exact True.intro | with_reducible refine dup ?_ | refine And.intro ?_ ?_)
                all_goals
                  refine op_ hN (op_noArr true 200 201 273 encPr [] rfl rfl (op_cput 0 [.int .i64 7, .int .i64 back, .ptr 4 0, .ptr 5 0, .ptr 6 0, .str token, .str text, .str rest, .bool false, .vec p' 21 1 lo' m' cap', .vec false 200 2 0 0 0, .fn (.func 31) [.ptr 1 0] []] rfl (fun _ => rfl) (op_close rfl (.ang ⟨7, back, chk, scope, ent, token, text, rest, false, opn ++ [token], []⟩ true) [0, 1] [21, 200, 4, 5, 6] _ (angTm ⟨e1, e2, e3, by rw [e4, hv1.eq]⟩ (vecNil : VecOk false 0 0 0 ([] : List (ByteArray × ByteArray)) []) hok3) rfl rfl ?_)))
                  refine call_ (hA ⟨⟨7, back, chk, scope, ent, token, text, rest, false, opn ++ [token], []⟩, core⟩) hG [0, 1] rfl rfl rfl rfl rfl ?_
                  have hK2 := hK
                  clear hK
                  change PostN _ (attr x ⟨⟨7, back, chk, scope, ent, token, text, rest, false, opn ++ [token], []⟩, core⟩) at hK2
                  change PostN _ (attr x ⟨⟨7, back, chk, scope, ent, token, text, rest, false, opn ++ [token], []⟩, core⟩)
                  generalize attr x ⟨⟨7, back, chk, scope, ent, token, text, rest, false, opn ++ [token], []⟩, core⟩ = y at hK2 ⊢
                  cases y with
                  | none => exact hK2.elim
                  | some y =>
                    obtain ⟨e, s2⟩ := y
                    cbv
                    exact hf _ _ (fin_ [] rfl rfl hK2)
    · rw [ceq hN] at o1
      rw [if_neg (fun h => of_decide_eq_false o1 h.1)] at hK
      cbv
      refine op_ hN (call_ (whole_a token hok.tok) hG [] rfl rfl rfl rfl rfl ?_)
      intro w hw
      rw [← hw] at hK
      clear hw
      cases w with
      | false =>
        rw [if_pos rfl] at hK
        cbv
        refine cond_T hN rfl ?_
        cbv
        exact hf _ _ (fin_close rfl (.ang ⟨state, back, chk, scope, ent, token, text, rest, gap, opn, pairs⟩ true) [0, 1] [2, 3, 4, 5, 6] _ (angTm hv1 hv2 hok) rfl (fin_ [] rfl rfl hK))
      | true =>
        rw [if_neg (fun h => nomatch h)] at hK
        cbv
        refine cond_F hN rfl ?_
        cbv
        refine cond_ hN ?_ ?_ <;> intro k1 <;> rw [ceq hN] at k1
        · rw [if_pos (of_decide_eq_true k1)] at hK
          cbv
          refine cond_ hN ?_ ?_ <;> intro k2 <;> rw [cne hN] at k2
          · rw [if_pos (by simpa using k2)] at hK
            cbv
            exact hf _ _ (fin_close rfl (.ang ⟨state, back, chk, scope, ent, token, text, rest, gap, opn, pairs⟩ true) [0, 1] [2, 3, 4, 5, 6] _ (angTm hv1 hv2 hok) rfl (fin_ [] rfl rfl hK))
          · rw [if_neg (by simpa using k2)] at hK
            cbv
            exact hf _ _ (fin_close rfl (.ang ⟨4, back, chk, scope, ent, token, text, rest, gap, opn, pairs⟩ true) [0, 1] [2, 3, 4, 5, 6] _ (angTm hv1 hv2 hok) rfl (fin_ [] rfl rfl hK))
        · rw [if_neg (of_decide_eq_false k1)] at hK
          cbv
          refine cond_ hN ?_ ?_ <;> intro k3 <;> rw [ceq hN] at k3
          · rw [if_pos (of_decide_eq_true k3)] at hK
            cbv
            refine cond_ hN ?_ ?_ <;> intro k4 <;> rw [cne hN] at k4
            · rw [if_pos (by simpa using k4)] at hK
              cbv
              exact hf _ _ (fin_close rfl (.ang ⟨state, back, chk, scope, ent, token, text, rest, gap, opn, pairs⟩ true) [0, 1] [2, 3, 4, 5, 6] _ (angTm hv1 hv2 hok) rfl (fin_ [] rfl rfl hK))
            · rw [if_neg (by simpa using k4)] at hK
              cbv
              refine cond_ hN ?_ ?_ <;> intro k5 <;> rw [cge hN] at k5
              · have k5 : pairs.length ≥ 20 := by have : Int.ofNat len2 ≥ 20 := of_decide_eq_true k5; simp at this; omega
                rw [if_pos k5] at hK
                cbv
                exact hf _ _ (fin_close rfl (.ang ⟨state, back, chk, scope, ent, token, text, rest, gap, opn, pairs⟩ true) [0, 1] [2, 3, 4, 5, 6] _ (angTm hv1 hv2 hok) rfl (fin_ [] rfl rfl hK))
              · have k5 : ¬ pairs.length ≥ 20 := by have : ¬ Int.ofNat len2 ≥ 20 := of_decide_eq_false k5; simp at this; omega
                rw [if_neg k5] at hK
                cbv
                exact hf _ _ (fin_close rfl (.ang ⟨9, back, chk, scope, ent, token, text, rest, gap, opn, pairs⟩ true) [0, 1] [2, 3, 4, 5, 6] _ (angTm hv1 hv2 hok) rfl (fin_ [] rfl rfl hK))
          · rw [if_neg (of_decide_eq_false k3)] at hK
            cbv
            refine cond_ hN ?_ ?_ <;> intro k6 <;> rw [ceq hN] at k6
            · rw [if_pos (of_decide_eq_true k6)] at hK
              cbv
              refine op_ hN (op_close rfl (.ang ⟨14, back, chk, scope, ent, token, text, rest, gap, opn, pairs⟩ true) [0, 1] [2, 3, 4, 5, 6] _ (angTm hv1 hv2 hok) rfl rfl ?_)
              refine call_ (ends_a hr ⟨⟨14, back, chk, scope, ent, token, text, rest, gap, opn, pairs⟩, core⟩ x b hb) hG [0, 1] rfl rfl rfl rfl rfl ?_
              have hK2 := hK
              clear hK
              change PostN _ (angEnds right x ⟨⟨14, back, chk, scope, ent, token, text, rest, gap, opn, pairs⟩, core⟩) at hK2
              change PostN _ (angEnds right x ⟨⟨14, back, chk, scope, ent, token, text, rest, gap, opn, pairs⟩, core⟩)
              generalize angEnds right x ⟨⟨14, back, chk, scope, ent, token, text, rest, gap, opn, pairs⟩, core⟩ = y at hK2 ⊢
              cases y with
              | none => exact hK2.elim
              | some y =>
                obtain ⟨e, s2⟩ := y
                cbv
                exact hf _ _ (fin_ [] rfl rfl hK2)
            · rw [if_neg (of_decide_eq_false k6)] at hK
              by_cases ho : opn.length ≥ 900000
              · rw [if_pos ho] at hK
                exact hK.elim
              rw [if_neg ho] at hK
              have hok3 : AngOk token text rest (opn ++ [token]) [] := ⟨hok.tok, hok.txt, hok.rst, by rw [List.length_append, List.length_singleton]; omega, Nat.zero_le _, fun y hy => (List.mem_append.1 hy).elim (fun h => hok.os y h) (fun h => by rw [List.mem_singleton.1 h]; exact hok.tok), fun y hy => nomatch hy⟩
              cbv
              repeat' (first | exact True.intro | with_reducible refine dup ?_ | refine And.intro ?_ ?_)
              all_goals
                refine op_ hN (append_vec (new := [token]) (z := ⟨#[]⟩) ty_ok rfl rfl rfl rfl (fun k => by simp) rfl rfl wideS rfl rfl (src_cells wideS rfl (fun _ _ _ _ => rfl) rfl) hv1.pr hv1.room hv1.fits (by simp; omega) (by decide) ?_)
                intro p' lo' m' cap' xs' hm' e1 e2 e3 e4
                cbv
                repeat' (first | exact True.intro | with_reducible refine dup ?_ | refine And.intro ?_ ?_)
                all_goals
                  refine op_ hN (op_noArr true 200 201 273 encPr [] rfl rfl (op_cput 0 [.int .i64 7, .int .i64 back, .ptr 4 0, .ptr 5 0, .ptr 6 0, .str token, .str text, .str rest, .bool false, .vec p' 21 1 lo' m' cap', .vec false 200 2 0 0 0, .fn (.func 31) [.ptr 1 0] []] rfl (fun _ => rfl) (op_close rfl (.ang ⟨7, back, chk, scope, ent, token, text, rest, false, opn ++ [token], []⟩ true) [0, 1] [21, 200, 4, 5, 6] _ (angTm ⟨e1, e2, e3, by rw [e4, hv1.eq]⟩ (vecNil : VecOk false 0 0 0 ([] : List (ByteArray × ByteArray)) []) hok3) rfl rfl ?_)))
                  refine call_ (hA ⟨⟨7, back, chk, scope, ent, token, text, rest, false, opn ++ [token], []⟩, core⟩) hG [0, 1] rfl rfl rfl rfl rfl ?_
                  have hK2 := hK
                  clear hK
                  change PostN _ (attr x ⟨⟨7, back, chk, scope, ent, token, text, rest, false, opn ++ [token], []⟩, core⟩) at hK2
                  change PostN _ (attr x ⟨⟨7, back, chk, scope, ent, token, text, rest, false, opn ++ [token], []⟩, core⟩)
                  generalize attr x ⟨⟨7, back, chk, scope, ent, token, text, rest, false, opn ++ [token], []⟩, core⟩ = y at hK2 ⊢
                  cases y with
                  | none => exact hK2.elim
                  | some y =>
                    obtain ⟨e, s2⟩ := y
                    cbv
                    exact hf _ _ (fin_ [] rfl rfl hK2)
  | true =>
    rw [Bool.true_and] at hK
    cbv
    refine cond_T hN rfl ?_
    cbv
    refine cond_ hN ?_ ?_ <;> intro g2
    · rw [clt hN] at g2
      rw [g2, Bool.true_and] at hK
      cbv
      refine cond_ hN ?_ ?_ <;> intro g3
      · rw [sne_eq hN] at g3
        have g3 : decide (b1 ≠ sEmp) = true := by
          have : ¬ b1 = ⟨#[]⟩ := by simpa using g3
          exact decide_eq_true this
        rw [g3, Bool.true_or] at hK
        rw [if_pos rfl] at hK
        cbv
        refine cond_ hN ?_ ?_ <;> intro n1
        · rw [cge hN, len_eq hN] at n1
          have n1 : b1.size ≥ 16 := by have : (b1.size : Int) ≥ 16 := of_decide_eq_true n1; omega
          rw [if_pos n1] at hK
          cbv
          exact hf _ _ (fin_close rfl (.ang ⟨state, back, chk, scope, ent, token, text, rest, gap, opn, pairs⟩ true) [0, 1] [2, 3, 4, 5, 6] _ (angTm hv1 hv2 hok) rfl (fin_ [] rfl rfl hK))
        · rw [cge hN, len_eq hN] at n1
          have n1 : ¬ b1.size ≥ 16 := by have : ¬ (b1.size : Int) ≥ 16 := of_decide_eq_false n1; omega
          rw [if_neg n1] at hK
          by_cases ht9 : token.size ≥ 899990
          · rw [if_pos ht9] at hK
            exact hK.elim
          rw [if_neg ht9] at hK
          cbv
          simp only [he2]
          refine ob_ hN hob2 ?_
          cbv
          simp only [he2, hcat2]
          exact hf _ _ (fin_close rfl (.ang ⟨state, back, chk, scope, ent, tk2, text, rest, gap, opn, pairs⟩ true) [0, 1] [2, 3, 4, 5, 6] _ (angTm hv1 hv2 ⟨by omega, hok.txt, hok.rst, hok.ol, hok.pl, hok.os, hok.ps⟩) rfl (fin_ [] rfl rfl hK))
      · have g3b := g3
        rw [sne_eq hN] at g3
        have g3 : b1 = sEmp := by
          have : b1 = ⟨#[]⟩ := by simpa using g3
          exact this
        rw [decide_eq_false (fun h => h g3), Bool.false_or] at hK
        cbv
        simp only [he2]
        refine op_ hN (call_ (local_spec en2) hG [] rfl rfl rfl rfl rfl ?_)
        intro d2 hd2
        rw [← hd2] at hK
        clear hd2
        cases d2 with
        | true =>
          cbv
          refine cond_T hN rfl ?_
          rw [if_pos rfl] at hK
          cbv
          refine cond_ hN ?_ ?_ <;> intro n1
          · rw [cge hN, len_eq hN] at n1
            have n1 : b1.size ≥ 16 := by have : (b1.size : Int) ≥ 16 := of_decide_eq_true n1; omega
            rw [if_pos n1] at hK
            cbv
            exact hf _ _ (fin_close rfl (.ang ⟨state, back, chk, scope, ent, token, text, rest, gap, opn, pairs⟩ true) [0, 1] [2, 3, 4, 5, 6] _ (angTm hv1 hv2 hok) rfl (fin_ [] rfl rfl hK))
          · rw [cge hN, len_eq hN] at n1
            have n1 : ¬ b1.size ≥ 16 := by have : ¬ (b1.size : Int) ≥ 16 := of_decide_eq_false n1; omega
            rw [if_neg n1] at hK
            by_cases ht9 : token.size ≥ 899990
            · rw [if_pos ht9] at hK
              exact hK.elim
            rw [if_neg ht9] at hK
            cbv
            simp only [he2]
            refine ob_ hN hob2 ?_
            cbv
            simp only [he2, hcat2]
            exact hf _ _ (fin_close rfl (.ang ⟨state, back, chk, scope, ent, tk2, text, rest, gap, opn, pairs⟩ true) [0, 1] [2, 3, 4, 5, 6] _ (angTm hv1 hv2 ⟨by omega, hok.txt, hok.rst, hok.ol, hok.pl, hok.os, hok.ps⟩) rfl (fin_ [] rfl rfl hK))
        | false =>
          cbv
          refine cond_F hN rfl ?_
          rw [if_neg (fun h => nomatch h)] at hK
          cbv
          refine cond_ hN ?_ ?_ <;> intro o1
          · rw [ceq hN] at o1
            cbv
            refine cond_F hN rfl ?_
            rw [if_neg (fun h => nomatch h.2.1)] at hK
            cbv
            refine op_ hN (call_ (whole_a token hok.tok) hG [] rfl rfl rfl rfl rfl ?_)
            intro w hw
            rw [← hw] at hK
            clear hw
            cases w with
            | false =>
              rw [if_pos rfl] at hK
              cbv
              refine cond_T hN rfl ?_
              cbv
              exact hf _ _ (fin_close rfl (.ang ⟨state, back, chk, scope, ent, token, text, rest, gap, opn, pairs⟩ true) [0, 1] [2, 3, 4, 5, 6] _ (angTm hv1 hv2 hok) rfl (fin_ [] rfl rfl hK))
            | true =>
              rw [if_neg (fun h => nomatch h)] at hK
              cbv
              refine cond_F hN rfl ?_
              cbv
              refine cond_ hN ?_ ?_ <;> intro k1 <;> rw [ceq hN] at k1
              · rw [if_pos (of_decide_eq_true k1)] at hK
                cbv
                refine cond_ hN ?_ ?_ <;> intro k2 <;> rw [cne hN] at k2
                · rw [if_pos (by simpa using k2)] at hK
                  cbv
                  exact hf _ _ (fin_close rfl (.ang ⟨state, back, chk, scope, ent, token, text, rest, gap, opn, pairs⟩ true) [0, 1] [2, 3, 4, 5, 6] _ (angTm hv1 hv2 hok) rfl (fin_ [] rfl rfl hK))
                · rw [if_neg (by simpa using k2)] at hK
                  cbv
                  exact hf _ _ (fin_close rfl (.ang ⟨4, back, chk, scope, ent, token, text, rest, gap, opn, pairs⟩ true) [0, 1] [2, 3, 4, 5, 6] _ (angTm hv1 hv2 hok) rfl (fin_ [] rfl rfl hK))
              · rw [if_neg (of_decide_eq_false k1)] at hK
                cbv
                refine cond_ hN ?_ ?_ <;> intro k3 <;> rw [ceq hN] at k3
                · rw [if_pos (of_decide_eq_true k3)] at hK
                  cbv
                  refine cond_ hN ?_ ?_ <;> intro k4 <;> rw [cne hN] at k4
                  · rw [if_pos (by simpa using k4)] at hK
                    cbv
                    exact hf _ _ (fin_close rfl (.ang ⟨state, back, chk, scope, ent, token, text, rest, gap, opn, pairs⟩ true) [0, 1] [2, 3, 4, 5, 6] _ (angTm hv1 hv2 hok) rfl (fin_ [] rfl rfl hK))
                  · rw [if_neg (by simpa using k4)] at hK
                    cbv
                    refine cond_ hN ?_ ?_ <;> intro k5 <;> rw [cge hN] at k5
                    · have k5 : pairs.length ≥ 20 := by have : Int.ofNat len2 ≥ 20 := of_decide_eq_true k5; simp at this; omega
                      rw [if_pos k5] at hK
                      cbv
                      exact hf _ _ (fin_close rfl (.ang ⟨state, back, chk, scope, ent, token, text, rest, gap, opn, pairs⟩ true) [0, 1] [2, 3, 4, 5, 6] _ (angTm hv1 hv2 hok) rfl (fin_ [] rfl rfl hK))
                    · have k5 : ¬ pairs.length ≥ 20 := by have : ¬ Int.ofNat len2 ≥ 20 := of_decide_eq_false k5; simp at this; omega
                      rw [if_neg k5] at hK
                      cbv
                      exact hf _ _ (fin_close rfl (.ang ⟨9, back, chk, scope, ent, token, text, rest, gap, opn, pairs⟩ true) [0, 1] [2, 3, 4, 5, 6] _ (angTm hv1 hv2 hok) rfl (fin_ [] rfl rfl hK))
                · rw [if_neg (of_decide_eq_false k3)] at hK
                  cbv
                  refine cond_ hN ?_ ?_ <;> intro k6 <;> rw [ceq hN] at k6
                  · rw [if_pos (of_decide_eq_true k6)] at hK
                    cbv
                    refine op_ hN (op_close rfl (.ang ⟨14, back, chk, scope, ent, token, text, rest, gap, opn, pairs⟩ true) [0, 1] [2, 3, 4, 5, 6] _ (angTm hv1 hv2 hok) rfl rfl ?_)
                    refine call_ (ends_a hr ⟨⟨14, back, chk, scope, ent, token, text, rest, gap, opn, pairs⟩, core⟩ x b hb) hG [0, 1] rfl rfl rfl rfl rfl ?_
                    have hK2 := hK
                    clear hK
                    change PostN _ (angEnds right x ⟨⟨14, back, chk, scope, ent, token, text, rest, gap, opn, pairs⟩, core⟩) at hK2
                    change PostN _ (angEnds right x ⟨⟨14, back, chk, scope, ent, token, text, rest, gap, opn, pairs⟩, core⟩)
                    generalize angEnds right x ⟨⟨14, back, chk, scope, ent, token, text, rest, gap, opn, pairs⟩, core⟩ = y at hK2 ⊢
                    cases y with
                    | none => exact hK2.elim
                    | some y =>
                      obtain ⟨e, s2⟩ := y
                      cbv
                      exact hf _ _ (fin_ [] rfl rfl hK2)
                  · rw [if_neg (of_decide_eq_false k6)] at hK
                    by_cases ho : opn.length ≥ 900000
                    · rw [if_pos ho] at hK
                      exact hK.elim
                    rw [if_neg ho] at hK
                    have hok3 : AngOk token text rest (opn ++ [token]) [] := ⟨hok.tok, hok.txt, hok.rst, by rw [List.length_append, List.length_singleton]; omega, Nat.zero_le _, fun y hy => (List.mem_append.1 hy).elim (fun h => hok.os y h) (fun h => by rw [List.mem_singleton.1 h]; exact hok.tok), fun y hy => nomatch hy⟩
                    cbv
                    repeat' (first | exact True.intro | with_reducible refine dup ?_ | refine And.intro ?_ ?_)
                    all_goals
                      refine op_ hN (append_vec (new := [token]) (z := ⟨#[]⟩) ty_ok rfl rfl rfl rfl (fun k => by simp) rfl rfl wideS rfl rfl (src_cells wideS rfl (fun _ _ _ _ => rfl) rfl) hv1.pr hv1.room hv1.fits (by simp; omega) (by decide) ?_)
                      intro p' lo' m' cap' xs' hm' e1 e2 e3 e4
                      cbv
                      repeat' (first | exact True.intro | with_reducible refine dup ?_ | refine And.intro ?_ ?_)
                      all_goals
                        refine op_ hN (op_noArr true 200 201 273 encPr [] rfl rfl (op_cput 0 [.int .i64 7, .int .i64 back, .ptr 4 0, .ptr 5 0, .ptr 6 0, .str token, .str text, .str rest, .bool false, .vec p' 21 1 lo' m' cap', .vec false 200 2 0 0 0, .fn (.func 31) [.ptr 1 0] []] rfl (fun _ => rfl) (op_close rfl (.ang ⟨7, back, chk, scope, ent, token, text, rest, false, opn ++ [token], []⟩ true) [0, 1] [21, 200, 4, 5, 6] _ (angTm ⟨e1, e2, e3, by rw [e4, hv1.eq]⟩ (vecNil : VecOk false 0 0 0 ([] : List (ByteArray × ByteArray)) []) hok3) rfl rfl ?_)))
                        refine call_ (hA ⟨⟨7, back, chk, scope, ent, token, text, rest, false, opn ++ [token], []⟩, core⟩) hG [0, 1] rfl rfl rfl rfl rfl ?_
                        have hK2 := hK
                        clear hK
                        change PostN _ (attr x ⟨⟨7, back, chk, scope, ent, token, text, rest, false, opn ++ [token], []⟩, core⟩) at hK2
                        change PostN _ (attr x ⟨⟨7, back, chk, scope, ent, token, text, rest, false, opn ++ [token], []⟩, core⟩)
                        generalize attr x ⟨⟨7, back, chk, scope, ent, token, text, rest, false, opn ++ [token], []⟩, core⟩ = y at hK2 ⊢
                        cases y with
                        | none => exact hK2.elim
                        | some y =>
                          obtain ⟨e, s2⟩ := y
                          cbv
                          exact hf _ _ (fin_ [] rfl rfl hK2)
          · rw [ceq hN] at o1
            rw [if_neg (fun h => of_decide_eq_false o1 h.1)] at hK
            cbv
            refine op_ hN (call_ (whole_a token hok.tok) hG [] rfl rfl rfl rfl rfl ?_)
            intro w hw
            rw [← hw] at hK
            clear hw
            cases w with
            | false =>
              rw [if_pos rfl] at hK
              cbv
              refine cond_T hN rfl ?_
              cbv
              exact hf _ _ (fin_close rfl (.ang ⟨state, back, chk, scope, ent, token, text, rest, gap, opn, pairs⟩ true) [0, 1] [2, 3, 4, 5, 6] _ (angTm hv1 hv2 hok) rfl (fin_ [] rfl rfl hK))
            | true =>
              rw [if_neg (fun h => nomatch h)] at hK
              cbv
              refine cond_F hN rfl ?_
              cbv
              refine cond_ hN ?_ ?_ <;> intro k1 <;> rw [ceq hN] at k1
              · rw [if_pos (of_decide_eq_true k1)] at hK
                cbv
                refine cond_ hN ?_ ?_ <;> intro k2 <;> rw [cne hN] at k2
                · rw [if_pos (by simpa using k2)] at hK
                  cbv
                  exact hf _ _ (fin_close rfl (.ang ⟨state, back, chk, scope, ent, token, text, rest, gap, opn, pairs⟩ true) [0, 1] [2, 3, 4, 5, 6] _ (angTm hv1 hv2 hok) rfl (fin_ [] rfl rfl hK))
                · rw [if_neg (by simpa using k2)] at hK
                  cbv
                  exact hf _ _ (fin_close rfl (.ang ⟨4, back, chk, scope, ent, token, text, rest, gap, opn, pairs⟩ true) [0, 1] [2, 3, 4, 5, 6] _ (angTm hv1 hv2 hok) rfl (fin_ [] rfl rfl hK))
              · rw [if_neg (of_decide_eq_false k1)] at hK
                cbv
                refine cond_ hN ?_ ?_ <;> intro k3 <;> rw [ceq hN] at k3
                · rw [if_pos (of_decide_eq_true k3)] at hK
                  cbv
                  refine cond_ hN ?_ ?_ <;> intro k4 <;> rw [cne hN] at k4
                  · rw [if_pos (by simpa using k4)] at hK
                    cbv
                    exact hf _ _ (fin_close rfl (.ang ⟨state, back, chk, scope, ent, token, text, rest, gap, opn, pairs⟩ true) [0, 1] [2, 3, 4, 5, 6] _ (angTm hv1 hv2 hok) rfl (fin_ [] rfl rfl hK))
                  · rw [if_neg (by simpa using k4)] at hK
                    cbv
                    refine cond_ hN ?_ ?_ <;> intro k5 <;> rw [cge hN] at k5
                    · have k5 : pairs.length ≥ 20 := by have : Int.ofNat len2 ≥ 20 := of_decide_eq_true k5; simp at this; omega
                      rw [if_pos k5] at hK
                      cbv
                      exact hf _ _ (fin_close rfl (.ang ⟨state, back, chk, scope, ent, token, text, rest, gap, opn, pairs⟩ true) [0, 1] [2, 3, 4, 5, 6] _ (angTm hv1 hv2 hok) rfl (fin_ [] rfl rfl hK))
                    · have k5 : ¬ pairs.length ≥ 20 := by have : ¬ Int.ofNat len2 ≥ 20 := of_decide_eq_false k5; simp at this; omega
                      rw [if_neg k5] at hK
                      cbv
                      exact hf _ _ (fin_close rfl (.ang ⟨9, back, chk, scope, ent, token, text, rest, gap, opn, pairs⟩ true) [0, 1] [2, 3, 4, 5, 6] _ (angTm hv1 hv2 hok) rfl (fin_ [] rfl rfl hK))
                · rw [if_neg (of_decide_eq_false k3)] at hK
                  cbv
                  refine cond_ hN ?_ ?_ <;> intro k6 <;> rw [ceq hN] at k6
                  · rw [if_pos (of_decide_eq_true k6)] at hK
                    cbv
                    refine op_ hN (op_close rfl (.ang ⟨14, back, chk, scope, ent, token, text, rest, gap, opn, pairs⟩ true) [0, 1] [2, 3, 4, 5, 6] _ (angTm hv1 hv2 hok) rfl rfl ?_)
                    refine call_ (ends_a hr ⟨⟨14, back, chk, scope, ent, token, text, rest, gap, opn, pairs⟩, core⟩ x b hb) hG [0, 1] rfl rfl rfl rfl rfl ?_
                    have hK2 := hK
                    clear hK
                    change PostN _ (angEnds right x ⟨⟨14, back, chk, scope, ent, token, text, rest, gap, opn, pairs⟩, core⟩) at hK2
                    change PostN _ (angEnds right x ⟨⟨14, back, chk, scope, ent, token, text, rest, gap, opn, pairs⟩, core⟩)
                    generalize angEnds right x ⟨⟨14, back, chk, scope, ent, token, text, rest, gap, opn, pairs⟩, core⟩ = y at hK2 ⊢
                    cases y with
                    | none => exact hK2.elim
                    | some y =>
                      obtain ⟨e, s2⟩ := y
                      cbv
                      exact hf _ _ (fin_ [] rfl rfl hK2)
                  · rw [if_neg (of_decide_eq_false k6)] at hK
                    by_cases ho : opn.length ≥ 900000
                    · rw [if_pos ho] at hK
                      exact hK.elim
                    rw [if_neg ho] at hK
                    have hok3 : AngOk token text rest (opn ++ [token]) [] := ⟨hok.tok, hok.txt, hok.rst, by rw [List.length_append, List.length_singleton]; omega, Nat.zero_le _, fun y hy => (List.mem_append.1 hy).elim (fun h => hok.os y h) (fun h => by rw [List.mem_singleton.1 h]; exact hok.tok), fun y hy => nomatch hy⟩
                    cbv
                    repeat' (first | exact True.intro | with_reducible refine dup ?_ | refine And.intro ?_ ?_)
                    all_goals
                      refine op_ hN (append_vec (new := [token]) (z := ⟨#[]⟩) ty_ok rfl rfl rfl rfl (fun k => by simp) rfl rfl wideS rfl rfl (src_cells wideS rfl (fun _ _ _ _ => rfl) rfl) hv1.pr hv1.room hv1.fits (by simp; omega) (by decide) ?_)
                      intro p' lo' m' cap' xs' hm' e1 e2 e3 e4
                      cbv
                      repeat' (first | exact True.intro | with_reducible refine dup ?_ | refine And.intro ?_ ?_)
                      all_goals
                        refine op_ hN (op_noArr true 200 201 273 encPr [] rfl rfl (op_cput 0 [.int .i64 7, .int .i64 back, .ptr 4 0, .ptr 5 0, .ptr 6 0, .str token, .str text, .str rest, .bool false, .vec p' 21 1 lo' m' cap', .vec false 200 2 0 0 0, .fn (.func 31) [.ptr 1 0] []] rfl (fun _ => rfl) (op_close rfl (.ang ⟨7, back, chk, scope, ent, token, text, rest, false, opn ++ [token], []⟩ true) [0, 1] [21, 200, 4, 5, 6] _ (angTm ⟨e1, e2, e3, by rw [e4, hv1.eq]⟩ (vecNil : VecOk false 0 0 0 ([] : List (ByteArray × ByteArray)) []) hok3) rfl rfl ?_)))
                        refine call_ (hA ⟨⟨7, back, chk, scope, ent, token, text, rest, false, opn ++ [token], []⟩, core⟩) hG [0, 1] rfl rfl rfl rfl rfl ?_
                        have hK2 := hK
                        clear hK
                        change PostN _ (attr x ⟨⟨7, back, chk, scope, ent, token, text, rest, false, opn ++ [token], []⟩, core⟩) at hK2
                        change PostN _ (attr x ⟨⟨7, back, chk, scope, ent, token, text, rest, false, opn ++ [token], []⟩, core⟩)
                        generalize attr x ⟨⟨7, back, chk, scope, ent, token, text, rest, false, opn ++ [token], []⟩, core⟩ = y at hK2 ⊢
                        cases y with
                        | none => exact hK2.elim
                        | some y =>
                          obtain ⟨e, s2⟩ := y
                          cbv
                          exact hf _ _ (fin_ [] rfl rfl hK2)
    · rw [clt hN] at g2
      rw [g2, Bool.false_and] at hK
      have g2 : ¬ b < 128 := of_decide_eq_false g2
      rw [if_neg (fun h => nomatch h)] at hK
      cbv
      refine cond_F hN (by rw [ceq hN]; exact decide_eq_false (fun h => g2 (by omega))) ?_
      rw [if_neg (fun h => g2 (by omega))] at hK
      cbv
      refine op_ hN (call_ (whole_a token hok.tok) hG [] rfl rfl rfl rfl rfl ?_)
      intro w hw
      rw [← hw] at hK
      clear hw
      cases w with
      | false =>
        rw [if_pos rfl] at hK
        cbv
        refine cond_T hN rfl ?_
        cbv
        exact hf _ _ (fin_close rfl (.ang ⟨state, back, chk, scope, ent, token, text, rest, gap, opn, pairs⟩ true) [0, 1] [2, 3, 4, 5, 6] _ (angTm hv1 hv2 hok) rfl (fin_ [] rfl rfl hK))
      | true =>
        rw [if_neg (fun h => nomatch h)] at hK
        cbv
        refine cond_F hN rfl ?_
        cbv
        refine cond_ hN ?_ ?_ <;> intro k1 <;> rw [ceq hN] at k1
        · rw [if_pos (of_decide_eq_true k1)] at hK
          cbv
          refine cond_ hN ?_ ?_ <;> intro k2 <;> rw [cne hN] at k2
          · rw [if_pos (by simpa using k2)] at hK
            cbv
            exact hf _ _ (fin_close rfl (.ang ⟨state, back, chk, scope, ent, token, text, rest, gap, opn, pairs⟩ true) [0, 1] [2, 3, 4, 5, 6] _ (angTm hv1 hv2 hok) rfl (fin_ [] rfl rfl hK))
          · rw [if_neg (by simpa using k2)] at hK
            cbv
            exact hf _ _ (fin_close rfl (.ang ⟨4, back, chk, scope, ent, token, text, rest, gap, opn, pairs⟩ true) [0, 1] [2, 3, 4, 5, 6] _ (angTm hv1 hv2 hok) rfl (fin_ [] rfl rfl hK))
        · rw [if_neg (of_decide_eq_false k1)] at hK
          cbv
          refine cond_ hN ?_ ?_ <;> intro k3 <;> rw [ceq hN] at k3
          · rw [if_pos (of_decide_eq_true k3)] at hK
            cbv
            refine cond_ hN ?_ ?_ <;> intro k4 <;> rw [cne hN] at k4
            · rw [if_pos (by simpa using k4)] at hK
              cbv
              exact hf _ _ (fin_close rfl (.ang ⟨state, back, chk, scope, ent, token, text, rest, gap, opn, pairs⟩ true) [0, 1] [2, 3, 4, 5, 6] _ (angTm hv1 hv2 hok) rfl (fin_ [] rfl rfl hK))
            · rw [if_neg (by simpa using k4)] at hK
              cbv
              refine cond_ hN ?_ ?_ <;> intro k5 <;> rw [cge hN] at k5
              · have k5 : pairs.length ≥ 20 := by have : Int.ofNat len2 ≥ 20 := of_decide_eq_true k5; simp at this; omega
                rw [if_pos k5] at hK
                cbv
                exact hf _ _ (fin_close rfl (.ang ⟨state, back, chk, scope, ent, token, text, rest, gap, opn, pairs⟩ true) [0, 1] [2, 3, 4, 5, 6] _ (angTm hv1 hv2 hok) rfl (fin_ [] rfl rfl hK))
              · have k5 : ¬ pairs.length ≥ 20 := by have : ¬ Int.ofNat len2 ≥ 20 := of_decide_eq_false k5; simp at this; omega
                rw [if_neg k5] at hK
                cbv
                exact hf _ _ (fin_close rfl (.ang ⟨9, back, chk, scope, ent, token, text, rest, gap, opn, pairs⟩ true) [0, 1] [2, 3, 4, 5, 6] _ (angTm hv1 hv2 hok) rfl (fin_ [] rfl rfl hK))
          · rw [if_neg (of_decide_eq_false k3)] at hK
            cbv
            refine cond_ hN ?_ ?_ <;> intro k6 <;> rw [ceq hN] at k6
            · rw [if_pos (of_decide_eq_true k6)] at hK
              cbv
              refine op_ hN (op_close rfl (.ang ⟨14, back, chk, scope, ent, token, text, rest, gap, opn, pairs⟩ true) [0, 1] [2, 3, 4, 5, 6] _ (angTm hv1 hv2 hok) rfl rfl ?_)
              refine call_ (ends_a hr ⟨⟨14, back, chk, scope, ent, token, text, rest, gap, opn, pairs⟩, core⟩ x b hb) hG [0, 1] rfl rfl rfl rfl rfl ?_
              have hK2 := hK
              clear hK
              change PostN _ (angEnds right x ⟨⟨14, back, chk, scope, ent, token, text, rest, gap, opn, pairs⟩, core⟩) at hK2
              change PostN _ (angEnds right x ⟨⟨14, back, chk, scope, ent, token, text, rest, gap, opn, pairs⟩, core⟩)
              generalize angEnds right x ⟨⟨14, back, chk, scope, ent, token, text, rest, gap, opn, pairs⟩, core⟩ = y at hK2 ⊢
              cases y with
              | none => exact hK2.elim
              | some y =>
                obtain ⟨e, s2⟩ := y
                cbv
                exact hf _ _ (fin_ [] rfl rfl hK2)
            · rw [if_neg (of_decide_eq_false k6)] at hK
              by_cases ho : opn.length ≥ 900000
              · rw [if_pos ho] at hK
                exact hK.elim
              rw [if_neg ho] at hK
              have hok3 : AngOk token text rest (opn ++ [token]) [] := ⟨hok.tok, hok.txt, hok.rst, by rw [List.length_append, List.length_singleton]; omega, Nat.zero_le _, fun y hy => (List.mem_append.1 hy).elim (fun h => hok.os y h) (fun h => by rw [List.mem_singleton.1 h]; exact hok.tok), fun y hy => nomatch hy⟩
              cbv
              repeat' (first | exact True.intro | with_reducible refine dup ?_ | refine And.intro ?_ ?_)
              all_goals
                refine op_ hN (append_vec (new := [token]) (z := ⟨#[]⟩) ty_ok rfl rfl rfl rfl (fun k => by simp) rfl rfl wideS rfl rfl (src_cells wideS rfl (fun _ _ _ _ => rfl) rfl) hv1.pr hv1.room hv1.fits (by simp; omega) (by decide) ?_)
                intro p' lo' m' cap' xs' hm' e1 e2 e3 e4
                cbv
                repeat' (first | exact True.intro | with_reducible refine dup ?_ | refine And.intro ?_ ?_)
                all_goals
                  refine op_ hN (op_noArr true 200 201 273 encPr [] rfl rfl (op_cput 0 [.int .i64 7, .int .i64 back, .ptr 4 0, .ptr 5 0, .ptr 6 0, .str token, .str text, .str rest, .bool false, .vec p' 21 1 lo' m' cap', .vec false 200 2 0 0 0, .fn (.func 31) [.ptr 1 0] []] rfl (fun _ => rfl) (op_close rfl (.ang ⟨7, back, chk, scope, ent, token, text, rest, false, opn ++ [token], []⟩ true) [0, 1] [21, 200, 4, 5, 6] _ (angTm ⟨e1, e2, e3, by rw [e4, hv1.eq]⟩ (vecNil : VecOk false 0 0 0 ([] : List (ByteArray × ByteArray)) []) hok3) rfl rfl ?_)))
                  refine call_ (hA ⟨⟨7, back, chk, scope, ent, token, text, rest, false, opn ++ [token], []⟩, core⟩) hG [0, 1] rfl rfl rfl rfl rfl ?_
                  have hK2 := hK
                  clear hK
                  change PostN _ (attr x ⟨⟨7, back, chk, scope, ent, token, text, rest, false, opn ++ [token], []⟩, core⟩) at hK2
                  change PostN _ (attr x ⟨⟨7, back, chk, scope, ent, token, text, rest, false, opn ++ [token], []⟩, core⟩)
                  generalize attr x ⟨⟨7, back, chk, scope, ent, token, text, rest, false, opn ++ [token], []⟩, core⟩ = y at hK2 ⊢
                  cases y with
                  | none => exact hK2.elim
                  | some y =>
                    obtain ⟨e, s2⟩ := y
                    cbv
                    exact hf _ _ (fin_ [] rfl rfl hK2)
end Hx
