/-
  Part of a proof.
-/
import Derived.Test.YtlmbbchfaoeebaaGreatDoorV17
set_option linter.unusedVariables false
set_option linter.unusedSimpArgs false
/- angle.machine: says, refers, defined: the walks. -/
namespace Hx
open Go Sx Go.Proofs
set_option maxRecDepth 100000
set_option maxHeartbeats 4000000
set_option linter.unusedVariables false
set_option linter.unusedSimpArgs false
variable {GOk : Gl → Prop}
theorem enc_size (r : Int) : (Utf8.encode r).size ≤ 4 := by
  unfold Utf8.encode
  generalize (if Utf8.valid r then r.toNat else Utf8.runeError) = c
  simp only []
  by_cases h1 : c < 0x80
  · rw [if_pos h1]; exact Nat.le_of_ble_eq_true rfl
  · rw [if_neg h1]
    by_cases h2 : c < 0x800
    · rw [if_pos h2]; exact Nat.le_of_ble_eq_true rfl
    · rw [if_neg h2]
      by_cases h3 : c < 0x10000
      · rw [if_pos h3]; exact Nat.le_of_ble_eq_true rfl
      · rw [if_neg h3]; exact Nat.le_of_ble_eq_true rfl
theorem encR_size (b : Int) : (encR b).size ≤ 4 := enc_size _
variable {right : Ev → Bool}
theorem says_a (hr : RgtOk GOk right) (s : OS Ang) (x : UInt8) (b : Int) (hb : bOf x = b) : Triple (BB Ip GOk) 204 2 2 [.ptr 0 0, .int .u8 b] (ocA s) (fun K => PostN K (angSays right x s)) := by
  obtain ⟨⟨state, back, chk, scope, ent, token, text, rest, gap, opn, pairs⟩, core⟩ := s
  refine triple_of BB_ok (tb := ty) rfl (n0 := 7) (fun y : {cs' // Tm (.ang ⟨state, back, chk, scope, ent, token, text, rest, gap, opn, pairs⟩ true) cs'} => csRen (sg [0, 1] 2) y.1 ++ [.abs (.core core 69 48) [1, 0]]) pl204 Tryz.call204 Tryz.func204 rfl (by kernel_rfl) (Nat.le_of_ble_eq_true rfl) (by decide) rfl (pre_open rfl rfl rfl) ?_
  rintro G hG K hK W bi bc bs bk bu bb bo bg bl bp bn be Ncond Nob Nop Nloop Nscope hN Nfin hf _ ⟨cs', hT⟩
  obtain ⟨p, lo, len, cap, xs, q, lo2, len2, cap2, ys, tl, hv1, hv2, hok, htl, -, rfl⟩ := id hT
  obtain rfl := htl rfl
  simp only at hv1 hv2 hok
  simp only [angSays, hb] at hK
  have hob : obsP [.nn 8] := ⟨by show (0 : Int) ≤ 8; decide, trivial⟩
  have hnb : bi .or .i64 (bi .shl .i64 state 8) (bi .and .i64 back 255) = bitI .or .i64 (bitI .shl .i64 state 8) (bitI .and .i64 back 255) := by rw [bi_ hN]
  generalize bitI .or .i64 (bitI .shl .i64 state 8) (bitI .and .i64 back 255) = nb at hnb hK
  cbv
  refine cond_ hN ?_ ?_ <;> intro h1 <;> rw [ceq hN] at h1
  · rw [if_pos (of_decide_eq_true h1)] at hK
    cbv
    repeat' (first | exact True.intro | with_reducible refine dup ?_ | refine And.intro ?_ ?_ | (refine ob_ hN hob ?_; try cbv))
    all_goals
      simp only [hnb]
      exact hf _ _ (fin_close rfl (.ang ⟨15, nb, chk, scope, ent, token, text, sEmp, gap, opn, pairs⟩ true) [0, 1] [2, 3, 4, 5, 6] _ (angTm hv1 hv2 hok.rest0) rfl (fin_ [] rfl rfl hK))
  · rw [if_neg (of_decide_eq_false h1)] at hK
    cbv
    refine cond_ hN ?_ ?_ <;> intro h2 <;> rw [ceq hN] at h2
    · have h2 : state = 10 := of_decide_eq_true h2
      cbv
      refine cond_ hN ?_ ?_ <;> intro h3 <;> rw [ceq hN] at h3
      · rw [if_pos ⟨h2, of_decide_eq_true h3⟩] at hK
        cbv
        refine op_ hN (op_close rfl (.ang ⟨state, back, chk, scope, ent, token, text, rest, gap, opn, pairs⟩ true) [0, 1] [2, 3, 4, 5, 6] _ (angTm hv1 hv2 hok) rfl rfl ?_)
        refine call_ (quoted_a ⟨⟨state, back, chk, scope, ent, token, text, rest, gap, opn, pairs⟩, core⟩) hG [0, 1] rfl rfl rfl rfl rfl ?_
        have hK2 := hK
        clear hK
        change PostN _ (angQuoted ⟨⟨state, back, chk, scope, ent, token, text, rest, gap, opn, pairs⟩, core⟩) at hK2
        change PostN _ (angQuoted ⟨⟨state, back, chk, scope, ent, token, text, rest, gap, opn, pairs⟩, core⟩)
        generalize angQuoted ⟨⟨state, back, chk, scope, ent, token, text, rest, gap, opn, pairs⟩, core⟩ = y at hK2 ⊢
        cases y with
        | none => exact hK2.elim
        | some y =>
          obtain ⟨e, s2⟩ := y
          cbv
          exact hf _ _ (fin_ [] rfl rfl hK2)
      · have h3 := of_decide_eq_false h3
        rw [if_neg (fun h => h3 h.2)] at hK
        cbv
        refine cond_ hN ?_ ?_ <;> intro h4 <;> rw [ceq hN] at h4
        · have h4 : state = 12 := of_decide_eq_true h4
          cbv
          refine cond_ hN ?_ ?_ <;> intro h5 <;> rw [ceq hN] at h5
          · rw [if_pos ⟨h4, of_decide_eq_true h5⟩] at hK
            cbv
            refine op_ hN (op_close rfl (.ang ⟨1, back, chk, scope, ent, token, text, rest, gap, opn, pairs⟩ true) [0, 1] [2, 3, 4, 5, 6] _ (angTm hv1 hv2 hok) rfl rfl ?_)
            refine call_ (texts_a hr ⟨⟨1, back, chk, scope, ent, token, text, rest, gap, opn, pairs⟩, core⟩) hG [0, 1] rfl rfl rfl rfl rfl ?_
            have hK2 := hK
            clear hK
            change PostN _ (angTexts right ⟨⟨1, back, chk, scope, ent, token, text, rest, gap, opn, pairs⟩, core⟩) at hK2
            change PostN _ (angTexts right ⟨⟨1, back, chk, scope, ent, token, text, rest, gap, opn, pairs⟩, core⟩)
            generalize angTexts right ⟨⟨1, back, chk, scope, ent, token, text, rest, gap, opn, pairs⟩, core⟩ = y at hK2 ⊢
            cases y with
            | none => exact hK2.elim
            | some y =>
              obtain ⟨e, s2⟩ := y
              cbv
              exact hf _ _ (fin_ [] rfl rfl hK2)
          · have h5 := of_decide_eq_false h5
            rw [if_neg (fun h => h5 h.2)] at hK
            cbv
            refine cond_ hN ?_ ?_ <;> intro h6 <;> rw [ceq hN] at h6
            · rw [if_pos (.inl (of_decide_eq_true h6))] at hK
              cbv
              exact hf _ _ (fin_close rfl (.ang ⟨state, back, chk, scope, ent, token, text, rest, gap, opn, pairs⟩ true) [0, 1] [2, 3, 4, 5, 6] _ (angTm hv1 hv2 hok) rfl (fin_ [] rfl rfl hK))
            · have h6 := of_decide_eq_false h6
              cbv
              refine cond_ hN ?_ ?_ <;> intro h7 <;> rw [clt hN] at h7
              · have h7 : b < 32 := of_decide_eq_true h7
                cbv
                refine op_ hN (call_ (blank_a b) hG [] rfl rfl rfl rfl rfl ?_)
                intro c hc
                rw [← hc] at hK
                clear hc
                cases c with
                | false =>
                  rw [if_pos (.inr ⟨h7, rfl⟩)] at hK
                  cbv
                  refine cond_T hN rfl ?_
                  cbv
                  exact hf _ _ (fin_close rfl (.ang ⟨state, back, chk, scope, ent, token, text, rest, gap, opn, pairs⟩ true) [0, 1] [2, 3, 4, 5, 6] _ (angTm hv1 hv2 hok) rfl (fin_ [] rfl rfl hK))
                | true =>
                  rw [if_neg (fun h => h.elim h6 (fun h => nomatch h.2))] at hK
                  cbv
                  refine cond_F hN rfl ?_
                  cbv
                  refine op_ hN (op_arr 7 encB [x] rfl (fun ρ => by rw [← hb]; rfl) (op_vals (vals' := [.vec true 7 1 0 1 1]) (fun ρ F w h => by simp [SV.denL, SV.den]) (bytes_str ty_ok rfl rfl rfl rfl rfl rfl rfl (by simp) (fun h => nomatch h) ?_)))
                  intro t ht
                  have ht : t = ⟨#[x]⟩ := ba_of ht
                  have hts : t.size ≤ 200 := by rw [ht]; exact Nat.le_of_ble_eq_true rfl
                  rw [← ht] at hK
                  clear ht
                  cbv
                  refine op_ hN (op_close rfl (.ang ⟨state, back, chk, scope, ent, token, text, rest, gap, opn, pairs⟩ true) [0, 1] [2, 3, 4, 5, 6] _ (angTm hv1 hv2 hok) rfl rfl ?_)
                  refine call_ (adds_a ⟨⟨state, back, chk, scope, ent, token, text, rest, gap, opn, pairs⟩, core⟩ t hts) hG [0, 1] rfl rfl rfl rfl rfl ?_
                  have hK2 := hK
                  clear hK
                  change PostN _ (angAdds t ⟨⟨state, back, chk, scope, ent, token, text, rest, gap, opn, pairs⟩, core⟩) at hK2
                  change PostN _ (angAdds t ⟨⟨state, back, chk, scope, ent, token, text, rest, gap, opn, pairs⟩, core⟩)
                  generalize angAdds t ⟨⟨state, back, chk, scope, ent, token, text, rest, gap, opn, pairs⟩, core⟩ = y at hK2 ⊢
                  cases y with
                  | none => exact hK2.elim
                  | some y =>
                    obtain ⟨e, s2⟩ := y
                    cbv
                    exact hf _ _ (fin_ [] rfl rfl hK2)
              · have h7 : ¬ b < 32 := of_decide_eq_false h7
                rw [if_neg (fun h => h.elim h6 (fun h => h7 h.1))] at hK
                cbv
                refine op_ hN (op_arr 7 encB [x] rfl (fun ρ => by rw [← hb]; rfl) (op_vals (vals' := [.vec true 7 1 0 1 1]) (fun ρ F w h => by simp [SV.denL, SV.den]) (bytes_str ty_ok rfl rfl rfl rfl rfl rfl rfl (by simp) (fun h => nomatch h) ?_)))
                intro t ht
                have ht : t = ⟨#[x]⟩ := ba_of ht
                have hts : t.size ≤ 200 := by rw [ht]; exact Nat.le_of_ble_eq_true rfl
                rw [← ht] at hK
                clear ht
                cbv
                refine op_ hN (op_close rfl (.ang ⟨state, back, chk, scope, ent, token, text, rest, gap, opn, pairs⟩ true) [0, 1] [2, 3, 4, 5, 6] _ (angTm hv1 hv2 hok) rfl rfl ?_)
                refine call_ (adds_a ⟨⟨state, back, chk, scope, ent, token, text, rest, gap, opn, pairs⟩, core⟩ t hts) hG [0, 1] rfl rfl rfl rfl rfl ?_
                have hK2 := hK
                clear hK
                change PostN _ (angAdds t ⟨⟨state, back, chk, scope, ent, token, text, rest, gap, opn, pairs⟩, core⟩) at hK2
                change PostN _ (angAdds t ⟨⟨state, back, chk, scope, ent, token, text, rest, gap, opn, pairs⟩, core⟩)
                generalize angAdds t ⟨⟨state, back, chk, scope, ent, token, text, rest, gap, opn, pairs⟩, core⟩ = y at hK2 ⊢
                cases y with
                | none => exact hK2.elim
                | some y =>
                  obtain ⟨e, s2⟩ := y
                  cbv
                  exact hf _ _ (fin_ [] rfl rfl hK2)
        · have h4 := of_decide_eq_false h4
          rw [if_neg (fun h => h4 h.1)] at hK
          cbv
          refine cond_ hN ?_ ?_ <;> intro h6 <;> rw [ceq hN] at h6
          · rw [if_pos (.inl (of_decide_eq_true h6))] at hK
            cbv
            exact hf _ _ (fin_close rfl (.ang ⟨state, back, chk, scope, ent, token, text, rest, gap, opn, pairs⟩ true) [0, 1] [2, 3, 4, 5, 6] _ (angTm hv1 hv2 hok) rfl (fin_ [] rfl rfl hK))
          · have h6 := of_decide_eq_false h6
            cbv
            refine cond_ hN ?_ ?_ <;> intro h7 <;> rw [clt hN] at h7
            · have h7 : b < 32 := of_decide_eq_true h7
              cbv
              refine op_ hN (call_ (blank_a b) hG [] rfl rfl rfl rfl rfl ?_)
              intro c hc
              rw [← hc] at hK
              clear hc
              cases c with
              | false =>
                rw [if_pos (.inr ⟨h7, rfl⟩)] at hK
                cbv
                refine cond_T hN rfl ?_
                cbv
                exact hf _ _ (fin_close rfl (.ang ⟨state, back, chk, scope, ent, token, text, rest, gap, opn, pairs⟩ true) [0, 1] [2, 3, 4, 5, 6] _ (angTm hv1 hv2 hok) rfl (fin_ [] rfl rfl hK))
              | true =>
                rw [if_neg (fun h => h.elim h6 (fun h => nomatch h.2))] at hK
                cbv
                refine cond_F hN rfl ?_
                cbv
                refine op_ hN (op_arr 7 encB [x] rfl (fun ρ => by rw [← hb]; rfl) (op_vals (vals' := [.vec true 7 1 0 1 1]) (fun ρ F w h => by simp [SV.denL, SV.den]) (bytes_str ty_ok rfl rfl rfl rfl rfl rfl rfl (by simp) (fun h => nomatch h) ?_)))
                intro t ht
                have ht : t = ⟨#[x]⟩ := ba_of ht
                have hts : t.size ≤ 200 := by rw [ht]; exact Nat.le_of_ble_eq_true rfl
                rw [← ht] at hK
                clear ht
                cbv
                refine op_ hN (op_close rfl (.ang ⟨state, back, chk, scope, ent, token, text, rest, gap, opn, pairs⟩ true) [0, 1] [2, 3, 4, 5, 6] _ (angTm hv1 hv2 hok) rfl rfl ?_)
                refine call_ (adds_a ⟨⟨state, back, chk, scope, ent, token, text, rest, gap, opn, pairs⟩, core⟩ t hts) hG [0, 1] rfl rfl rfl rfl rfl ?_
                have hK2 := hK
                clear hK
                change PostN _ (angAdds t ⟨⟨state, back, chk, scope, ent, token, text, rest, gap, opn, pairs⟩, core⟩) at hK2
                change PostN _ (angAdds t ⟨⟨state, back, chk, scope, ent, token, text, rest, gap, opn, pairs⟩, core⟩)
                generalize angAdds t ⟨⟨state, back, chk, scope, ent, token, text, rest, gap, opn, pairs⟩, core⟩ = y at hK2 ⊢
                cases y with
                | none => exact hK2.elim
                | some y =>
                  obtain ⟨e, s2⟩ := y
                  cbv
                  exact hf _ _ (fin_ [] rfl rfl hK2)
            · have h7 : ¬ b < 32 := of_decide_eq_false h7
              rw [if_neg (fun h => h.elim h6 (fun h => h7 h.1))] at hK
              cbv
              refine op_ hN (op_arr 7 encB [x] rfl (fun ρ => by rw [← hb]; rfl) (op_vals (vals' := [.vec true 7 1 0 1 1]) (fun ρ F w h => by simp [SV.denL, SV.den]) (bytes_str ty_ok rfl rfl rfl rfl rfl rfl rfl (by simp) (fun h => nomatch h) ?_)))
              intro t ht
              have ht : t = ⟨#[x]⟩ := ba_of ht
              have hts : t.size ≤ 200 := by rw [ht]; exact Nat.le_of_ble_eq_true rfl
              rw [← ht] at hK
              clear ht
              cbv
              refine op_ hN (op_close rfl (.ang ⟨state, back, chk, scope, ent, token, text, rest, gap, opn, pairs⟩ true) [0, 1] [2, 3, 4, 5, 6] _ (angTm hv1 hv2 hok) rfl rfl ?_)
              refine call_ (adds_a ⟨⟨state, back, chk, scope, ent, token, text, rest, gap, opn, pairs⟩, core⟩ t hts) hG [0, 1] rfl rfl rfl rfl rfl ?_
              have hK2 := hK
              clear hK
              change PostN _ (angAdds t ⟨⟨state, back, chk, scope, ent, token, text, rest, gap, opn, pairs⟩, core⟩) at hK2
              change PostN _ (angAdds t ⟨⟨state, back, chk, scope, ent, token, text, rest, gap, opn, pairs⟩, core⟩)
              generalize angAdds t ⟨⟨state, back, chk, scope, ent, token, text, rest, gap, opn, pairs⟩, core⟩ = y at hK2 ⊢
              cases y with
              | none => exact hK2.elim
              | some y =>
                obtain ⟨e, s2⟩ := y
                cbv
                exact hf _ _ (fin_ [] rfl rfl hK2)
    · have h2 := of_decide_eq_false h2
      rw [if_neg (fun h => h2 h.1)] at hK
      cbv
      refine cond_ hN ?_ ?_ <;> intro h4 <;> rw [ceq hN] at h4
      · have h4 : state = 12 := of_decide_eq_true h4
        cbv
        refine cond_ hN ?_ ?_ <;> intro h5 <;> rw [ceq hN] at h5
        · rw [if_pos ⟨h4, of_decide_eq_true h5⟩] at hK
          cbv
          refine op_ hN (op_close rfl (.ang ⟨1, back, chk, scope, ent, token, text, rest, gap, opn, pairs⟩ true) [0, 1] [2, 3, 4, 5, 6] _ (angTm hv1 hv2 hok) rfl rfl ?_)
          refine call_ (texts_a hr ⟨⟨1, back, chk, scope, ent, token, text, rest, gap, opn, pairs⟩, core⟩) hG [0, 1] rfl rfl rfl rfl rfl ?_
          have hK2 := hK
          clear hK
          change PostN _ (angTexts right ⟨⟨1, back, chk, scope, ent, token, text, rest, gap, opn, pairs⟩, core⟩) at hK2
          change PostN _ (angTexts right ⟨⟨1, back, chk, scope, ent, token, text, rest, gap, opn, pairs⟩, core⟩)
          generalize angTexts right ⟨⟨1, back, chk, scope, ent, token, text, rest, gap, opn, pairs⟩, core⟩ = y at hK2 ⊢
          cases y with
          | none => exact hK2.elim
          | some y =>
            obtain ⟨e, s2⟩ := y
            cbv
            exact hf _ _ (fin_ [] rfl rfl hK2)
        · have h5 := of_decide_eq_false h5
          rw [if_neg (fun h => h5 h.2)] at hK
          cbv
          refine cond_ hN ?_ ?_ <;> intro h6 <;> rw [ceq hN] at h6
          · rw [if_pos (.inl (of_decide_eq_true h6))] at hK
            cbv
            exact hf _ _ (fin_close rfl (.ang ⟨state, back, chk, scope, ent, token, text, rest, gap, opn, pairs⟩ true) [0, 1] [2, 3, 4, 5, 6] _ (angTm hv1 hv2 hok) rfl (fin_ [] rfl rfl hK))
          · have h6 := of_decide_eq_false h6
            cbv
            refine cond_ hN ?_ ?_ <;> intro h7 <;> rw [clt hN] at h7
            · have h7 : b < 32 := of_decide_eq_true h7
              cbv
              refine op_ hN (call_ (blank_a b) hG [] rfl rfl rfl rfl rfl ?_)
              intro c hc
              rw [← hc] at hK
              clear hc
              cases c with
              | false =>
                rw [if_pos (.inr ⟨h7, rfl⟩)] at hK
                cbv
                refine cond_T hN rfl ?_
                cbv
                exact hf _ _ (fin_close rfl (.ang ⟨state, back, chk, scope, ent, token, text, rest, gap, opn, pairs⟩ true) [0, 1] [2, 3, 4, 5, 6] _ (angTm hv1 hv2 hok) rfl (fin_ [] rfl rfl hK))
              | true =>
                rw [if_neg (fun h => h.elim h6 (fun h => nomatch h.2))] at hK
                cbv
                refine cond_F hN rfl ?_
                cbv
                refine op_ hN (op_arr 7 encB [x] rfl (fun ρ => by rw [← hb]; rfl) (op_vals (vals' := [.vec true 7 1 0 1 1]) (fun ρ F w h => by simp [SV.denL, SV.den]) (bytes_str ty_ok rfl rfl rfl rfl rfl rfl rfl (by simp) (fun h => nomatch h) ?_)))
                intro t ht
                have ht : t = ⟨#[x]⟩ := ba_of ht
                have hts : t.size ≤ 200 := by rw [ht]; exact Nat.le_of_ble_eq_true rfl
                rw [← ht] at hK
                clear ht
                cbv
                refine op_ hN (op_close rfl (.ang ⟨state, back, chk, scope, ent, token, text, rest, gap, opn, pairs⟩ true) [0, 1] [2, 3, 4, 5, 6] _ (angTm hv1 hv2 hok) rfl rfl ?_)
                refine call_ (adds_a ⟨⟨state, back, chk, scope, ent, token, text, rest, gap, opn, pairs⟩, core⟩ t hts) hG [0, 1] rfl rfl rfl rfl rfl ?_
                have hK2 := hK
                clear hK
                change PostN _ (angAdds t ⟨⟨state, back, chk, scope, ent, token, text, rest, gap, opn, pairs⟩, core⟩) at hK2
                change PostN _ (angAdds t ⟨⟨state, back, chk, scope, ent, token, text, rest, gap, opn, pairs⟩, core⟩)
                generalize angAdds t ⟨⟨state, back, chk, scope, ent, token, text, rest, gap, opn, pairs⟩, core⟩ = y at hK2 ⊢
                cases y with
                | none => exact hK2.elim
                | some y =>
                  obtain ⟨e, s2⟩ := y
                  cbv
                  exact hf _ _ (fin_ [] rfl rfl hK2)
            · have h7 : ¬ b < 32 := of_decide_eq_false h7
              rw [if_neg (fun h => h.elim h6 (fun h => h7 h.1))] at hK
              cbv
              refine op_ hN (op_arr 7 encB [x] rfl (fun ρ => by rw [← hb]; rfl) (op_vals (vals' := [.vec true 7 1 0 1 1]) (fun ρ F w h => by simp [SV.denL, SV.den]) (bytes_str ty_ok rfl rfl rfl rfl rfl rfl rfl (by simp) (fun h => nomatch h) ?_)))
              intro t ht
              have ht : t = ⟨#[x]⟩ := ba_of ht
              have hts : t.size ≤ 200 := by rw [ht]; exact Nat.le_of_ble_eq_true rfl
              rw [← ht] at hK
              clear ht
              cbv
              refine op_ hN (op_close rfl (.ang ⟨state, back, chk, scope, ent, token, text, rest, gap, opn, pairs⟩ true) [0, 1] [2, 3, 4, 5, 6] _ (angTm hv1 hv2 hok) rfl rfl ?_)
              refine call_ (adds_a ⟨⟨state, back, chk, scope, ent, token, text, rest, gap, opn, pairs⟩, core⟩ t hts) hG [0, 1] rfl rfl rfl rfl rfl ?_
              have hK2 := hK
              clear hK
              change PostN _ (angAdds t ⟨⟨state, back, chk, scope, ent, token, text, rest, gap, opn, pairs⟩, core⟩) at hK2
              change PostN _ (angAdds t ⟨⟨state, back, chk, scope, ent, token, text, rest, gap, opn, pairs⟩, core⟩)
              generalize angAdds t ⟨⟨state, back, chk, scope, ent, token, text, rest, gap, opn, pairs⟩, core⟩ = y at hK2 ⊢
              cases y with
              | none => exact hK2.elim
              | some y =>
                obtain ⟨e, s2⟩ := y
                cbv
                exact hf _ _ (fin_ [] rfl rfl hK2)
      · have h4 := of_decide_eq_false h4
        rw [if_neg (fun h => h4 h.1)] at hK
        cbv
        refine cond_ hN ?_ ?_ <;> intro h6 <;> rw [ceq hN] at h6
        · rw [if_pos (.inl (of_decide_eq_true h6))] at hK
          cbv
          exact hf _ _ (fin_close rfl (.ang ⟨state, back, chk, scope, ent, token, text, rest, gap, opn, pairs⟩ true) [0, 1] [2, 3, 4, 5, 6] _ (angTm hv1 hv2 hok) rfl (fin_ [] rfl rfl hK))
        · have h6 := of_decide_eq_false h6
          cbv
          refine cond_ hN ?_ ?_ <;> intro h7 <;> rw [clt hN] at h7
          · have h7 : b < 32 := of_decide_eq_true h7
            cbv
            refine op_ hN (call_ (blank_a b) hG [] rfl rfl rfl rfl rfl ?_)
            intro c hc
            rw [← hc] at hK
            clear hc
            cases c with
            | false =>
              rw [if_pos (.inr ⟨h7, rfl⟩)] at hK
              cbv
              refine cond_T hN rfl ?_
              cbv
              exact hf _ _ (fin_close rfl (.ang ⟨state, back, chk, scope, ent, token, text, rest, gap, opn, pairs⟩ true) [0, 1] [2, 3, 4, 5, 6] _ (angTm hv1 hv2 hok) rfl (fin_ [] rfl rfl hK))
            | true =>
              rw [if_neg (fun h => h.elim h6 (fun h => nomatch h.2))] at hK
              cbv
              refine cond_F hN rfl ?_
              cbv
              refine op_ hN (op_arr 7 encB [x] rfl (fun ρ => by rw [← hb]; rfl) (op_vals (vals' := [.vec true 7 1 0 1 1]) (fun ρ F w h => by simp [SV.denL, SV.den]) (bytes_str ty_ok rfl rfl rfl rfl rfl rfl rfl (by simp) (fun h => nomatch h) ?_)))
              intro t ht
              have ht : t = ⟨#[x]⟩ := ba_of ht
              have hts : t.size ≤ 200 := by rw [ht]; exact Nat.le_of_ble_eq_true rfl
              rw [← ht] at hK
              clear ht
              cbv
              refine op_ hN (op_close rfl (.ang ⟨state, back, chk, scope, ent, token, text, rest, gap, opn, pairs⟩ true) [0, 1] [2, 3, 4, 5, 6] _ (angTm hv1 hv2 hok) rfl rfl ?_)
              refine call_ (adds_a ⟨⟨state, back, chk, scope, ent, token, text, rest, gap, opn, pairs⟩, core⟩ t hts) hG [0, 1] rfl rfl rfl rfl rfl ?_
              have hK2 := hK
              clear hK
              change PostN _ (angAdds t ⟨⟨state, back, chk, scope, ent, token, text, rest, gap, opn, pairs⟩, core⟩) at hK2
              change PostN _ (angAdds t ⟨⟨state, back, chk, scope, ent, token, text, rest, gap, opn, pairs⟩, core⟩)
              generalize angAdds t ⟨⟨state, back, chk, scope, ent, token, text, rest, gap, opn, pairs⟩, core⟩ = y at hK2 ⊢
              cases y with
              | none => exact hK2.elim
              | some y =>
                obtain ⟨e, s2⟩ := y
                cbv
                exact hf _ _ (fin_ [] rfl rfl hK2)
          · have h7 : ¬ b < 32 := of_decide_eq_false h7
            rw [if_neg (fun h => h.elim h6 (fun h => h7 h.1))] at hK
            cbv
            refine op_ hN (op_arr 7 encB [x] rfl (fun ρ => by rw [← hb]; rfl) (op_vals (vals' := [.vec true 7 1 0 1 1]) (fun ρ F w h => by simp [SV.denL, SV.den]) (bytes_str ty_ok rfl rfl rfl rfl rfl rfl rfl (by simp) (fun h => nomatch h) ?_)))
            intro t ht
            have ht : t = ⟨#[x]⟩ := ba_of ht
            have hts : t.size ≤ 200 := by rw [ht]; exact Nat.le_of_ble_eq_true rfl
            rw [← ht] at hK
            clear ht
            cbv
            refine op_ hN (op_close rfl (.ang ⟨state, back, chk, scope, ent, token, text, rest, gap, opn, pairs⟩ true) [0, 1] [2, 3, 4, 5, 6] _ (angTm hv1 hv2 hok) rfl rfl ?_)
            refine call_ (adds_a ⟨⟨state, back, chk, scope, ent, token, text, rest, gap, opn, pairs⟩, core⟩ t hts) hG [0, 1] rfl rfl rfl rfl rfl ?_
            have hK2 := hK
            clear hK
            change PostN _ (angAdds t ⟨⟨state, back, chk, scope, ent, token, text, rest, gap, opn, pairs⟩, core⟩) at hK2
            change PostN _ (angAdds t ⟨⟨state, back, chk, scope, ent, token, text, rest, gap, opn, pairs⟩, core⟩)
            generalize angAdds t ⟨⟨state, back, chk, scope, ent, token, text, rest, gap, opn, pairs⟩, core⟩ = y at hK2 ⊢
            cases y with
            | none => exact hK2.elim
            | some y =>
              obtain ⟨e, s2⟩ := y
              cbv
              exact hf _ _ (fin_ [] rfl rfl hK2)
theorem defined_a (hTab : GTab GOk) (s : OS Ang) (x : UInt8) (b : Int) (hb : bOf x = b) : Triple (BB Ip GOk) 202 2 2 [.ptr 0 0, .int .u8 b] (ocA s) (fun K => PostN K (angDefined x s)) := by
  obtain ⟨⟨state, back, chk, scope, ent, token, text, rest, gap, opn, pairs⟩, core⟩ := s
  refine triple_of BB_ok (tb := ty) rfl (n0 := 7) (fun y : {cs' // Tm (.ang ⟨state, back, chk, scope, ent, token, text, rest, gap, opn, pairs⟩ true) cs'} => csRen (sg [0, 1] 2) y.1 ++ [.abs (.core core 69 48) [1, 0]]) pl202 Tryz.call202 Tryz.func202 rfl (by kernel_rfl) (Nat.le_of_ble_eq_true rfl) (by decide) rfl (pre_open rfl rfl rfl) ?_
  rintro G hG K hK W bi bc bs bk bu bb bo bg bl bp bn be Ncond Nob Nop Nloop Nscope hN Nfin hf _ ⟨cs', hT⟩
  obtain ⟨p, lo, len, cap, xs, q, lo2, len2, cap2, ys, tl, hv1, hv2, hok, htl, -, rfl⟩ := id hT
  obtain rfl := htl rfl
  simp only at hv1 hv2 hok
  simp only [angDefined, hb] at hK
  cbv
  refine op_ hN (call_ (blank_a b) hG [] rfl rfl rfl rfl rfl ?_)
  intro c hc
  rw [← hc] at hK
  clear hc
  cases c with
  | true =>
    rw [if_pos rfl] at hK
    cbv
    refine cond_T hN rfl ?_
    cbv
    exact hf _ _ (fin_close rfl (.ang ⟨state, back, chk, scope, ent, token, text, rest, gap, opn, pairs⟩ true) [0, 1] [2, 3, 4, 5, 6] _ (angTm hv1 hv2 hok) rfl (fin_ [] rfl rfl hK))
  | false =>
    rw [if_neg (by decide)] at hK
    cbv
    refine cond_F hN rfl ?_
    cbv
    refine cond_ hN ?_ ?_ <;> intro h1 <;> rw [cne hN] at h1
    · have h1 : b ≠ 62 := by simpa using h1
      rw [if_pos h1] at hK
      cbv
      exact hf _ _ (fin_close rfl (.ang ⟨state, back, chk, scope, ent, token, text, rest, gap, opn, pairs⟩ true) [0, 1] [2, 3, 4, 5, 6] _ (angTm hv1 hv2 hok) rfl (fin_ [] rfl rfl hK))
    · have h1 : b = 62 := by simpa using h1
      rw [if_neg (fun h => h h1)] at hK
      cbv
      repeat' (first | exact True.intro | with_reducible refine dup ?_ | refine And.intro ?_ ?_)
      all_goals
        refine op_ hN (call_ (ent_define_spec hTab ent token text hok.txt) hG [6] rfl rfl rfl rfl rfl ?_)
        intro f e' he
        rw [← he] at hK
        simp only at hK
        clear he
        cbv
        repeat' (first | exact True.intro | with_reducible refine dup ?_ | refine And.intro ?_ ?_)
        all_goals
          exact hf _ _ (fin_close rfl (.ang ⟨0, back, chk, scope, e', token, sEmp, rest, gap, opn, pairs⟩ true) [0, 1] [2, 3, 4, 5, 6] _ (angTm hv1 hv2 hok.text0) rfl (fin_ [] rfl rfl hK))
theorem refers_a (s : OS Ang) (x : UInt8) (b : Int) (hb : bOf x = b) : Triple (BB Ip GOk) 207 2 2 [.ptr 0 0, .int .u8 b] (ocA s) (fun K => PostN K (angRefers x s)) := by
  obtain ⟨⟨state, back, chk, scope, ent, token, text, rest, gap, opn, pairs⟩, core⟩ := s
  refine triple_of BB_ok (tb := ty) rfl (n0 := 7) (fun y : {cs' // Tm (.ang ⟨state, back, chk, scope, ent, token, text, rest, gap, opn, pairs⟩ true) cs'} => csRen (sg [0, 1] 2) y.1 ++ [.abs (.core core 69 48) [1, 0]]) pl207 Tryz.call207 Tryz.func207 rfl (by kernel_rfl) (Nat.le_of_ble_eq_true rfl) (by decide) rfl (pre_open rfl rfl rfl) ?_
  rintro G hG K hK W bi bc bs bk bu bb bo bg bl bp bn be Ncond Nob Nop Nloop Nscope hN Nfin hf _ ⟨cs', hT⟩
  obtain ⟨p, lo, len, cap, xs, q, lo2, len2, cap2, ys, tl, hv1, hv2, hok, htl, -, rfl⟩ := id hT
  obtain rfl := htl rfl
  simp only at hv1 hv2 hok
  simp only [angRefers, hb] at hK
  have hes := encR_size b
  have he : be (W .i32 b) = encR b := by rw [be_ hN, hN.W]; rfl
  generalize encR b = eb at hes he hK
  have hcat : bk rest eb = rest ++ eb := by rw [bk_ hN]
  have hrs := hok.rst
  have hob : obsP [.cat rest eb] := ⟨by
    show ((rest.size + eb.size : Nat) : Int) ≤ IntKind.i64.max
    rw [show IntKind.i64.max = 9223372036854775807 from rfl]; omega, trivial⟩
  generalize rest ++ eb = rr at hcat hK
  have hob8 : obsP [.nn 8] := ⟨by show (0 : Int) ≤ 8; decide, trivial⟩
  have hns : bi .shr .i64 back 8 = bitI .shr .i64 back 8 := by rw [bi_ hN]
  have hnk : bi .and .i64 back 255 = bitI .and .i64 back 255 := by rw [bi_ hN]
  generalize bitI .shr .i64 back 8 = ns at hns hK
  generalize bitI .and .i64 back 255 = nk at hnk hK
  cbv
  refine cond_ hN ?_ ?_ <;> intro h1
  · rw [cne hN] at h1
    have h1 : b ≠ 59 := by simpa using h1
    rw [if_pos (.inl h1)] at hK
    cbv
    refine cond_ hN ?_ ?_ <;> intro g1 <;> rw [cge hN] at g1
    · rw [if_pos (.inl (of_decide_eq_true g1))] at hK
      cbv
      exact hf _ _ (fin_close rfl (.ang ⟨state, back, chk, scope, ent, token, text, rest, gap, opn, pairs⟩ true) [0, 1] [2, 3, 4, 5, 6] _ (angTm hv1 hv2 hok) rfl (fin_ [] rfl rfl hK))
    · have g1 := of_decide_eq_false g1
      cbv
      simp only [he]
      refine ob_ hN hob ?_
      cbv
      simp only [he, hcat]
      refine op_ hN (call_ (local_spec rr) hG [] rfl rfl rfl rfl rfl ?_)
      intro d hd
      have hrz : d = true → rr.size ≤ 16 := fun h => local_size (hd ▸ h)
      rw [← hd] at hK
      clear hd
      cases d with
      | false =>
        rw [if_pos (.inr rfl)] at hK
        cbv
        refine cond_T hN rfl ?_
        cbv
        exact hf _ _ (fin_close rfl (.ang ⟨state, back, chk, scope, ent, token, text, rest, gap, opn, pairs⟩ true) [0, 1] [2, 3, 4, 5, 6] _ (angTm hv1 hv2 hok) rfl (fin_ [] rfl rfl hK))
      | true =>
        rw [if_neg (fun h => h.elim g1 (fun h => nomatch h))] at hK
        have hrz := hrz rfl
        cbv
        refine cond_F hN rfl ?_
        cbv
        simp only [he]
        refine ob_ hN hob ?_
        cbv
        simp only [he, hcat]
        exact hf _ _ (fin_close rfl (.ang ⟨state, back, chk, scope, ent, token, text, rr, gap, opn, pairs⟩ true) [0, 1] [2, 3, 4, 5, 6] _ (angTm hv1 hv2 ⟨hok.tok, hok.txt, hrz, hok.ol, hok.pl, hok.os, hok.ps⟩) rfl (fin_ [] rfl rfl hK))
  · rw [cne hN] at h1
    have h1 : b = 59 := by simpa using h1
    cbv
    refine cond_ hN ?_ ?_ <;> intro h2 <;> rw [seq_eq hN] at h2
    · have h2 : rest = sEmp := of_decide_eq_true h2
      rw [if_pos (.inr h2)] at hK
      cbv
      refine cond_ hN ?_ ?_ <;> intro g1 <;> rw [cge hN] at g1
      · rw [if_pos (.inl (of_decide_eq_true g1))] at hK
        cbv
        exact hf _ _ (fin_close rfl (.ang ⟨state, back, chk, scope, ent, token, text, rest, gap, opn, pairs⟩ true) [0, 1] [2, 3, 4, 5, 6] _ (angTm hv1 hv2 hok) rfl (fin_ [] rfl rfl hK))
      · have g1 := of_decide_eq_false g1
        cbv
        simp only [he]
        refine ob_ hN hob ?_
        cbv
        simp only [he, hcat]
        refine op_ hN (call_ (local_spec rr) hG [] rfl rfl rfl rfl rfl ?_)
        intro d hd
        have hrz : d = true → rr.size ≤ 16 := fun h => local_size (hd ▸ h)
        rw [← hd] at hK
        clear hd
        cases d with
        | false =>
          rw [if_pos (.inr rfl)] at hK
          cbv
          refine cond_T hN rfl ?_
          cbv
          exact hf _ _ (fin_close rfl (.ang ⟨state, back, chk, scope, ent, token, text, rest, gap, opn, pairs⟩ true) [0, 1] [2, 3, 4, 5, 6] _ (angTm hv1 hv2 hok) rfl (fin_ [] rfl rfl hK))
        | true =>
          rw [if_neg (fun h => h.elim g1 (fun h => nomatch h))] at hK
          have hrz := hrz rfl
          cbv
          refine cond_F hN rfl ?_
          cbv
          simp only [he]
          refine ob_ hN hob ?_
          cbv
          simp only [he, hcat]
          exact hf _ _ (fin_close rfl (.ang ⟨state, back, chk, scope, ent, token, text, rr, gap, opn, pairs⟩ true) [0, 1] [2, 3, 4, 5, 6] _ (angTm hv1 hv2 ⟨hok.tok, hok.txt, hrz, hok.ol, hok.pl, hok.os, hok.ps⟩) rfl (fin_ [] rfl rfl hK))
    · have h2 : ¬ rest = sEmp := of_decide_eq_false h2
      rw [if_neg (fun h => h.elim (fun h => h h1) h2)] at hK
      cbv
      repeat' (first | exact True.intro | with_reducible refine dup ?_ | refine And.intro ?_ ?_)
      all_goals
        refine op_ hN (call_ (ent_get_spec ent rest) hG [6] rfl rfl rfl rfl rfl ?_)
        intro v f e' he2 hsz
        rw [← he2] at hK
        simp only at hK
        clear he2
        cbv
        repeat' (first | exact True.intro | with_reducible refine dup ?_ | refine And.intro ?_ ?_)
        all_goals
          refine cond_ hN ?_ ?_ <;> intro h3 <;> rw [cne hN] at h3
          · have h3 : f ≠ 0 := by simpa using h3
            rw [if_pos h3] at hK
            cbv
            exact hf _ _ (fin_close rfl (.ang ⟨state, back, chk, scope, e', token, text, rest, gap, opn, pairs⟩ true) [0, 1] [2, 3, 4, 5, 6] _ (angTm hv1 hv2 hok) rfl (fin_ [] rfl rfl hK))
          · have h3 : f = 0 := by simpa using h3
            rw [if_neg (fun h => h h3)] at hK
            cbv
            repeat' (first | exact True.intro | with_reducible refine dup ?_ | refine And.intro ?_ ?_ | (refine ob_ hN hob8 ?_; try cbv))
            all_goals
              simp only [hns, hnk]
              refine op_ hN (op_close rfl (.ang ⟨ns, nk, chk, scope, e', token, text, sEmp, gap, opn, pairs⟩ true) [0, 1] [2, 3, 4, 5, 6] _ (angTm hv1 hv2 hok.rest0) rfl rfl ?_)
              refine call_ (adds_a ⟨⟨ns, nk, chk, scope, e', token, text, sEmp, gap, opn, pairs⟩, core⟩ v hsz) hG [0, 1] rfl rfl rfl rfl rfl ?_
              have hK2 := hK
              clear hK
              change PostN _ (angAdds v ⟨⟨ns, nk, chk, scope, e', token, text, sEmp, gap, opn, pairs⟩, core⟩) at hK2
              change PostN _ (angAdds v ⟨⟨ns, nk, chk, scope, e', token, text, sEmp, gap, opn, pairs⟩, core⟩)
              generalize angAdds v ⟨⟨ns, nk, chk, scope, e', token, text, sEmp, gap, opn, pairs⟩, core⟩ = y at hK2 ⊢
              cases y with
              | none => exact hK2.elim
              | some y =>
                obtain ⟨e, s2⟩ := y
                cbv
                exact hf _ _ (fin_ [] rfl rfl hK2)
end Hx
