/-
  Part of a proof.
-/
import Derived.Test.YtlmbbchfaoeebaaGreatDoorV13
import Derived.Test.YtlmbbchfaoeebaaGreatDoorV10
import Derived.Test.YtlmbbchfaoeebaaGreatDoorV09
import Derived.Test.YtlmbbchfaoeebaaGreatDoorV15
set_option linter.unusedVariables false
set_option linter.unusedSimpArgs false
/- angle.machine: blank, whole, event, adds, quotes, begins, defines, quoted, texts: the walks. -/
namespace Hx
open Go Sx Go.Proofs
set_option maxRecDepth 100000
set_option maxHeartbeats 4000000
set_option linter.unusedVariables false
set_option linter.unusedSimpArgs false
variable {GOk : Gl → Prop}
section
variable {token text rest : ByteArray} {opn : List ByteArray} {pairs : List (ByteArray × ByteArray)}
theorem AngOk.text0 (h : AngOk token text rest opn pairs) : AngOk token sEmp rest opn pairs := ⟨h.tok, by decide, h.rst, h.ol, h.pl, h.os, h.ps⟩
theorem AngOk.token0 (h : AngOk token text rest opn pairs) : AngOk sEmp text rest opn pairs := ⟨by decide, h.txt, h.rst, h.ol, h.pl, h.os, h.ps⟩
theorem AngOk.rest0 (h : AngOk token text rest opn pairs) : AngOk token text sEmp opn pairs := ⟨h.tok, h.txt, by decide, h.ol, h.pl, h.os, h.ps⟩
 end
theorem blank_a (b : Int) : Triple (BB Ip GOk) 210 0 0 [.int .u8 b] [] (fun K => ∀ c, c = blankB b → K (.ret (.bool c)) []) := by
  refine triple_of BB_ok (tb := ty) rfl (n0 := 0) (fun _ : Unit => _) pl210 Tryz.call210 Tryz.func210 rfl (by kernel_rfl) (Nat.le_of_ble_eq_true rfl) (by decide) rfl pre_none ?_
  rintro G hG K hK W bi bc bs bk bu bb bo bg bl bp bn be Ncond Nob Nop Nloop Nscope hN Nfin hf _ _
  have hM : blankB b = (bc .eql b 32 || (bc .eql b 9 || (bc .eql b 10 || bc .eql b 13))) := by
    rw [ceq hN, ceq hN, ceq hN, ceq hN]; rfl
  rw [hM] at hK
  clear hM
  cbv
  refine cond_ hN ?_ ?_ <;> intro h1
  · rw [h1] at hK
    cbv
    exact hf _ _ (fin_as (.bool true) (fun _ => rfl) (fin_ [] rfl rfl (hK true rfl)))
  · rw [h1] at hK
    cbv
    refine cond_ hN ?_ ?_ <;> intro h2
    · rw [h2] at hK
      cbv
      exact hf _ _ (fin_as (.bool true) (fun _ => rfl) (fin_ [] rfl rfl (hK true rfl)))
    · rw [h2] at hK
      cbv
      refine cond_ hN ?_ ?_ <;> intro h3
      · rw [h3] at hK
        cbv
        exact hf _ _ (fin_as (.bool true) (fun _ => rfl) (fin_ [] rfl rfl (hK true rfl)))
      · rw [h3] at hK
        cbv
        exact hf _ _ (fin_ [] rfl rfl (hK _ rfl))
theorem whole_a (t : ByteArray) (ht : t.size ≤ 900000) : Triple (BB Ip GOk) 209 0 0 [.str t] [] (fun K => ∀ c, c = wholeT t → K (.ret (.bool c)) []) := by
  refine triple_of BB_ok (tb := ty) rfl (n0 := 0) (fun _ : Unit => _) pl209 Tryz.call209 Tryz.func209 rfl (by kernel_rfl) (Nat.le_of_ble_eq_true rfl) (by decide) rfl pre_none ?_
  rintro G hG K hK W bi bc bs bk bu bb bo bg bl bp bn be Ncond Nob Nop Nloop Nscope hN Nfin hf _ _
  simp only [wholeT] at hK
  cbv
  refine cond_ hN ?_ ?_ <;> intro h1 <;> rw [sne_eq hN] at h1
  · have h1 : decide (t ≠ sEmp) = true := by
      have : ¬ t = ⟨#[]⟩ := by simpa using h1
      exact decide_eq_true this
    rw [h1, Bool.true_and] at hK
    cbv
    refine op_ hN (call_ (has_suffix_spec t ⟨#[58]⟩ (by omega)) hG [] rfl rfl rfl rfl rfl ?_)
    intro d hd
    have hd : Lib.hasSuffix t.data.toList wColon.data.toList = d := hd.symm
    rw [hd] at hK
    clear hd
    cbv
    exact hf _ _ (fin_ [] rfl rfl (hK _ rfl))
  · have h1 : decide (t ≠ sEmp) = false := by
      have : t = ⟨#[]⟩ := by simpa using h1
      exact decide_eq_false (fun h => h this)
    rw [h1, Bool.false_and] at hK
    cbv
    exact hf _ _ (fin_as (.bool false) (fun _ => rfl) (fin_ [] rfl rfl (hK false rfl)))
variable {right : Ev → Bool}
theorem event_a (hr : RgtOk GOk right) (s : OS Ang) (x : Ev) (hx : okE x) : Triple (BB Ip GOk) 221 2 2 [.ptr 0 0, .agg [.int .i64 x.kind, .str x.text, .str x.val]] (ocA s) (fun K => PostN K (angEvent right x s)) := by
  obtain ⟨kind, etext, val⟩ := x
  obtain ⟨⟨state, back, chk, scope, ent, token, text, rest, gap, opn, pairs⟩, core⟩ := s
  refine triple_of BB_ok (tb := ty) rfl (n0 := 7) (fun y : {cs' // Tm (.ang ⟨state, back, chk, scope, ent, token, text, rest, gap, opn, pairs⟩ true) cs'} => csRen (sg [0, 1] 2) y.1 ++ [.abs (.core core 69 48) [1, 0]]) pl221 Tryz.call221 Tryz.func221 rfl (by kernel_rfl) (Nat.le_of_ble_eq_true rfl) (by decide) rfl (pre_open rfl rfl rfl) ?_
  rintro G hG K hK W bi bc bs bk bu bb bo bg bl bp bn be Ncond Nob Nop Nloop Nscope hN Nfin hf _ ⟨cs', hT⟩
  obtain ⟨p, lo, len, cap, xs, q, lo2, len2, cap2, ys, tl, hv1, hv2, hok, htl, -, rfl⟩ := id hT
  obtain rfl := htl rfl
  simp only at hv1 hv2 hok
  simp only [angEvent] at hK
  cbv
  repeat' (first | exact True.intro | with_reducible refine dup ?_ | refine And.intro ?_ ?_)
  all_goals
    refine op_ hN (call_ (step_spec' hr chk ⟨kind, etext, val⟩ hx) hG [4] rfl rfl rfl rfl rfl ?_)
    intro e chk' he
    rw [← he] at hK
    simp only at hK
    clear he
    cbv
    repeat' (first | exact True.intro | with_reducible refine dup ?_ | refine And.intro ?_ ?_)
    all_goals
      refine cond_ hN ?_ ?_ <;> intro h1 <;> rw [ceq hN] at h1
      · have h1 : e = 0 := of_decide_eq_true h1
        rw [if_pos h1] at hK
        by_cases hq : core.queue.length ≥ 4294967296
        · rw [if_pos hq] at hK
          exact hK.elim
        · rw [if_neg hq] at hK
          generalize hc2 : ({ core with queue := core.queue ++ [⟨kind, etext, val⟩] } : Core) = core2 at hK
          cbv
          repeat' (first | exact True.intro | with_reducible refine dup ?_ | refine And.intro ?_ ?_)
          all_goals
            refine op_ hN (call_ (tell_spec 69 48 core ⟨kind, etext, val⟩ (by omega)) hG [1, 0] rfl rfl rfl rfl rfl ?_)
            rw [hc2]
            cbv
            repeat' (first | exact True.intro | with_reducible refine dup ?_ | refine And.intro ?_ ?_)
            all_goals
              subst h1
              exact hf _ _ (fin_close rfl (.ang ⟨state, back, chk', scope, ent, token, text, rest, gap, opn, pairs⟩ true) [0, 1] [2, 3, 4, 5, 6] _ (angTm hv1 hv2 hok) rfl (fin_ [] rfl rfl hK))
      · have h1 : ¬ e = 0 := of_decide_eq_false h1
        rw [if_neg h1] at hK
        cbv
        exact hf _ _ (fin_close rfl (.ang ⟨state, back, chk', scope, ent, token, text, rest, gap, opn, pairs⟩ true) [0, 1] [2, 3, 4, 5, 6] _ (angTm hv1 hv2 hok) rfl (fin_ [] rfl rfl hK))
theorem adds_a (s : OS Ang) (t : ByteArray) (ht : t.size ≤ 200) : Triple (BB Ip GOk) 215 2 2 [.ptr 0 0, .str t] (ocA s) (fun K => PostN K (angAdds t s)) := by
  obtain ⟨⟨state, back, chk, scope, ent, token, text, rest, gap, opn, pairs⟩, core⟩ := s
  refine triple_of BB_ok (tb := ty) rfl (n0 := 7) (fun y : {cs' // Tm (.ang ⟨state, back, chk, scope, ent, token, text, rest, gap, opn, pairs⟩ true) cs'} => csRen (sg [0, 1] 2) y.1 ++ [.abs (.core core 69 48) [1, 0]]) pl215 Tryz.call215 Tryz.func215 rfl (by kernel_rfl) (Nat.le_of_ble_eq_true rfl) (by decide) rfl (pre_open rfl rfl rfl) ?_
  rintro G hG K hK W bi bc bs bk bu bb bo bg bl bp bn be Ncond Nob Nop Nloop Nscope hN Nfin hf _ ⟨cs', hT⟩
  obtain ⟨p, lo, len, cap, xs, q, lo2, len2, cap2, ys, tl, hv1, hv2, hok, htl, -, rfl⟩ := id hT
  obtain rfl := htl rfl
  simp only at hv1 hv2 hok
  simp only [angAdds] at hK
  have htx := hok.txt
  have hsum : bi .add .i64 (bn text) (bn t) = ((text.size + t.size : Nat) : Int) := by
    rw [len_eq hN, len_eq hN, iadd hN (by omega) (by omega)]; omega
  have hcat : bk text t = text ++ t := by rw [bk_ hN]
  have hmx : IntKind.i64.max = 9223372036854775807 := by rfl
  cbv
  refine cond_ hN ?_ ?_ <;> intro h1
  · rw [hsum, cgt hN] at h1
    have h1 : text.size + t.size > 48 := by have : ((text.size + t.size : Nat) : Int) > 48 := of_decide_eq_true h1; omega
    rw [if_pos h1] at hK
    cbv
    exact hf _ _ (fin_close rfl (.ang ⟨state, back, chk, scope, ent, token, text, rest, gap, opn, pairs⟩ true) [0, 1] [2, 3, 4, 5, 6] _ (angTm hv1 hv2 hok) rfl (fin_ [] rfl rfl hK))
  · rw [hsum, cgt hN] at h1
    have h1 : ¬ text.size + t.size > 48 := by have : ¬ ((text.size + t.size : Nat) : Int) > 48 := of_decide_eq_false h1; omega
    rw [if_neg h1] at hK
    cbv
    refine ob_ hN ⟨?_, trivial⟩ ?_
    · show ((text.size + t.size : Nat) : Int) ≤ _
      rw [hmx]; omega
    cbv
    simp only [hcat]
    exact hf _ _ (fin_close rfl (.ang ⟨state, back, chk, scope, ent, token, (text ++ t), rest, gap, opn, pairs⟩ true) [0, 1] [2, 3, 4, 5, 6] _ (angTm hv1 hv2 ⟨hok.tok, by rw [ByteArray.size_append]; omega, hok.rst, hok.ol, hok.pl, hok.os, hok.ps⟩) rfl (fin_ [] rfl rfl hK))
theorem quotes_a (s : OS Ang) (x : UInt8) (b : Int) (hb : bOf x = b) : Triple (BB Ip GOk) 201 2 2 [.ptr 0 0, .int .u8 b] (ocA s) (fun K => PostN K (angQuotes x s)) := by
  obtain ⟨⟨state, back, chk, scope, ent, token, text, rest, gap, opn, pairs⟩, core⟩ := s
  refine triple_of BB_ok (tb := ty) rfl (n0 := 7) (fun y : {cs' // Tm (.ang ⟨state, back, chk, scope, ent, token, text, rest, gap, opn, pairs⟩ true) cs'} => csRen (sg [0, 1] 2) y.1 ++ [.abs (.core core 69 48) [1, 0]]) pl201 Tryz.call201 Tryz.func201 rfl (by kernel_rfl) (Nat.le_of_ble_eq_true rfl) (by decide) rfl (pre_open rfl rfl rfl) ?_
  rintro G hG K hK W bi bc bs bk bu bb bo bg bl bp bn be Ncond Nob Nop Nloop Nscope hN Nfin hf _ ⟨cs', hT⟩
  obtain ⟨p, lo, len, cap, xs, q, lo2, len2, cap2, ys, tl, hv1, hv2, hok, htl, -, rfl⟩ := id hT
  obtain rfl := htl rfl
  simp only at hv1 hv2 hok
  simp only [angQuotes, hb] at hK
  cbv
  refine cond_ hN ?_ ?_ <;> intro h1 <;> rw [cne hN] at h1
  · have h1 : b ≠ 34 := by simpa using h1
    rw [if_pos h1] at hK
    cbv
    exact hf _ _ (fin_close rfl (.ang ⟨state, back, chk, scope, ent, token, text, rest, gap, opn, pairs⟩ true) [0, 1] [2, 3, 4, 5, 6] _ (angTm hv1 hv2 hok) rfl (fin_ [] rfl rfl hK))
  · have h1 : b = 34 := by simpa using h1
    rw [if_neg (fun h => h h1)] at hK
    cbv
    exact hf _ _ (fin_close rfl (.ang ⟨10, state, chk, scope, ent, token, sEmp, rest, gap, opn, pairs⟩ true) [0, 1] [2, 3, 4, 5, 6] _ (angTm hv1 hv2 hok.text0) rfl (fin_ [] rfl rfl hK))
theorem begins_a (s : OS Ang) (x : UInt8) (b : Int) (hb : bOf x = b) : Triple (BB Ip GOk) 208 2 2 [.ptr 0 0, .int .u8 b] (ocA s) (fun K => PostN K (angBegins x s)) := by
  obtain ⟨⟨state, back, chk, scope, ent, token, text, rest, gap, opn, pairs⟩, core⟩ := s
  refine triple_of BB_ok (tb := ty) rfl (n0 := 7) (fun y : {cs' // Tm (.ang ⟨state, back, chk, scope, ent, token, text, rest, gap, opn, pairs⟩ true) cs'} => csRen (sg [0, 1] 2) y.1 ++ [.abs (.core core 69 48) [1, 0]]) pl208 Tryz.call208 Tryz.func208 rfl (by kernel_rfl) (Nat.le_of_ble_eq_true rfl) (by decide) rfl (pre_open rfl rfl rfl) ?_
  rintro G hG K hK W bi bc bs bk bu bb bo bg bl bp bn be Ncond Nob Nop Nloop Nscope hN Nfin hf _ ⟨cs', hT⟩
  obtain ⟨p, lo, len, cap, xs, q, lo2, len2, cap2, ys, tl, hv1, hv2, hok, htl, -, rfl⟩ := id hT
  obtain rfl := htl rfl
  simp only at hv1 hv2 hok
  simp only [angBegins, hb] at hK
  cbv
  refine op_ hN (call_ (blank_a b) hG [] rfl rfl rfl rfl rfl ?_)
  intro c hc
  rw [← hc] at hK
  clear hc
  cases c with
  | true =>
    rw [if_pos rfl] at hK
    cbv
    refine cond_T hN rfl ?_
    cbv
    exact hf _ _ (fin_close rfl (.ang ⟨state, back, chk, scope, ent, token, text, rest, gap, opn, pairs⟩ true) [0, 1] [2, 3, 4, 5, 6] _ (angTm hv1 hv2 hok) rfl (fin_ [] rfl rfl hK))
  | false =>
    rw [if_neg (by decide)] at hK
    cbv
    refine cond_F hN rfl ?_
    cbv
    refine cond_ hN ?_ ?_ <;> intro h1 <;> rw [ceq hN] at h1
    · have h1 : b = 60 := of_decide_eq_true h1
      cbv
      refine cond_ hN ?_ ?_ <;> intro h2 <;> rw [ceq hN] at h2
      · rw [if_pos ⟨h1, of_decide_eq_true h2⟩] at hK
        cbv
        exact hf _ _ (fin_close rfl (.ang ⟨1, back, chk, scope, ent, token, text, rest, gap, opn, pairs⟩ true) [0, 1] [2, 3, 4, 5, 6] _ (angTm hv1 hv2 hok) rfl (fin_ [] rfl rfl hK))
      · rw [if_neg (fun h => of_decide_eq_false h2 h.2)] at hK
        cbv
        exact hf _ _ (fin_close rfl (.ang ⟨state, back, chk, scope, ent, token, text, rest, gap, opn, pairs⟩ true) [0, 1] [2, 3, 4, 5, 6] _ (angTm hv1 hv2 hok) rfl (fin_ [] rfl rfl hK))
    · rw [if_neg (fun h => of_decide_eq_false h1 h.1)] at hK
      cbv
      exact hf _ _ (fin_close rfl (.ang ⟨state, back, chk, scope, ent, token, text, rest, gap, opn, pairs⟩ true) [0, 1] [2, 3, 4, 5, 6] _ (angTm hv1 hv2 hok) rfl (fin_ [] rfl rfl hK))
theorem subs_len (t : ByteArray) (a b : Int) : (subs t a b).size ≤ t.size := by
  unfold subs; rw [ByteArray.size_extract]; omega
theorem defines_a (s : OS Ang) (x : UInt8) (b : Int) (hb : bOf x = b) : Triple (BB Ip GOk) 199 2 2 [.ptr 0 0, .int .u8 b] (ocA s) (fun K => PostN K (angDefines x s)) := by
  obtain ⟨⟨state, back, chk, scope, ent, token, text, rest, gap, opn, pairs⟩, core⟩ := s
  refine triple_of BB_ok (tb := ty) rfl (n0 := 7) (fun y : {cs' // Tm (.ang ⟨state, back, chk, scope, ent, token, text, rest, gap, opn, pairs⟩ true) cs'} => csRen (sg [0, 1] 2) y.1 ++ [.abs (.core core 69 48) [1, 0]]) pl199 Tryz.call199 Tryz.func199 rfl (by kernel_rfl) (Nat.le_of_ble_eq_true rfl) (by decide) rfl (pre_open rfl rfl rfl) ?_
  rintro G hG K hK W bi bc bs bk bu bb bo bg bl bp bn be Ncond Nob Nop Nloop Nscope hN Nfin hf _ ⟨cs', hT⟩
  obtain ⟨p, lo, len, cap, xs, q, lo2, len2, cap2, ys, tl, hv1, hv2, hok, htl, -, rfl⟩ := id hT
  obtain rfl := htl rfl
  simp only at hv1 hv2 hok
  simp only [angDefines, hb] at hK
  by_cases h0 : rest.size = 0
  · rw [if_pos h0] at hK
    exact hK.elim
  rw [if_neg h0] at hK
  have hbyte : bb rest 0 = bt rest 0 := by rw [bb_ hN]
  have hsub : bu rest 1 (bn rest) = subs rest 1 rest.size := by rw [bu_ hN, bn_ hN]
  have hlen : bn rest = rest.size := len_eq hN rest
  have hrs := hok.rst
  have hob1 : obsP [.inb 0 (bn rest)] := ⟨⟨by simp, by rw [hlen]; omega⟩, trivial⟩
  have hob2 : obsP [.le3 1 (bn rest) (bn rest)] := ⟨⟨by simp, by rw [hlen]; omega, Int.le_refl _⟩, trivial⟩
  have hle := subs_len rest 1 rest.size
  generalize subs rest 1 rest.size = r2 at hK hsub hle
  cbv
  refine ob_ hN hob1 ?_
  cbv
  refine cond_ hN ?_ ?_ <;> intro h1
  · rw [hbyte, cne hN] at h1
    have h1 : b ≠ bt rest 0 := by simpa using h1
    rw [if_pos h1] at hK
    cbv
    exact hf _ _ (fin_close rfl (.ang ⟨state, back, chk, scope, ent, token, text, rest, gap, opn, pairs⟩ true) [0, 1] [2, 3, 4, 5, 6] _ (angTm hv1 hv2 hok) rfl (fin_ [] rfl rfl hK))
  · rw [hbyte, cne hN] at h1
    have h1 : b = bt rest 0 := by simpa using h1
    rw [if_neg (fun h => h h1)] at hK
    cbv
    refine ob_ hN hob2 ?_
    cbv
    simp only [hsub]
    refine cond_ hN ?_ ?_ <;> intro h2 <;> rw [seq_eq hN] at h2
    · have h2 : r2 = sEmp := of_decide_eq_true h2
      rw [if_pos h2] at hK
      cbv
      simp only [hsub]
      exact hf _ _ (fin_close rfl (.ang ⟨3, back, chk, scope, ent, sEmp, text, r2, gap, opn, pairs⟩ true) [0, 1] [2, 3, 4, 5, 6] _ (angTm hv1 hv2 ⟨by decide, hok.txt, by omega, hok.ol, hok.pl, hok.os, hok.ps⟩) rfl (fin_ [] rfl rfl hK))
    · have h2 : ¬ r2 = sEmp := of_decide_eq_false h2
      rw [if_neg h2] at hK
      cbv
      simp only [hsub]
      exact hf _ _ (fin_close rfl (.ang ⟨state, back, chk, scope, ent, token, text, r2, gap, opn, pairs⟩ true) [0, 1] [2, 3, 4, 5, 6] _ (angTm hv1 hv2 ⟨hok.tok, hok.txt, by omega, hok.ol, hok.pl, hok.os, hok.ps⟩) rfl (fin_ [] rfl rfl hK))
theorem quoted_a (s : OS Ang) : Triple (BB Ip GOk) 213 2 2 [.ptr 0 0] (ocA s) (fun K => PostN K (angQuoted s)) := by
  obtain ⟨⟨state, back, chk, scope, ent, token, text, rest, gap, opn, pairs⟩, core⟩ := s
  refine triple_of BB_ok (tb := ty) rfl (n0 := 7) (fun y : {cs' // Tm (.ang ⟨state, back, chk, scope, ent, token, text, rest, gap, opn, pairs⟩ true) cs'} => csRen (sg [0, 1] 2) y.1 ++ [.abs (.core core 69 48) [1, 0]]) pl213 Tryz.call213 Tryz.func213 rfl (by kernel_rfl) (Nat.le_of_ble_eq_true rfl) (by decide) rfl (pre_open rfl rfl rfl) ?_
  rintro G hG K hK W bi bc bs bk bu bb bo bg bl bp bn be Ncond Nob Nop Nloop Nscope hN Nfin hf _ ⟨cs', hT⟩
  obtain ⟨p, lo, len, cap, xs, q, lo2, len2, cap2, ys, tl, hv1, hv2, hok, htl, -, rfl⟩ := id hT
  obtain rfl := htl rfl
  simp only at hv1 hv2 hok
  simp only [angQuoted] at hK
  cbv
  refine cond_ hN ?_ ?_ <;> intro h1 <;> rw [ceq hN] at h1
  · rw [if_pos (of_decide_eq_true h1)] at hK
    cbv
    exact hf _ _ (fin_close rfl (.ang ⟨5, back, chk, scope, ent, token, text, rest, gap, opn, pairs⟩ true) [0, 1] [2, 3, 4, 5, 6] _ (angTm hv1 hv2 hok) rfl (fin_ [] rfl rfl hK))
  · rw [if_neg (of_decide_eq_false h1)] at hK
    by_cases hp : pairs.length ≥ 900000
    · rw [if_pos hp] at hK
      exact hK.elim
    rw [if_neg hp] at hK
    have hlen2 := hv2.length
    have hok2 : AngOk token text rest opn (pairs ++ [(token, text)]) := ⟨hok.tok, hok.txt, hok.rst, hok.ol, by rw [List.length_append, List.length_singleton]; omega, hok.os, fun x hx => by
      rcases List.mem_append.1 hx with h | h
      · exact hok.ps x h
      · rw [List.mem_singleton.1 h]; exact ⟨hok.tok, hok.txt⟩⟩
    cbv
    repeat' (first | exact True.intro | with_reducible refine dup ?_ | refine And.intro ?_ ?_)
    all_goals
      refine op_ hN (append_vec (new := [(token, text)]) (z := (⟨#[]⟩, ⟨#[]⟩)) ty_ok rfl rfl rfl rfl (fun k => by simp) rfl rfl widePr rfl rfl (src_cells widePr rfl (fun _ _ _ _ => rfl) rfl) hv2.pr hv2.room hv2.fits (by simp; omega) (by decide) ?_)
      intro p' lo' m' cap' xs' hm' e1 e2 e3 e4
      cbv
      repeat' (first | exact True.intro | with_reducible refine dup ?_ | refine And.intro ?_ ?_)
      all_goals
        exact hf _ _ (fin_cput 0 [.int .i64 7, .int .i64 back, .ptr 4 0, .ptr 5 0, .ptr 6 0, .str token, .str text, .str rest, .bool false, .vec p 2 1 lo len cap, .vec p' 26 2 lo' m' cap', .fn (.func 31) [.ptr 1 0] []] rfl (fun _ => rfl) (fin_close rfl (.ang ⟨7, back, chk, scope, ent, token, text, rest, false, opn, (pairs ++ [(token, text)])⟩ true) [0, 1] [2, 26, 4, 5, 6] _ (angTm hv1 ⟨e1, e2, e3, by rw [e4, hv2.eq]⟩ hok2) rfl (fin_ [] rfl rfl hK)))
theorem texts_a (hr : RgtOk GOk right) (s : OS Ang) : Triple (BB Ip GOk) 214 2 2 [.ptr 0 0] (ocA s) (fun K => PostN K (angTexts right s)) := by
  obtain ⟨⟨state, back, chk, scope, ent, token, text, rest, gap, opn, pairs⟩, core⟩ := s
  refine triple_of BB_ok (tb := ty) rfl (n0 := 7) (fun y : {cs' // Tm (.ang ⟨state, back, chk, scope, ent, token, text, rest, gap, opn, pairs⟩ true) cs'} => csRen (sg [0, 1] 2) y.1 ++ [.abs (.core core 69 48) [1, 0]]) pl214 Tryz.call214 Tryz.func214 rfl (by kernel_rfl) (Nat.le_of_ble_eq_true rfl) (by decide) rfl (pre_open rfl rfl rfl) ?_
  rintro G hG K hK W bi bc bs bk bu bb bo bg bl bp bn be Ncond Nob Nop Nloop Nscope hN Nfin hf _ ⟨cs', hT⟩
  obtain ⟨p, lo, len, cap, xs, q, lo2, len2, cap2, ys, tl, hv1, hv2, hok, htl, -, rfl⟩ := id hT
  obtain rfl := htl rfl
  simp only at hv1 hv2 hok
  simp only [angTexts] at hK
  have hx : okE ⟨4, text, ⟨#[]⟩⟩ := ⟨by have := hok.txt; simp only; omega, Nat.le_of_ble_eq_true rfl, fun h => by simp at h, trivial⟩
  cbv
  refine cond_ hN ?_ ?_ <;> intro h1 <;> rw [seq_eq hN] at h1
  · have h1 : text = sEmp := of_decide_eq_true h1
    rw [if_pos h1] at hK
    cbv
    exact hf _ _ (fin_close rfl (.ang ⟨state, back, chk, scope, ent, token, sEmp, rest, gap, opn, pairs⟩ true) [0, 1] [2, 3, 4, 5, 6] _ (angTm hv1 hv2 hok.text0) rfl (fin_ [] rfl rfl hK))
  · have h1 : ¬ text = sEmp := of_decide_eq_false h1
    rw [if_neg h1] at hK
    cbv
    refine op_ hN (op_close rfl (.ang ⟨state, back, chk, scope, ent, token, sEmp, rest, gap, opn, pairs⟩ true) [0, 1] [2, 3, 4, 5, 6] _ (angTm hv1 hv2 hok.text0) rfl rfl ?_)
    refine call_ (event_a hr ⟨⟨state, back, chk, scope, ent, token, sEmp, rest, gap, opn, pairs⟩, core⟩ ⟨4, text, ⟨#[]⟩⟩ hx) hG [0, 1] rfl rfl rfl rfl rfl ?_
    have hK2 := hK
    clear hK
    change PostN _ (angEvent right ⟨4, text, sEmp⟩ ⟨⟨state, back, chk, scope, ent, token, sEmp, rest, gap, opn, pairs⟩, core⟩) at hK2
    change PostN _ (angEvent right ⟨4, text, sEmp⟩ ⟨⟨state, back, chk, scope, ent, token, sEmp, rest, gap, opn, pairs⟩, core⟩)
    generalize angEvent right ⟨4, text, sEmp⟩ ⟨⟨state, back, chk, scope, ent, token, sEmp, rest, gap, opn, pairs⟩, core⟩ = y at hK2 ⊢
    cases y with
    | none => exact hK2.elim
    | some y =>
      obtain ⟨e, s2⟩ := y
      cbv
      exact hf _ _ (fin_ [] rfl rfl hK2)
end Hx
