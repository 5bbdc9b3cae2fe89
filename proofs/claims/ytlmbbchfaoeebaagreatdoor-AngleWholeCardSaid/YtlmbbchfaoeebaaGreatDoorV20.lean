/-
  Part of a proof.
-/
import Derived.Test.YtlmbbchfaoeebaaGreatDoorV19
set_option linter.unusedVariables false
set_option linter.unusedSimpArgs false
/- angle.machine.opens: the walk. -/
namespace Hx
open Go Sx Go.Proofs
set_option maxRecDepth 100000
set_option maxHeartbeats 4000000
set_option linter.unusedVariables false
set_option linter.unusedSimpArgs false
variable {GOk : Gl → Prop}
theorem cutN_size {f : ByteArray} (h : (cutN f).2.2 = true) : f.size ≤ 48 := by
  have hT : ∀ sp lc : ByteArray, (cutNT sp lc f).2.2 = true → f.size ≤ 48 := by
    intro sp lc h
    unfold cutNT at h
    split at h
    · exact nomatch h
    · rename_i hn
      simp only [Bool.or_eq_true, decide_eq_true_eq, not_or] at hn
      omega
  unfold cutN at h
  split at h
  · split at h
    · exact nomatch h
    · exact hT _ _ h
  · exact hT _ _ h
theorem joinN_size (sp lc : ByteArray) : (joinN sp lc).1.size ≤ 48 := by
  unfold joinN
  split
  · decide
  · rename_i hn
    simp only [Bool.or_eq_true, not_or, Bool.not_eq_true', Bool.not_eq_false] at hn
    exact cutN_size hn.1
theorem angFull_size (sc : List (List (ByteArray × ByteArray))) (t : ByteArray) (at_ : Bool) : (angFull sc t at_).1.size ≤ 48 := by
  have h : ∀ (c : Prop) [Decidable c] (j : ByteArray), j.size ≤ 48 → (if c then (sEmp, (18 : Int)) else (j, 0)).1.size ≤ 48 := by
    intro c _ j hj
    split
    · decide
    · exact hj
  exact h _ _ (joinN_size _ _)
variable {right : Ev → Bool}
theorem opens_a (hTab : GTab GOk) (hr : RgtOk GOk right) (s : OS Ang) : Triple (BB Ip GOk) 212 2 2 [.ptr 0 0] (ocA s) (fun K => PostN K (angOpens right s)) := by
  obtain ⟨⟨state, back, chk, scope, ent, token, text, rest, gap, opn, pairs⟩, core⟩ := s
  refine triple_of BB_ok (tb := ty) rfl (n0 := 7) (fun y : {cs' // Tm (.ang ⟨state, back, chk, scope, ent, token, text, rest, gap, opn, pairs⟩ true) cs'} => csRen (sg [0, 1] 2) y.1 ++ [.abs (.core core 69 48) [1, 0]]) pl212 Tryz.call212 Tryz.func212 rfl (by kernel_rfl) (Nat.le_of_ble_eq_true rfl) (by decide) rfl (pre_open rfl rfl rfl) ?_
  rintro G hG K hK W bi bc bs bk bu bb bo bg bl bp bn be Ncond Nob Nop Nloop Nscope hN Nfin hf _ ⟨cs', hT⟩
  obtain ⟨p, lo, len, cap, xs, q, lo2, len2, cap2, ys, tl, hv1, hv2, hok, htl, -, rfl⟩ := id hT
  obtain rfl := htl rfl
  simp only at hv1 hv2 hok
  simp only [angOpens] at hK
  cbv
  refine op_ hN (op_close rfl (.ang ⟨state, back, chk, scope, ent, token, sEmp, rest, gap, opn, pairs⟩ true) [0, 1] [2, 3, 4, 5, 6] _ (angTm hv1 hv2 hok.text0) rfl rfl ?_)
  refine call_ (binds_a hTab ⟨⟨state, back, chk, scope, ent, token, sEmp, rest, gap, opn, pairs⟩, core⟩) hG [0, 1] rfl rfl rfl rfl rfl ?_
  change PostN _ (angBinds ⟨⟨state, back, chk, scope, ent, token, sEmp, rest, gap, opn, pairs⟩, core⟩)
  generalize angBinds ⟨⟨state, back, chk, scope, ent, token, sEmp, rest, gap, opn, pairs⟩, core⟩ = y at hK ⊢
  cases y with
  | none => exact hK.elim
  | some y =>
    obtain ⟨e, s2⟩ := y
    simp only at hK
    cbv
    refine cond_ hN ?_ ?_ <;> intro h1 <;> rw [cne hN] at h1
    · have h1 : e ≠ 0 := by simpa using h1
      rw [if_pos h1] at hK
      cbv
      exact hf _ _ (fin_ [] rfl rfl hK)
    · have h1 : e = 0 := by simpa using h1
      rw [if_neg (fun h => h h1)] at hK
      clear hv1 hv2 hok hT h1
      obtain ⟨⟨state, back, chk, scope, ent, token, text, rest, gap, opn, pairs⟩, core⟩ := s2
      simp only at hK
      cases ht : opn.getLast? with
      | none =>
        rw [ht] at hK
        exact hK.elim
      | some t =>
        rw [ht] at hK
        simp only [opensT] at hK
        cbv
        repeat' (first | exact True.intro | with_reducible refine dup ?_ | refine And.intro ?_ ?_)
        all_goals
          refine op_ hN (op_open rfl 0 6 rfl rfl rfl rfl ?_)
          rintro _ ⟨p, lo, len, cap, xs, q, lo2, len2, cap2, ys, tl, hv1, hv2, hok, htl, -, rfl⟩
          obtain rfl := htl rfl
          simp only at hv1 hv2 hok
          refine load_ ty_ok rfl ?_
          obtain ⟨l1, hl1, hx, hpt, -⟩ := last_vec hv1 ht
          have hlen := hv1.length
          have hlen2 := hv2.length
          have hfits := hv1.fits
          have hroom := hv1.room
          have hroom2 := hv2.room
          have hfits2 := hv2.fits
          have hol := hok.ol
          have hpl := hok.pl
          have hts : t.size ≤ 900000 := hok.os t (List.mem_of_getLast? ht)
          have hsub : bi .sub .i64 (Int.ofNat len) 1 = Int.ofNat l1 := by rw [isub hN (by simp; omega) (by simp; omega)]; simp; omega
          have hidx : bp lo (bi .sub .i64 (Int.ofNat len) 1) = lo + l1 := by rw [hsub, bp_ hN]; simp
          have hob : obsP [.inb (bi .sub .i64 (Int.ofNat len) 1) (Int.ofNat len), .tru p] := ⟨⟨by rw [hsub]; simp, by rw [hsub]; simp; omega⟩, hpt, trivial⟩
          have hil : bp lo (bi .sub .i64 (Int.ofNat len) 1) < xs.length := by rw [hidx]; omega
          clear hsub
          cbv
          repeat' (first | exact True.intro | with_reducible refine dup ?_ | refine And.intro ?_ ?_)
          all_goals
            refine ob_ hN hob ?_
            cbv
            repeat' (first | exact True.intro | with_reducible refine dup ?_ | refine And.intro ?_ ?_)
            all_goals
              refine op_ hN (load_arr ty_ok rfl hpt rfl wideS (Nat.le_of_ble_eq_true rfl) hil ?_)
              intro x2 hx2
              rw [hidx, hx] at hx2
              have e9 := Option.some.inj hx2
              subst e9
              cbv
              repeat' (first | exact True.intro | with_reducible refine dup ?_ | refine And.intro ?_ ?_)
              all_goals
                refine op_ hN (call_ (full_ff hTab t hts scope state back token text rest gap p lo len cap q lo2 len2 cap2) hG [0, 1, 26, 27, 28, 29, 30] rfl rfl rfl rfl rfl ?_)
                intro r f hrf
                have hrs : r.size ≤ 48 := by have := angFull_size scope t false; rw [← hrf] at this; exact this
                rw [← hrf] at hK
                simp only at hK
                clear hrf hx hob hil hidx
                cbv
                repeat' (first | exact True.intro | with_reducible refine dup ?_ | refine And.intro ?_ ?_)
                all_goals
                  refine cond_ hN ?_ ?_ <;> intro h3
                  · rw [ceq hN] at h3
                    rw [if_pos (of_decide_eq_true h3), angEvent_o] at hK
                    have hx9 : okE ⟨10, r, ⟨#[]⟩⟩ := ⟨by simp only; omega, Nat.le_of_ble_eq_true rfl, fun _ => by simp only; omega, trivial⟩
                    cbv
                    refine op_ hN (call_ (event_o hr ⟨10, r, ⟨#[]⟩⟩ hx9 chk core state back token text rest gap p lo len cap q lo2 len2 cap2) hG [0, 1, 26, 27, 28, 29, 30] rfl rfl rfl rfl rfl ?_)
                    have hK2 := hK
                    clear hK
                    change PostN K (match (evO right ⟨10, r, ⟨#[]⟩⟩ chk core).map (fun y => (y.1, (⟨{ (⟨state, back, chk, scope, ent, token, text, rest, gap, opn, pairs⟩ : Ang) with chk := y.2.1 }, y.2.2⟩ : OS Ang))) with | none => none | some (e2, s2) => opensGo right s2.m.pairs e2 s2) at hK2
                    change PostO _ _ (evO right ⟨10, r, ⟨#[]⟩⟩ chk core)
                    generalize evO right ⟨10, r, ⟨#[]⟩⟩ chk core = y at hK2 ⊢
                    cases y with
                    | none => exact hK2.elim
                    | some y =>
                      obtain ⟨e0, chk0, core0⟩ := y
                      have hK : PostN K (opensGo right pairs e0 ⟨⟨state, back, chk0, scope, ent, token, text, rest, gap, opn, pairs⟩, core0⟩) := hK2
                      clear hK2
                      cbv
                      refine loopN_ hN (loop_ hN ty_ok mixed (ι := Nat × Int × Chk × Core) (fun y => ⟨[(0, .ptr 0 0), (5, .int .i64 y.2.1), (42, .vec q 3 2 lo2 len2 cap2), (43, .int .i64 (Int.ofNat len2)), (44, .int .i64 (Int.ofNat y.1))],
                          [angC state back token text rest gap p lo len cap q lo2 len2 cap2, .arr p true 2 9 encS xs, .arr q true 3 273 encPr ys, .abs (.chk y.2.2.1) [4], .abs (.scp scope) [5], .abs (.ent ent) [6], .abs (.core y.2.2.2 69 48) [1, 0]], 7⟩)
                        (fun y => y.1 ≤ len2 ∧ opensGo right (pairs.drop y.1) y.2.1 ⟨⟨state, back, y.2.2.1, scope, ent, token, text, rest, gap, opn, pairs⟩, y.2.2.2⟩ = opensGo right pairs e0 ⟨⟨state, back, chk0, scope, ent, token, text, rest, gap, opn, pairs⟩, core0⟩) (fun y => len2 - y.1)
                        (Leads.idx (0, e0, chk0, core0) [26, 27, 28, 29, 30] ⟨Nat.zero_le _, rfl⟩ ⟨⟨rfl, rfl, rfl, rfl, rfl, trivial⟩, rfl, Nat.le_of_ble_eq_true rfl⟩) ?_)
                      rintro ⟨i, e, ck, cr⟩ ⟨hi, hgo⟩ Nnext hn _
                      simp only at hi hgo
                      cbv
                      refine cond_ hN (fun h => ?_) (fun h => ?_)
                      · rw [clt hN] at h
                        simp only [decide_eq_true_eq, decide_eq_false_iff_not, Int.ofNat_eq_natCast, gt_iff_lt, ge_iff_le, Bool.not_eq_true', Bool.not_eq_false', Int.not_lt, Int.not_le] at h
                        have hilt : i < len2 := by have : (i : Int) < (len2 : Int) := h; omega
                        have hqt : q = true := by
                          cases q with
                          | true => rfl
                          | false => have := hv2.pr rfl; omega
                        have hidx : bp lo2 (Int.ofNat i) = lo2 + i := by rw [bp_ hN]; simp
                        have hil : i < pairs.length := by omega
                        have hx : ys[lo2 + i]? = some (pairs[i]'hil) := by
                          have h5 : ((ys.drop lo2).take len2)[i]? = some (pairs[i]'hil) := by rw [hv2.eq]; exact List.getElem?_eq_getElem hil
                          rw [List.getElem?_take, if_pos hilt, List.getElem?_drop] at h5
                          exact h5
                        have hps := hok.ps _ (List.getElem_mem hil)
                        have hdrop : pairs.drop i = (pairs[i]'hil) :: pairs.drop (i + 1) := List.drop_eq_getElem_cons hil
                        generalize (pairs[i]'hil) = pr at hx hdrop hps
                        obtain ⟨a, b⟩ := pr
                        obtain ⟨has, hbs⟩ := hps
                        simp only at has hbs
                        rw [hdrop] at hgo
                        simp only [opensGo] at hgo
                        have hadd : bi .add .i64 (Int.ofNat i) 1 = Int.ofNat (i + 1) := inext hN (by omega)
                        cbv
                        refine ob_ hN ⟨⟨by simp, by simpa using hilt⟩, hqt, trivial⟩ ?_
                        cbv
                        refine op_ hN (load_arr ty_ok rfl hqt rfl widePr (Nat.le_of_ble_eq_true rfl) (by rw [hidx]; omega) ?_)
                        intro x2 hx2
                        rw [hidx, hx] at hx2
                        have e9 := Option.some.inj hx2
                        subst e9
                        clear hdrop hx hx2
                        cbv
                        refine cond_ hN ?_ ?_ <;> intro h1
                        · rw [cne hN] at h1
                          have h1 : e ≠ 0 := by simpa using h1
                          rw [if_pos h1] at hgo
                          rw [← hgo] at hK
                          cbv
                          exact hf _ _ (fin_close rfl (.ang ⟨state, back, ck, scope, ent, token, text, rest, gap, opn, pairs⟩ true) [0, 1] [2, 3, 4, 5, 6] _ (angTm hv1 hv2 hok) rfl (fin_ [] rfl rfl hK))
                        · rw [cne hN] at h1
                          have h1 : e = 0 := by simpa using h1
                          rw [if_neg (fun h => h h1)] at hgo
                          cbv
                          refine cond_ hN ?_ ?_ <;> intro h2
                          · rw [seq_eq hN] at h2
                            have hxm : isXml a = true := by
                              have : a = wXmlns := of_decide_eq_true h2
                              unfold isXml; rw [decide_eq_true this, Bool.true_or]
                            rw [if_pos hxm] at hgo
                            cbv
                            simp only [hadd]
                            exact hn _ (Leads.nxt (i + 1, e, ck, cr) [2, 3, 4, 5, 6] ⟨hilt, hgo⟩ (by simp only; omega) ⟨⟨rfl, rfl, rfl, rfl, rfl, trivial⟩, rfl, Nat.le_of_ble_eq_true rfl⟩)
                          · rw [seq_eq hN] at h2
                            have hxm : isXml a = hasPre a wXmlnsC := by
                              have : ¬ a = wXmlns := of_decide_eq_false h2
                              unfold isXml; rw [decide_eq_false this, Bool.false_or]
                            rw [hxm] at hgo
                            clear hxm
                            cbv
                            refine op_ hN (call_ (has_prefix_spec a ⟨#[120, 109, 108, 110, 115, 58]⟩) hG [] rfl rfl rfl rfl rfl ?_)
                            intro d hd
                            have hd : hasPre a wXmlnsC = d := hd.symm
                            rw [hd] at hgo
                            clear hd
                            cases d with
                            | true =>
                              rw [if_pos rfl] at hgo
                              cbv
                              refine cond_T hN rfl ?_
                              cbv
                              simp only [hadd]
                              exact hn _ (Leads.nxt (i + 1, e, ck, cr) [2, 3, 4, 5, 6] ⟨hilt, hgo⟩ (by simp only; omega) ⟨⟨rfl, rfl, rfl, rfl, rfl, trivial⟩, rfl, Nat.le_of_ble_eq_true rfl⟩)
                            | false =>
                              rw [if_neg (by decide)] at hgo
                              cbv
                              refine cond_F hN rfl ?_
                              cbv
                              refine op_ hN (call_ (full_tt hTab a has scope state back token text rest gap p lo len cap q lo2 len2 cap2) hG [0, 1, 2, 3, 4, 5, 6] rfl rfl rfl rfl rfl ?_)
                              intro r fa hrf
                              have hrs : r.size ≤ 48 := by have := angFull_size scope a true; rw [← hrf] at this; exact this
                              rw [← hrf] at hgo
                              simp only at hgo
                              clear hrf
                              cbv
                              refine cond_ hN ?_ ?_ <;> intro h3
                              · rw [ceq hN] at h3
                                rw [if_pos (of_decide_eq_true h3), angEvent_o] at hgo
                                have hx9 : okE ⟨11, r, b⟩ := ⟨by simp only; omega, by simp only; omega, fun _ => by simp only; omega, trivial⟩
                                cbv
                                refine op_ hN (call_ (event_o hr ⟨11, r, b⟩ hx9 ck cr state back token text rest gap p lo len cap q lo2 len2 cap2) hG [0, 1, 2, 3, 4, 5, 6] rfl rfl rfl rfl rfl ?_)
                                have hgo2 := hgo
                                clear hgo
                                change (match (evO right ⟨11, r, b⟩ ck cr).map (fun y => (y.1, (⟨{ (⟨state, back, ck, scope, ent, token, text, rest, gap, opn, pairs⟩ : Ang) with chk := y.2.1 }, y.2.2⟩ : OS Ang))) with | none => none | some (e2, s2) => opensGo right (pairs.drop (i + 1)) e2 s2) = _ at hgo2
                                change PostO _ _ (evO right ⟨11, r, b⟩ ck cr)
                                generalize evO right ⟨11, r, b⟩ ck cr = y at hgo2 ⊢
                                cases y with
                                | none =>
                                  have hgo2 : none = opensGo right pairs e0 ⟨⟨state, back, chk0, scope, ent, token, text, rest, gap, opn, pairs⟩, core0⟩ := hgo2
                                  rw [← hgo2] at hK
                                  exact hK.elim
                                | some y =>
                                  obtain ⟨e2, chk2, core2⟩ := y
                                  have hgo : opensGo right (pairs.drop (i + 1)) e2 ⟨⟨state, back, chk2, scope, ent, token, text, rest, gap, opn, pairs⟩, core2⟩ = opensGo right pairs e0 ⟨⟨state, back, chk0, scope, ent, token, text, rest, gap, opn, pairs⟩, core0⟩ := hgo2
                                  clear hgo2
                                  cbv
                                  simp only [hadd]
                                  exact hn _ (Leads.nxt (i + 1, e2, chk2, core2) [2, 3, 4, 5, 6] ⟨hilt, hgo⟩ (by simp only; omega) ⟨⟨rfl, rfl, rfl, rfl, rfl, trivial⟩, rfl, Nat.le_of_ble_eq_true rfl⟩)
                              · rw [ceq hN] at h3
                                rw [if_neg (of_decide_eq_false h3)] at hgo
                                cbv
                                simp only [hadd]
                                exact hn _ (Leads.nxt (i + 1, fa, ck, cr) [2, 3, 4, 5, 6] ⟨hilt, hgo⟩ (by simp only; omega) ⟨⟨rfl, rfl, rfl, rfl, rfl, trivial⟩, rfl, Nat.le_of_ble_eq_true rfl⟩)
                      · rw [clt hN] at h
                        simp only [decide_eq_true_eq, decide_eq_false_iff_not, Int.ofNat_eq_natCast, gt_iff_lt, ge_iff_le, Bool.not_eq_true', Bool.not_eq_false', Int.not_lt, Int.not_le] at h
                        have hie : i = len2 := by have : (len2 : Int) ≤ (i : Int) := h; omega
                        rw [hie, ← hlen2, List.drop_length, opensGo] at hgo
                        rw [← hgo] at hK
                        cbv
                        exact hf _ _ (fin_close rfl (.ang ⟨state, back, ck, scope, ent, token, text, rest, gap, opn, pairs⟩ true) [0, 1] [2, 3, 4, 5, 6] _ (angTm hv1 hv2 hok) rfl (fin_ [] rfl rfl hK))
                  · rw [ceq hN] at h3
                    rw [if_neg (of_decide_eq_false h3)] at hK
                    cbv
                    refine loopN_ hN (loop_ hN ty_ok mixed (ι := Nat × Int × Chk × Core) (fun y => ⟨[(0, .ptr 0 0), (5, .int .i64 y.2.1), (42, .vec q 3 2 lo2 len2 cap2), (43, .int .i64 (Int.ofNat len2)), (44, .int .i64 (Int.ofNat y.1))],
                        [angC state back token text rest gap p lo len cap q lo2 len2 cap2, .arr p true 2 9 encS xs, .arr q true 3 273 encPr ys, .abs (.chk y.2.2.1) [4], .abs (.scp scope) [5], .abs (.ent ent) [6], .abs (.core y.2.2.2 69 48) [1, 0]], 7⟩)
                      (fun y => y.1 ≤ len2 ∧ opensGo right (pairs.drop y.1) y.2.1 ⟨⟨state, back, y.2.2.1, scope, ent, token, text, rest, gap, opn, pairs⟩, y.2.2.2⟩ = opensGo right pairs f ⟨⟨state, back, chk, scope, ent, token, text, rest, gap, opn, pairs⟩, core⟩) (fun y => len2 - y.1)
                      (Leads.idx (0, f, chk, core) [26, 27, 28, 29, 30] ⟨Nat.zero_le _, rfl⟩ ⟨⟨rfl, rfl, rfl, rfl, rfl, trivial⟩, rfl, Nat.le_of_ble_eq_true rfl⟩) ?_)
                    rintro ⟨i, e, ck, cr⟩ ⟨hi, hgo⟩ Nnext hn _
                    simp only at hi hgo
                    cbv
                    refine cond_ hN (fun h => ?_) (fun h => ?_)
                    · rw [clt hN] at h
                      simp only [decide_eq_true_eq, decide_eq_false_iff_not, Int.ofNat_eq_natCast, gt_iff_lt, ge_iff_le, Bool.not_eq_true', Bool.not_eq_false', Int.not_lt, Int.not_le] at h
                      have hilt : i < len2 := by have : (i : Int) < (len2 : Int) := h; omega
                      have hqt : q = true := by
                        cases q with
                        | true => rfl
                        | false => have := hv2.pr rfl; omega
                      have hidx : bp lo2 (Int.ofNat i) = lo2 + i := by rw [bp_ hN]; simp
                      have hil : i < pairs.length := by omega
                      have hx : ys[lo2 + i]? = some (pairs[i]'hil) := by
                        have h5 : ((ys.drop lo2).take len2)[i]? = some (pairs[i]'hil) := by rw [hv2.eq]; exact List.getElem?_eq_getElem hil
                        rw [List.getElem?_take, if_pos hilt, List.getElem?_drop] at h5
                        exact h5
                      have hps := hok.ps _ (List.getElem_mem hil)
                      have hdrop : pairs.drop i = (pairs[i]'hil) :: pairs.drop (i + 1) := List.drop_eq_getElem_cons hil
                      generalize (pairs[i]'hil) = pr at hx hdrop hps
                      obtain ⟨a, b⟩ := pr
                      obtain ⟨has, hbs⟩ := hps
                      simp only at has hbs
                      rw [hdrop] at hgo
                      simp only [opensGo] at hgo
                      have hadd : bi .add .i64 (Int.ofNat i) 1 = Int.ofNat (i + 1) := inext hN (by omega)
                      cbv
                      refine ob_ hN ⟨⟨by simp, by simpa using hilt⟩, hqt, trivial⟩ ?_
                      cbv
                      refine op_ hN (load_arr ty_ok rfl hqt rfl widePr (Nat.le_of_ble_eq_true rfl) (by rw [hidx]; omega) ?_)
                      intro x2 hx2
                      rw [hidx, hx] at hx2
                      have e9 := Option.some.inj hx2
                      subst e9
                      clear hdrop hx hx2
                      cbv
                      refine cond_ hN ?_ ?_ <;> intro h1
                      · rw [cne hN] at h1
                        have h1 : e ≠ 0 := by simpa using h1
                        rw [if_pos h1] at hgo
                        rw [← hgo] at hK
                        cbv
                        exact hf _ _ (fin_close rfl (.ang ⟨state, back, ck, scope, ent, token, text, rest, gap, opn, pairs⟩ true) [0, 1] [2, 3, 4, 5, 6] _ (angTm hv1 hv2 hok) rfl (fin_ [] rfl rfl hK))
                      · rw [cne hN] at h1
                        have h1 : e = 0 := by simpa using h1
                        rw [if_neg (fun h => h h1)] at hgo
                        cbv
                        refine cond_ hN ?_ ?_ <;> intro h2
                        · rw [seq_eq hN] at h2
                          have hxm : isXml a = true := by
                            have : a = wXmlns := of_decide_eq_true h2
                            unfold isXml; rw [decide_eq_true this, Bool.true_or]
                          rw [if_pos hxm] at hgo
                          cbv
                          simp only [hadd]
                          exact hn _ (Leads.nxt (i + 1, e, ck, cr) [2, 3, 4, 5, 6] ⟨hilt, hgo⟩ (by simp only; omega) ⟨⟨rfl, rfl, rfl, rfl, rfl, trivial⟩, rfl, Nat.le_of_ble_eq_true rfl⟩)
                        · rw [seq_eq hN] at h2
                          have hxm : isXml a = hasPre a wXmlnsC := by
                            have : ¬ a = wXmlns := of_decide_eq_false h2
                            unfold isXml; rw [decide_eq_false this, Bool.false_or]
                          rw [hxm] at hgo
                          clear hxm
                          cbv
                          refine op_ hN (call_ (has_prefix_spec a ⟨#[120, 109, 108, 110, 115, 58]⟩) hG [] rfl rfl rfl rfl rfl ?_)
                          intro d hd
                          have hd : hasPre a wXmlnsC = d := hd.symm
                          rw [hd] at hgo
                          clear hd
                          cases d with
                          | true =>
                            rw [if_pos rfl] at hgo
                            cbv
                            refine cond_T hN rfl ?_
                            cbv
                            simp only [hadd]
                            exact hn _ (Leads.nxt (i + 1, e, ck, cr) [2, 3, 4, 5, 6] ⟨hilt, hgo⟩ (by simp only; omega) ⟨⟨rfl, rfl, rfl, rfl, rfl, trivial⟩, rfl, Nat.le_of_ble_eq_true rfl⟩)
                          | false =>
                            rw [if_neg (by decide)] at hgo
                            cbv
                            refine cond_F hN rfl ?_
                            cbv
                            refine op_ hN (call_ (full_tt hTab a has scope state back token text rest gap p lo len cap q lo2 len2 cap2) hG [0, 1, 2, 3, 4, 5, 6] rfl rfl rfl rfl rfl ?_)
                            intro r fa hrf
                            have hrs : r.size ≤ 48 := by have := angFull_size scope a true; rw [← hrf] at this; exact this
                            rw [← hrf] at hgo
                            simp only at hgo
                            clear hrf
                            cbv
                            refine cond_ hN ?_ ?_ <;> intro h3
                            · rw [ceq hN] at h3
                              rw [if_pos (of_decide_eq_true h3), angEvent_o] at hgo
                              have hx9 : okE ⟨11, r, b⟩ := ⟨by simp only; omega, by simp only; omega, fun _ => by simp only; omega, trivial⟩
                              cbv
                              refine op_ hN (call_ (event_o hr ⟨11, r, b⟩ hx9 ck cr state back token text rest gap p lo len cap q lo2 len2 cap2) hG [0, 1, 2, 3, 4, 5, 6] rfl rfl rfl rfl rfl ?_)
                              have hgo2 := hgo
                              clear hgo
                              change (match (evO right ⟨11, r, b⟩ ck cr).map (fun y => (y.1, (⟨{ (⟨state, back, ck, scope, ent, token, text, rest, gap, opn, pairs⟩ : Ang) with chk := y.2.1 }, y.2.2⟩ : OS Ang))) with | none => none | some (e2, s2) => opensGo right (pairs.drop (i + 1)) e2 s2) = _ at hgo2
                              change PostO _ _ (evO right ⟨11, r, b⟩ ck cr)
                              generalize evO right ⟨11, r, b⟩ ck cr = y at hgo2 ⊢
                              cases y with
                              | none =>
                                have hgo2 : none = opensGo right pairs f ⟨⟨state, back, chk, scope, ent, token, text, rest, gap, opn, pairs⟩, core⟩ := hgo2
                                rw [← hgo2] at hK
                                exact hK.elim
                              | some y =>
                                obtain ⟨e2, chk2, core2⟩ := y
                                have hgo : opensGo right (pairs.drop (i + 1)) e2 ⟨⟨state, back, chk2, scope, ent, token, text, rest, gap, opn, pairs⟩, core2⟩ = opensGo right pairs f ⟨⟨state, back, chk, scope, ent, token, text, rest, gap, opn, pairs⟩, core⟩ := hgo2
                                clear hgo2
                                cbv
                                simp only [hadd]
                                exact hn _ (Leads.nxt (i + 1, e2, chk2, core2) [2, 3, 4, 5, 6] ⟨hilt, hgo⟩ (by simp only; omega) ⟨⟨rfl, rfl, rfl, rfl, rfl, trivial⟩, rfl, Nat.le_of_ble_eq_true rfl⟩)
                            · rw [ceq hN] at h3
                              rw [if_neg (of_decide_eq_false h3)] at hgo
                              cbv
                              simp only [hadd]
                              exact hn _ (Leads.nxt (i + 1, fa, ck, cr) [2, 3, 4, 5, 6] ⟨hilt, hgo⟩ (by simp only; omega) ⟨⟨rfl, rfl, rfl, rfl, rfl, trivial⟩, rfl, Nat.le_of_ble_eq_true rfl⟩)
                    · rw [clt hN] at h
                      simp only [decide_eq_true_eq, decide_eq_false_iff_not, Int.ofNat_eq_natCast, gt_iff_lt, ge_iff_le, Bool.not_eq_true', Bool.not_eq_false', Int.not_lt, Int.not_le] at h
                      have hie : i = len2 := by have : (len2 : Int) ≤ (i : Int) := h; omega
                      rw [hie, ← hlen2, List.drop_length, opensGo] at hgo
                      rw [← hgo] at hK
                      cbv
                      exact hf _ _ (fin_close rfl (.ang ⟨state, back, ck, scope, ent, token, text, rest, gap, opn, pairs⟩ true) [0, 1] [2, 3, 4, 5, 6] _ (angTm hv1 hv2 hok) rfl (fin_ [] rfl rfl hK))
end Hx
