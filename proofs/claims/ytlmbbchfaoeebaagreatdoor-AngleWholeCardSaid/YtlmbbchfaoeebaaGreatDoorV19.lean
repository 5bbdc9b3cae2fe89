/-
  Part of a proof.
-/
import Derived.Test.YtlmbbchfaoeebaaGreatDoorV18
import Derived.Test.YtlmbbchfaoeebaaGreatDoorV10
set_option linter.unusedVariables false
set_option linter.unusedSimpArgs false
/- angle.machine: event and full on an open machine; binds: the walks. -/
namespace Hx
open Go Sx Go.Proofs
set_option maxRecDepth 100000
set_option maxHeartbeats 4000000
set_option linter.unusedVariables false
set_option linter.unusedSimpArgs false
variable {GOk : Gl → Prop}
abbrev angC (state back : Int) (token text rest : ByteArray) (gap p : Bool) (lo len cap : Nat) (q : Bool) (lo2 len2 cap2 : Nat) : Chunk Pd := .cells 0 76 [.int .i64 state, .int .i64 back, .ptr 4 0, .ptr 5 0, .ptr 6 0, .str token, .str text, .str rest, .bool gap, .vec p 2 1 lo len cap, .vec q 3 2 lo2 len2 cap2, .fn (.func 31) [.ptr 1 0] []]
variable {right : Ev → Bool}
/-- tells an event: the checker and the decoder -/
def evO (right : Ev → Bool) (x : Ev) (chk : Chk) (core : Core) : Option (Int × Chk × Core) :=
  if (chkStep right chk x).1 = 0 then (if core.queue.length ≥ 4294967296 then none else some (0, (chkStep right chk x).2, { core with queue := core.queue ++ [x] }))
  else some ((chkStep right chk x).1, (chkStep right chk x).2, core)
theorem angEvent_o (x : Ev) (m : Ang) (core : Core) : angEvent right x ⟨m, core⟩ = (evO right x m.chk core).map fun y => (y.1, ⟨{ m with chk := y.2.1 }, y.2.2⟩) := by
  unfold angEvent evO
  simp only
  by_cases h : (chkStep right m.chk x).1 = 0
  · rw [if_pos h, if_pos h]
    by_cases hq : core.queue.length ≥ 4294967296
    · rw [if_pos hq, if_pos hq]; rfl
    · rw [if_neg hq, if_neg hq]; rfl
  · rw [if_neg h, if_neg h]; rfl
def PostO (cs : Chk → Core → List (Chunk Pd)) (K : Out → List (Chunk Pd) → Prop) : Option (Int × Chk × Core) → Prop
  | none => False
  | some (e, chk, core) => K (.ret (.int .i64 e)) (cs chk core)
theorem event_o (hr : RgtOk GOk right) (x : Ev) (hx : okE x) (chk : Chk) (core : Core) (state back : Int) (token text rest : ByteArray) (gap p : Bool) (lo len cap : Nat) (q : Bool) (lo2 len2 cap2 : Nat) :
    Triple (BB Ip GOk) 221 7 7 [.ptr 0 0, .agg [.int .i64 x.kind, .str x.text, .str x.val]] [angC state back token text rest gap p lo len cap q lo2 len2 cap2, .abs (.chk chk) [4], .abs (.core core 69 48) [1, 0]]
      (fun K => PostO (fun chk core => [angC state back token text rest gap p lo len cap q lo2 len2 cap2, .abs (.chk chk) [4], .abs (.core core 69 48) [1, 0]]) K (evO right x chk core)) := by
  obtain ⟨kind, etext, val⟩ := x
  refine triple_of BB_ok (tb := ty) rfl (n0 := 7) (fun _ : Unit => _) pl221 Tryz.call221 Tryz.func221 rfl (by kernel_rfl) (Nat.le_of_ble_eq_true rfl) (by decide) rfl pre_none ?_
  rintro G hG K hK W bi bc bs bk bu bb bo bg bl bp bn be Ncond Nob Nop Nloop Nscope hN Nfin hf _ _
  simp only [evO] at hK
  cbv
  repeat' (first | exact True.intro | with_reducible refine dup ?_ | refine And.intro ?_ ?_)
  all_goals
    refine op_ hN (call_ (step_spec' hr chk ⟨kind, etext, val⟩ hx) hG [4] rfl rfl rfl rfl rfl ?_)
    intro e chk' he
    rw [← he] at hK
    simp only at hK
    clear he
    cbv
    repeat' (first | exact True.intro | with_reducible refine dup ?_ | refine And.intro ?_ ?_)
    all_goals
      refine cond_ hN ?_ ?_ <;> intro h1 <;> rw [ceq hN] at h1
      · have h1 : e = 0 := of_decide_eq_true h1
        rw [if_pos h1] at hK
        by_cases hq : core.queue.length ≥ 4294967296
        · rw [if_pos hq] at hK
          exact hK.elim
        · rw [if_neg hq] at hK
          generalize hc2 : ({ core with queue := core.queue ++ [⟨kind, etext, val⟩] } : Core) = core2 at hK
          cbv
          repeat' (first | exact True.intro | with_reducible refine dup ?_ | refine And.intro ?_ ?_)
          all_goals
            refine op_ hN (call_ (tell_spec 69 48 core ⟨kind, etext, val⟩ (by omega)) hG [1, 0] rfl rfl rfl rfl rfl ?_)
            rw [hc2]
            cbv
            repeat' (first | exact True.intro | with_reducible refine dup ?_ | refine And.intro ?_ ?_)
            all_goals
              subst h1
              exact hf _ _ (fin_ [] rfl rfl hK)
      · have h1 : ¬ e = 0 := of_decide_eq_false h1
        rw [if_neg h1] at hK
        cbv
        exact hf _ _ (fin_ [] rfl rfl hK)
theorem full_tt (hTab : GTab GOk) (t : ByteArray) (ht : t.size ≤ 900000) (scope : List (List (ByteArray × ByteArray))) (state back : Int) (token text rest : ByteArray) (gap p : Bool) (lo len cap : Nat) (q : Bool) (lo2 len2 cap2 : Nat) :
    Triple (BB Ip GOk) 220 7 7 [.ptr 0 0, .str t, .tt] [angC state back token text rest gap p lo len cap q lo2 len2 cap2, .abs (.scp scope) [5]] (fun K => ∀ r e, (r, e) = angFull scope t true → K (.ret (.tuple [.str r, .int .i64 e])) [angC state back token text rest gap p lo len cap q lo2 len2 cap2, .abs (.scp scope) [5]]) := by
  refine triple_of BB_ok (tb := ty) rfl (n0 := 7) (fun _ : Unit => _) pl220 Tryz.call220 Tryz.func220 rfl (by kernel_rfl) (Nat.le_of_ble_eq_true rfl) (by decide) rfl pre_none ?_
  rintro G hG K hK W bi bc bs bk bu bb bo bg bl bp bn be Ncond Nob Nop Nloop Nscope hN Nfin hf _ _
  cbv
  refine op_ hN (call_ (scut_spec hTab t ⟨#[58]⟩ (by omega)) hG [] rfl rfl rfl rfl rfl ?_)
  intro a b c hc
  have hc2 : cutB t wColon = (a, b, c) := cutB_eq hc
  have hcs := cutB_le t wColon
  rw [hc2] at hcs
  simp only at hcs
  clear hc
  cases c with
  | true =>
    have hM : angFull scope t true = (if !(scpSpace scope a).2 || !(joinN (scpSpace scope a).1 b).2 then (sEmp, 18) else ((joinN (scpSpace scope a).1 b).1, 0)) := by
      unfold angFull fullS; rw [hc2]; rfl
    clear hc2
    cbv
    refine cond_F hN rfl ?_
    cbv
    refine op_ hN (call_ (scp_space_spec scope a) hG [5] rfl rfl rfl rfl rfl ?_)
    intro v ok hv hsz
    have hv : scpSpace scope a = (v, ok) := hv.symm
    rw [hv] at hM
    simp only at hM
    clear hv
    cbv
    refine cond_F hN rfl ?_
    cbv
    refine op_ hN (call_ (join_spec hTab v b hsz (by omega)) hG [] rfl rfl rfl rfl rfl ?_)
    intro r h hrh
    rw [← hrh] at hM
    simp only at hM
    clear hrh
    cases ok with
    | false =>
      rw [if_pos (by rfl)] at hM
      cbv
      refine cond_T hN rfl ?_
      cbv
      exact hf _ _ (fin_ [] rfl rfl (hK _ _ hM.symm))
    | true =>
      cbv
      refine cond_F hN rfl ?_
      cbv
      cases h with
      | false =>
        rw [if_pos (by rfl)] at hM
        cbv
        refine cond_T hN rfl ?_
        cbv
        exact hf _ _ (fin_ [] rfl rfl (hK _ _ hM.symm))
      | true =>
        rw [if_neg (by decide)] at hM
        cbv
        refine cond_F hN rfl ?_
        cbv
        exact hf _ _ (fin_ [] rfl rfl (hK _ _ hM.symm))
  | false =>
    have hM : angFull scope t true = (if !true || !(joinN ⟨#[]⟩ t).2 then (sEmp, 18) else ((joinN ⟨#[]⟩ t).1, 0)) := by
      unfold angFull fullS; rw [hc2]; rfl
    clear hc2
    cbv
    refine cond_T hN rfl ?_
    cbv
    refine op_ hN (call_ (scp_space_spec scope ⟨#[]⟩) hG [5] rfl rfl rfl rfl rfl ?_)
    intro v ok hv hsz
    clear hv
    cbv
    refine cond_T hN rfl ?_
    cbv
    refine op_ hN (call_ (join_spec hTab ⟨#[]⟩ t (Nat.zero_le _) (by omega)) hG [] rfl rfl rfl rfl rfl ?_)
    intro r h hrh
    rw [← hrh] at hM
    simp only at hM
    clear hrh
    cbv
    cases h with
    | false =>
      rw [if_pos (by rfl)] at hM
      cbv
      refine cond_T hN rfl ?_
      cbv
      exact hf _ _ (fin_ [] rfl rfl (hK _ _ hM.symm))
    | true =>
      rw [if_neg (by decide)] at hM
      cbv
      refine cond_F hN rfl ?_
      cbv
      exact hf _ _ (fin_ [] rfl rfl (hK _ _ hM.symm))
theorem full_ff (hTab : GTab GOk) (t : ByteArray) (ht : t.size ≤ 900000) (scope : List (List (ByteArray × ByteArray))) (state back : Int) (token text rest : ByteArray) (gap p : Bool) (lo len cap : Nat) (q : Bool) (lo2 len2 cap2 : Nat) :
    Triple (BB Ip GOk) 220 7 7 [.ptr 0 0, .str t, .ff] [angC state back token text rest gap p lo len cap q lo2 len2 cap2, .abs (.scp scope) [5]] (fun K => ∀ r e, (r, e) = angFull scope t false → K (.ret (.tuple [.str r, .int .i64 e])) [angC state back token text rest gap p lo len cap q lo2 len2 cap2, .abs (.scp scope) [5]]) := by
  refine triple_of BB_ok (tb := ty) rfl (n0 := 7) (fun _ : Unit => _) pl220 Tryz.call220 Tryz.func220 rfl (by kernel_rfl) (Nat.le_of_ble_eq_true rfl) (by decide) rfl pre_none ?_
  rintro G hG K hK W bi bc bs bk bu bb bo bg bl bp bn be Ncond Nob Nop Nloop Nscope hN Nfin hf _ _
  cbv
  refine op_ hN (call_ (scut_spec hTab t ⟨#[58]⟩ (by omega)) hG [] rfl rfl rfl rfl rfl ?_)
  intro a b c hc
  have hc2 : cutB t wColon = (a, b, c) := cutB_eq hc
  have hcs := cutB_le t wColon
  rw [hc2] at hcs
  simp only at hcs
  clear hc
  cases c with
  | true =>
    have hM : angFull scope t false = (if !(scpSpace scope a).2 || !(joinN (scpSpace scope a).1 b).2 then (sEmp, 18) else ((joinN (scpSpace scope a).1 b).1, 0)) := by
      unfold angFull fullS; rw [hc2]; rfl
    clear hc2
    cbv
    refine cond_F hN rfl ?_
    cbv
    refine op_ hN (call_ (scp_space_spec scope a) hG [5] rfl rfl rfl rfl rfl ?_)
    intro v ok hv hsz
    have hv : scpSpace scope a = (v, ok) := hv.symm
    rw [hv] at hM
    simp only at hM
    clear hv
    cbv
    refine op_ hN (call_ (join_spec hTab v b hsz (by omega)) hG [] rfl rfl rfl rfl rfl ?_)
    intro r h hrh
    rw [← hrh] at hM
    simp only at hM
    clear hrh
    cases ok with
    | false =>
      rw [if_pos (by rfl)] at hM
      cbv
      refine cond_T hN rfl ?_
      cbv
      exact hf _ _ (fin_ [] rfl rfl (hK _ _ hM.symm))
    | true =>
      cbv
      refine cond_F hN rfl ?_
      cbv
      cases h with
      | false =>
        rw [if_pos (by rfl)] at hM
        cbv
        refine cond_T hN rfl ?_
        cbv
        exact hf _ _ (fin_ [] rfl rfl (hK _ _ hM.symm))
      | true =>
        rw [if_neg (by decide)] at hM
        cbv
        refine cond_F hN rfl ?_
        cbv
        exact hf _ _ (fin_ [] rfl rfl (hK _ _ hM.symm))
  | false =>
    have hM : angFull scope t false = (if !(scpSpace scope sEmp).2 || !(joinN (scpSpace scope sEmp).1 t).2 then (sEmp, 18) else ((joinN (scpSpace scope sEmp).1 t).1, 0)) := by
      unfold angFull fullS; rw [hc2]; rfl
    clear hc2
    cbv
    refine cond_T hN rfl ?_
    cbv
    refine op_ hN (call_ (scp_space_spec scope ⟨#[]⟩) hG [5] rfl rfl rfl rfl rfl ?_)
    intro v ok hv hsz
    have hv : scpSpace scope sEmp = (v, ok) := hv.symm
    rw [hv] at hM
    simp only at hM
    clear hv
    cbv
    refine op_ hN (call_ (join_spec hTab v t hsz (by omega)) hG [] rfl rfl rfl rfl rfl ?_)
    intro r h hrh
    rw [← hrh] at hM
    simp only at hM
    clear hrh
    cases ok with
    | false =>
      rw [if_pos (by rfl)] at hM
      cbv
      refine cond_T hN rfl ?_
      cbv
      exact hf _ _ (fin_ [] rfl rfl (hK _ _ hM.symm))
    | true =>
      cbv
      refine cond_F hN rfl ?_
      cbv
      cases h with
      | false =>
        rw [if_pos (by rfl)] at hM
        cbv
        refine cond_T hN rfl ?_
        cbv
        exact hf _ _ (fin_ [] rfl rfl (hK _ _ hM.symm))
      | true =>
        rw [if_neg (by decide)] at hM
        cbv
        refine cond_F hN rfl ?_
        cbv
        exact hf _ _ (fin_ [] rfl rfl (hK _ _ hM.symm))
theorem binds_a (hTab : GTab GOk) (s : OS Ang) : Triple (BB Ip GOk) 197 2 2 [.ptr 0 0] (ocA s) (fun K => PostN K (angBinds s)) := by
  obtain ⟨⟨state, back, chk, scope, ent, token, text, rest, gap, opn, pairs⟩, core⟩ := s
  refine triple_of BB_ok (tb := ty) rfl (n0 := 7) (fun y : {cs' // Tm (.ang ⟨state, back, chk, scope, ent, token, text, rest, gap, opn, pairs⟩ true) cs'} => csRen (sg [0, 1] 2) y.1 ++ [.abs (.core core 69 48) [1, 0]]) pl197 Tryz.call197 Tryz.func197 rfl (by kernel_rfl) (Nat.le_of_ble_eq_true rfl) (by decide) rfl (pre_open rfl rfl rfl) ?_
  rintro G hG K hK W bi bc bs bk bu bb bo bg bl bp bn be Ncond Nob Nop Nloop Nscope hN Nfin hf _ ⟨cs', hT⟩
  obtain ⟨p, lo, len, cap, xs, q, lo2, len2, cap2, ys, tl, hv1, hv2, hok, htl, -, rfl⟩ := id hT
  obtain rfl := htl rfl
  simp only at hv1 hv2 hok
  simp only [angBinds] at hK
  by_cases hsl : scope.length ≥ 900000
  · rw [if_pos hsl] at hK
    exact hK.elim
  rw [if_neg hsl] at hK
  have hlen2 := hv2.length
  have hroom2 := hv2.room
  have hfits2 := hv2.fits
  have hpl := hok.pl
  cbv
  refine op_ hN (call_ (scp_open_spec scope (by omega)) hG [5] rfl rfl rfl rfl rfl ?_)
  cbv
  refine loopN_ hN (loop_ hN ty_ok mixed (ι := Nat × List (List (ByteArray × ByteArray))) (fun y => ⟨[(0, .ptr 0 0), (16, .vec q 3 2 lo2 len2 cap2), (17, .int .i64 (Int.ofNat len2)), (18, .int .i64 (Int.ofNat y.1))],
      [angC state back token text rest gap p lo len cap q lo2 len2 cap2, .arr p true 2 9 encS xs, .arr q true 3 273 encPr ys, .abs (.chk chk) [4], .abs (.scp y.2) [5], .abs (.ent ent) [6], .abs (.core core 69 48) [1, 0]], 7⟩)
    (fun y => y.1 ≤ len2 ∧ bindsGo (pairs.drop y.1) ⟨⟨state, back, chk, y.2, ent, token, text, rest, gap, opn, pairs⟩, core⟩ = bindsGo pairs ⟨⟨state, back, chk, [] :: scope, ent, token, text, rest, gap, opn, pairs⟩, core⟩) (fun y => len2 - y.1)
    (Leads.idx (0, [] :: scope) [2, 3, 4, 5, 6] ⟨Nat.zero_le _, rfl⟩ ⟨⟨rfl, rfl, rfl, rfl, trivial⟩, rfl, Nat.le_of_ble_eq_true rfl⟩) ?_)
  rintro ⟨i, sc⟩ ⟨hi, hgo⟩ Nnext hn _
  simp only at hi hgo
  cbv
  refine cond_ hN (fun h => ?_) (fun h => ?_)
  · rw [clt hN] at h
    simp only [decide_eq_true_eq, decide_eq_false_iff_not, Int.ofNat_eq_natCast, gt_iff_lt, ge_iff_le, Bool.not_eq_true', Bool.not_eq_false', Int.not_lt, Int.not_le] at h
    have hilt : i < len2 := by have : (i : Int) < (len2 : Int) := h; omega
    have hqt : q = true := by
      cases q with
      | true => rfl
      | false => have := hv2.pr rfl; omega
    have hidx : bp lo2 (Int.ofNat i) = lo2 + i := by rw [bp_ hN]; simp
    have hil : i < pairs.length := by omega
    have hx : ys[lo2 + i]? = some (pairs[i]'hil) := by
      have h5 : ((ys.drop lo2).take len2)[i]? = some (pairs[i]'hil) := by rw [hv2.eq]; exact List.getElem?_eq_getElem hil
      rw [List.getElem?_take, if_pos hilt, List.getElem?_drop] at h5
      exact h5
    have hps := hok.ps _ (List.getElem_mem hil)
    have hdrop : pairs.drop i = (pairs[i]'hil) :: pairs.drop (i + 1) := List.drop_eq_getElem_cons hil
    generalize (pairs[i]'hil) = pr at hx hdrop hps
    obtain ⟨a, b⟩ := pr
    obtain ⟨has, hbs⟩ := hps
    simp only at has hbs
    rw [hdrop] at hgo
    simp only [bindsGo] at hgo
    have hadd : bi .add .i64 (Int.ofNat i) 1 = Int.ofNat (i + 1) := inext hN (by omega)
    cbv
    refine ob_ hN ⟨⟨by simp, by simpa using hilt⟩, hqt, trivial⟩ ?_
    cbv
    refine op_ hN (load_arr ty_ok rfl hqt rfl widePr (Nat.le_of_ble_eq_true rfl) (by rw [hidx]; omega) ?_)
    intro x2 hx2
    rw [hidx, hx] at hx2
    obtain rfl := (Option.some.inj hx2).symm
    cbv
    refine op_ hN (call_ (cut_prefix_spec a ⟨#[120, 109, 108, 110, 115, 58]⟩) hG [] rfl rfl rfl rfl rfl ?_)
    intro r h hr hh
    have hr2 : trimPre a wXmlnsC = r := (ba_of hr).symm
    have hh2 : hasPre a wXmlnsC = h := hh.symm
    rw [hr2, hh2] at hgo
    clear hr2 hh2 hr hh hdrop hx
    cases h with
    | true =>
      rw [if_neg (fun h => nomatch h.1)] at hgo
      simp only [if_true] at hgo
      cbv
      refine cond_F hN rfl ?_
      cbv
      refine cond_F hN rfl ?_
      cbv
      repeat' (first | exact True.intro | with_reducible refine dup ?_ | refine And.intro ?_ ?_)
      all_goals
        refine op_ hN (call_ (scp_bind_spec hTab sc r b hbs) hG [5] rfl rfl rfl rfl rfl ?_)
        intro e sc2 he
        rw [← he] at hgo
        simp only at hgo
        clear he
        cbv
        repeat' (first | exact True.intro | with_reducible refine dup ?_ | refine And.intro ?_ ?_)
        all_goals
          refine cond_ hN ?_ ?_ <;> intro h4
          · rw [ceq hN] at h4
            rw [if_pos (of_decide_eq_true h4)] at hgo
            cbv
            simp only [hadd]
            exact hn _ (Leads.nxt (i + 1, sc2) [2, 3, 4, 5, 6] ⟨hilt, hgo⟩ (by simp only; omega) ⟨⟨rfl, rfl, rfl, rfl, trivial⟩, rfl, Nat.le_of_ble_eq_true rfl⟩)
          · rw [ceq hN] at h4
            rw [if_neg (of_decide_eq_false h4)] at hgo
            cbv
            refine cond_ hN ?_ ?_ <;> intro h5
            · rw [ceq hN] at h5
              rw [if_pos (of_decide_eq_true h5)] at hgo
              rw [← hgo] at hK
              cbv
              exact hf _ _ (fin_close rfl (.ang ⟨state, back, chk, sc2, ent, token, text, rest, gap, opn, pairs⟩ true) [0, 1] [2, 3, 4, 5, 6] _ (angTm hv1 hv2 hok) rfl (fin_ [] rfl rfl hK))
            · rw [ceq hN] at h5
              rw [if_neg (of_decide_eq_false h5)] at hgo
              rw [← hgo] at hK
              cbv
              exact hf _ _ (fin_close rfl (.ang ⟨state, back, chk, sc2, ent, token, text, rest, gap, opn, pairs⟩ true) [0, 1] [2, 3, 4, 5, 6] _ (angTm hv1 hv2 hok) rfl (fin_ [] rfl rfl hK))
    | false =>
      simp only [Bool.false_eq_true, if_false] at hgo
      cbv
      refine cond_T hN rfl ?_
      cbv
      refine cond_ hN ?_ ?_ <;> intro h3 <;> rw [sne_eq hN] at h3
      · have h3 : a ≠ wXmlns := by
          have : ¬ a = ⟨#[120, 109, 108, 110, 115]⟩ := by simpa using h3
          exact this
        rw [if_pos ⟨trivial, h3⟩] at hgo
        cbv
        simp only [hadd]
        exact hn _ (Leads.nxt (i + 1, sc) [2, 3, 4, 5, 6] ⟨hilt, hgo⟩ (by simp only; omega) ⟨⟨rfl, rfl, rfl, rfl, trivial⟩, rfl, Nat.le_of_ble_eq_true rfl⟩)
      · have h3 : a = wXmlns := by
          have : a = ⟨#[120, 109, 108, 110, 115]⟩ := by simpa using h3
          exact this
        rw [if_neg (fun h => h.2 h3)] at hgo
        have hgo0 : (⟨#[]⟩ : ByteArray) = sEmp := rfl
        rw [← hgo0] at hgo
        cbv
        refine cond_T hN rfl ?_
        cbv
        repeat' (first | exact True.intro | with_reducible refine dup ?_ | refine And.intro ?_ ?_)
        all_goals
          refine op_ hN (call_ (scp_bind_spec hTab sc ⟨#[]⟩ b hbs) hG [5] rfl rfl rfl rfl rfl ?_)
          intro e sc2 he
          rw [← he] at hgo
          simp only at hgo
          clear he
          cbv
          repeat' (first | exact True.intro | with_reducible refine dup ?_ | refine And.intro ?_ ?_)
          all_goals
            refine cond_ hN ?_ ?_ <;> intro h4
            · rw [ceq hN] at h4
              rw [if_pos (of_decide_eq_true h4)] at hgo
              cbv
              simp only [hadd]
              exact hn _ (Leads.nxt (i + 1, sc2) [2, 3, 4, 5, 6] ⟨hilt, hgo⟩ (by simp only; omega) ⟨⟨rfl, rfl, rfl, rfl, trivial⟩, rfl, Nat.le_of_ble_eq_true rfl⟩)
            · rw [ceq hN] at h4
              rw [if_neg (of_decide_eq_false h4)] at hgo
              cbv
              refine cond_ hN ?_ ?_ <;> intro h5
              · rw [ceq hN] at h5
                rw [if_pos (of_decide_eq_true h5)] at hgo
                rw [← hgo] at hK
                cbv
                exact hf _ _ (fin_close rfl (.ang ⟨state, back, chk, sc2, ent, token, text, rest, gap, opn, pairs⟩ true) [0, 1] [2, 3, 4, 5, 6] _ (angTm hv1 hv2 hok) rfl (fin_ [] rfl rfl hK))
              · rw [ceq hN] at h5
                rw [if_neg (of_decide_eq_false h5)] at hgo
                rw [← hgo] at hK
                cbv
                exact hf _ _ (fin_close rfl (.ang ⟨state, back, chk, sc2, ent, token, text, rest, gap, opn, pairs⟩ true) [0, 1] [2, 3, 4, 5, 6] _ (angTm hv1 hv2 hok) rfl (fin_ [] rfl rfl hK))
  · rw [clt hN] at h
    simp only [decide_eq_true_eq, decide_eq_false_iff_not, Int.ofNat_eq_natCast, gt_iff_lt, ge_iff_le, Bool.not_eq_true', Bool.not_eq_false', Int.not_lt, Int.not_le] at h
    have hie : i = len2 := by have : (len2 : Int) ≤ (i : Int) := h; omega
    rw [hie, ← hlen2, List.drop_length, bindsGo] at hgo
    rw [← hgo] at hK
    cbv
    exact hf _ _ (fin_close rfl (.ang ⟨state, back, chk, sc, ent, token, text, rest, gap, opn, pairs⟩ true) [0, 1] [2, 3, 4, 5, 6] _ (angTm hv1 hv2 hok) rfl (fin_ [] rfl rfl hK))
end Hx
/- angle.machine: closes, alone, ends: the walks. -/
namespace Hx
open Go Sx Go.Proofs
set_option maxRecDepth 100000
set_option maxHeartbeats 4000000
set_option linter.unusedVariables false
set_option linter.unusedSimpArgs false
variable {GOk : Gl → Prop}
theorem vecNil {α : Type} : VecOk false 0 0 0 ([] : List α) [] := ⟨fun _ => rfl, Nat.le_refl _, Nat.le_refl _, rfl⟩
theorem last_vec {α : Type} {p : Bool} {lo len cap : Nat} {xs l : List α} {t : α} (h : VecOk p lo len cap xs l) (ht : l.getLast? = some t) : ∃ l1, len = l1 + 1 ∧ xs[lo + l1]? = some t ∧ p = true ∧ VecOk p lo l1 cap xs l.dropLast := by
  have hlen := h.length
  have hroom := h.room
  have hfits := h.fits
  have hne : l ≠ [] := by intro e; rw [e] at ht; exact nomatch ht
  have hpos : 0 < l.length := List.length_pos_iff.2 hne
  obtain ⟨l1, hl1⟩ : ∃ l1, len = l1 + 1 := ⟨len - 1, by omega⟩
  refine ⟨l1, hl1, ?_, ?_, h.pr, h.room, by omega, ?_⟩
  · have h5 : ((xs.drop lo).take len)[l1]? = some t := by
      rw [h.eq, ← ht, List.getLast?_eq_getElem?]; congr 1; omega
    rw [List.getElem?_take, if_pos (by omega), List.getElem?_drop] at h5
    exact h5
  · cases p with
    | true => rfl
    | false => have := h.pr rfl; omega
  · rw [List.dropLast_eq_take, ← h.eq, List.take_take]
    congr 1
    rw [h.eq]; omega
variable {right : Ev → Bool}
theorem closes_a (hr : RgtOk GOk right) (s : OS Ang) : Triple (BB Ip GOk) 216 2 2 [.ptr 0 0] (ocA s) (fun K => PostN K (angCloses right s)) := by
  obtain ⟨⟨state, back, chk, scope, ent, token, text, rest, gap, opn, pairs⟩, core⟩ := s
  refine triple_of BB_ok (tb := ty) rfl (n0 := 7) (fun y : {cs' // Tm (.ang ⟨state, back, chk, scope, ent, token, text, rest, gap, opn, pairs⟩ true) cs'} => csRen (sg [0, 1] 2) y.1 ++ [.abs (.core core 69 48) [1, 0]]) pl216 Tryz.call216 Tryz.func216 rfl (by kernel_rfl) (Nat.le_of_ble_eq_true rfl) (by decide) rfl (pre_open rfl rfl rfl) ?_
  rintro G hG K hK W bi bc bs bk bu bb bo bg bl bp bn be Ncond Nob Nop Nloop Nscope hN Nfin hf _ ⟨cs', hT⟩
  obtain ⟨p, lo, len, cap, xs, q, lo2, len2, cap2, ys, tl, hv1, hv2, hok, htl, -, rfl⟩ := id hT
  obtain rfl := htl rfl
  simp only at hv1 hv2 hok
  simp only [angCloses] at hK
  by_cases h0 : opn = []
  · rw [if_pos h0] at hK
    exact hK.elim
  rw [if_neg h0] at hK
  obtain ⟨t, ht⟩ : ∃ t, opn.getLast? = some t := ⟨_, List.getLast?_eq_some_getLast h0⟩
  obtain ⟨l1, hl1, -, -, hv3⟩ := last_vec hv1 ht
  have hlen := hv1.length
  have hfits := hv1.fits
  have hol := hok.ol
  have hok3 : AngOk token text rest opn.dropLast pairs := ⟨hok.tok, hok.txt, hok.rst, by rw [List.length_dropLast]; omega, hok.pl, fun x hx => hok.os x (by rw [List.dropLast_eq_take] at hx; exact List.mem_of_mem_take hx), hok.ps⟩
  have hsub : bi .sub .i64 (Int.ofNat len) 1 = Int.ofNat l1 := by rw [isub hN (by simp; omega) (by simp; omega)]; simp; omega
  have hob : obsP [.le3 0 (bi .sub .i64 (Int.ofNat len) 1) (Int.ofNat cap)] := ⟨⟨by simp, by rw [hsub]; simp, by rw [hsub]; simp; omega⟩, trivial⟩
  have hb1 : bo lo 0 cap = lo := by rw [bo_ hN]; simp [sloff]
  have hb2 : bg (bi .sub .i64 (Int.ofNat len) 1) 0 = l1 := by rw [hsub, bg_ hN]; simp
  have hb3 : bl cap 0 = cap := by rw [bl_ hN]; simp
  have hl2 : opn.length = l1 + 1 := by omega
  clear hsub
  cbv
  refine op_ hN (call_ (scp_close_spec scope) hG [5] rfl rfl rfl rfl rfl ?_)
  intro e0
  have hst : scope.tail = scope.tail := rfl
  obtain ⟨sct, hsct⟩ : ∃ z, scope.tail = z := ⟨_, rfl⟩
  rw [hsct] at hK ⊢
  obtain ⟨op2, hop2⟩ : ∃ z, opn.dropLast = z := ⟨_, rfl⟩
  rw [hop2] at hK hv3 hok3
  cbv
  repeat' (first | exact True.intro | with_reducible refine dup ?_ | refine And.intro ?_ ?_ | (refine ob_ hN hob ?_; try cbv))
  all_goals
    simp only [hb1, hb2, hb3]
    refine cond_ hN ?_ ?_ <;> intro h1 <;> rw [ceq hN] at h1
    · have h1 : l1 = 0 := by have : Int.ofNat l1 = 0 := of_decide_eq_true h1; simpa using this
      rw [if_pos (by omega)] at hK
      cbv
      refine op_ hN (op_close rfl (.ang ⟨16, back, chk, sct, ent, token, text, rest, gap, op2, pairs⟩ true) [0, 1] [2, 3, 4, 5, 6] _ (angTm hv3 hv2 hok3) rfl rfl ?_)
      refine call_ (event_a hr ⟨⟨16, back, chk, sct, ent, token, text, rest, gap, op2, pairs⟩, core⟩ (ev0 12) (okE0 12 (by decide) (by decide))) hG [0, 1] rfl rfl rfl rfl rfl ?_
      have hK2 := hK
      clear hK
      change PostN _ (angEvent right (ev0 12) ⟨⟨16, back, chk, sct, ent, token, text, rest, gap, op2, pairs⟩, core⟩) at hK2
      change PostN _ (angEvent right (ev0 12) ⟨⟨16, back, chk, sct, ent, token, text, rest, gap, op2, pairs⟩, core⟩)
      generalize angEvent right (ev0 12) ⟨⟨16, back, chk, sct, ent, token, text, rest, gap, op2, pairs⟩, core⟩ = y at hK2 ⊢
      cases y with
      | none => exact hK2.elim
      | some y =>
        obtain ⟨e, s2⟩ := y
        cbv
        exact hf _ _ (fin_ [] rfl rfl hK2)
    · have h1 : ¬ l1 = 0 := by have : ¬ Int.ofNat l1 = 0 := of_decide_eq_false h1; simpa using this
      rw [if_neg (by omega)] at hK
      cbv
      refine op_ hN (op_close rfl (.ang ⟨12, back, chk, sct, ent, token, text, rest, gap, op2, pairs⟩ true) [0, 1] [2, 3, 4, 5, 6] _ (angTm hv3 hv2 hok3) rfl rfl ?_)
      refine call_ (event_a hr ⟨⟨12, back, chk, sct, ent, token, text, rest, gap, op2, pairs⟩, core⟩ (ev0 12) (okE0 12 (by decide) (by decide))) hG [0, 1] rfl rfl rfl rfl rfl ?_
      have hK2 := hK
      clear hK
      change PostN _ (angEvent right (ev0 12) ⟨⟨12, back, chk, sct, ent, token, text, rest, gap, op2, pairs⟩, core⟩) at hK2
      change PostN _ (angEvent right (ev0 12) ⟨⟨12, back, chk, sct, ent, token, text, rest, gap, op2, pairs⟩, core⟩)
      generalize angEvent right (ev0 12) ⟨⟨12, back, chk, sct, ent, token, text, rest, gap, op2, pairs⟩, core⟩ = y at hK2 ⊢
      cases y with
      | none => exact hK2.elim
      | some y =>
        obtain ⟨e, s2⟩ := y
        cbv
        exact hf _ _ (fin_ [] rfl rfl hK2)
theorem alone_a (hr : RgtOk GOk right) (s : OS Ang) (x : UInt8) (b : Int) (hb : bOf x = b) : Triple (BB Ip GOk) 205 2 2 [.ptr 0 0, .int .u8 b] (ocA s) (fun K => PostN K (angAlone right x s)) := by
  obtain ⟨⟨state, back, chk, scope, ent, token, text, rest, gap, opn, pairs⟩, core⟩ := s
  refine triple_of BB_ok (tb := ty) rfl (n0 := 7) (fun y : {cs' // Tm (.ang ⟨state, back, chk, scope, ent, token, text, rest, gap, opn, pairs⟩ true) cs'} => csRen (sg [0, 1] 2) y.1 ++ [.abs (.core core 69 48) [1, 0]]) pl205 Tryz.call205 Tryz.func205 rfl (by kernel_rfl) (Nat.le_of_ble_eq_true rfl) (by decide) rfl (pre_open rfl rfl rfl) ?_
  rintro G hG K hK W bi bc bs bk bu bb bo bg bl bp bn be Ncond Nob Nop Nloop Nscope hN Nfin hf _ ⟨cs', hT⟩
  obtain ⟨p, lo, len, cap, xs, q, lo2, len2, cap2, ys, tl, hv1, hv2, hok, htl, -, rfl⟩ := id hT
  obtain rfl := htl rfl
  simp only at hv1 hv2 hok
  simp only [angAlone, hb] at hK
  cbv
  refine cond_ hN ?_ ?_ <;> intro h1 <;> rw [cne hN] at h1
  · have h1 : b ≠ 62 := by simpa using h1
    rw [if_pos h1] at hK
    cbv
    exact hf _ _ (fin_close rfl (.ang ⟨state, back, chk, scope, ent, token, text, rest, gap, opn, pairs⟩ true) [0, 1] [2, 3, 4, 5, 6] _ (angTm hv1 hv2 hok) rfl (fin_ [] rfl rfl hK))
  · have h1 : b = 62 := by simpa using h1
    rw [if_neg (fun h => h h1)] at hK
    cbv
    refine op_ hN (op_close rfl (.ang ⟨state, back, chk, scope, ent, token, text, rest, gap, opn, pairs⟩ true) [0, 1] [2, 3, 4, 5, 6] _ (angTm hv1 hv2 hok) rfl rfl ?_)
    refine call_ (closes_a hr ⟨⟨state, back, chk, scope, ent, token, text, rest, gap, opn, pairs⟩, core⟩) hG [0, 1] rfl rfl rfl rfl rfl ?_
    have hK2 := hK
    clear hK
    change PostN _ (angCloses right ⟨⟨state, back, chk, scope, ent, token, text, rest, gap, opn, pairs⟩, core⟩) at hK2
    change PostN _ (angCloses right ⟨⟨state, back, chk, scope, ent, token, text, rest, gap, opn, pairs⟩, core⟩)
    generalize angCloses right ⟨⟨state, back, chk, scope, ent, token, text, rest, gap, opn, pairs⟩, core⟩ = y at hK2 ⊢
    cases y with
    | none => exact hK2.elim
    | some y =>
      obtain ⟨e, s2⟩ := y
      cbv
      exact hf _ _ (fin_ [] rfl rfl hK2)
theorem ends_a (hr : RgtOk GOk right) (s : OS Ang) (x : UInt8) (b : Int) (hb : bOf x = b) : Triple (BB Ip GOk) 206 2 2 [.ptr 0 0, .int .u8 b] (ocA s) (fun K => PostN K (angEnds right x s)) := by
  obtain ⟨⟨state, back, chk, scope, ent, token, text, rest, gap, opn, pairs⟩, core⟩ := s
  refine triple_of BB_ok (tb := ty) rfl (n0 := 7) (fun y : {cs' // Tm (.ang ⟨state, back, chk, scope, ent, token, text, rest, gap, opn, pairs⟩ true) cs'} => csRen (sg [0, 1] 2) y.1 ++ [.abs (.core core 69 48) [1, 0]]) pl206 Tryz.call206 Tryz.func206 rfl (by kernel_rfl) (Nat.le_of_ble_eq_true rfl) (by decide) rfl (pre_open rfl rfl rfl) ?_
  rintro G hG K hK W bi bc bs bk bu bb bo bg bl bp bn be Ncond Nob Nop Nloop Nscope hN Nfin hf _ ⟨cs', hT⟩
  obtain ⟨p, lo, len, cap, xs, q, lo2, len2, cap2, ys, tl, hv1, hv2, hok, htl, -, rfl⟩ := id hT
  obtain rfl := htl rfl
  simp only at hv1 hv2 hok
  simp only [angEnds, hb] at hK
  cbv
  refine op_ hN (call_ (blank_a b) hG [] rfl rfl rfl rfl rfl ?_)
  intro c hc
  rw [← hc] at hK
  clear hc
  cases c with
  | true =>
    rw [if_pos rfl] at hK
    cbv
    refine cond_T hN rfl ?_
    cbv
    exact hf _ _ (fin_close rfl (.ang ⟨state, back, chk, scope, ent, token, text, rest, gap, opn, pairs⟩ true) [0, 1] [2, 3, 4, 5, 6] _ (angTm hv1 hv2 hok) rfl (fin_ [] rfl rfl hK))
  | false =>
    rw [if_neg (by decide)] at hK
    cbv
    refine cond_F hN rfl ?_
    cbv
    refine cond_ hN ?_ ?_ <;> intro h1 <;> rw [cne hN] at h1
    · have h1 : b ≠ 62 := by simpa using h1
      rw [if_pos h1] at hK
      cbv
      exact hf _ _ (fin_close rfl (.ang ⟨state, back, chk, scope, ent, token, text, rest, gap, opn, pairs⟩ true) [0, 1] [2, 3, 4, 5, 6] _ (angTm hv1 hv2 hok) rfl (fin_ [] rfl rfl hK))
    · have h1 : b = 62 := by simpa using h1
      rw [if_neg (fun h => h h1)] at hK
      cases ht : opn.getLast? with
      | none =>
        rw [ht] at hK
        exact hK.elim
      | some t =>
        rw [ht] at hK
        simp only at hK
        obtain ⟨l1, hl1, hx, hpt, -⟩ := last_vec hv1 ht
        have hlen := hv1.length
        have hfits := hv1.fits
        have hroom := hv1.room
        have hol := hok.ol
        have hsub : bi .sub .i64 (Int.ofNat len) 1 = Int.ofNat l1 := by rw [isub hN (by simp; omega) (by simp; omega)]; simp; omega
        have hidx : bp lo (bi .sub .i64 (Int.ofNat len) 1) = lo + l1 := by rw [hsub, bp_ hN]; simp
        have hob : obsP [.inb (bi .sub .i64 (Int.ofNat len) 1) (Int.ofNat len), .tru p] := ⟨⟨by rw [hsub]; simp, by rw [hsub]; simp; omega⟩, hpt, trivial⟩
        have hil : bp lo (bi .sub .i64 (Int.ofNat len) 1) < xs.length := by rw [hidx]; omega
        cbv
        repeat' (first | exact True.intro | with_reducible refine dup ?_ | refine And.intro ?_ ?_)
        all_goals
          refine ob_ hN hob ?_
          cbv
          repeat' (first | exact True.intro | with_reducible refine dup ?_ | refine And.intro ?_ ?_)
          all_goals
            refine op_ hN (load_arr ty_ok rfl hpt rfl wideS (Nat.le_of_ble_eq_true rfl) hil ?_)
            intro x2 hx2
            rw [hidx, hx] at hx2
            have e := Option.some.inj hx2
            subst e
            cbv
            repeat' (first | exact True.intro | with_reducible refine dup ?_ | refine And.intro ?_ ?_)
            all_goals
              refine cond_ hN ?_ ?_ <;> intro h2 <;> rw [sne_eq hN] at h2
              · have h2 : token ≠ t := by simpa using h2
                rw [if_pos h2] at hK
                cbv
                exact hf _ _ (fin_close rfl (.ang ⟨state, back, chk, scope, ent, token, text, rest, gap, opn, pairs⟩ true) [0, 1] [2, 3, 4, 5, 6] _ (angTm hv1 hv2 hok) rfl (fin_ [] rfl rfl hK))
              · have h2 : token = t := by simpa using h2
                rw [if_neg (fun h => h h2)] at hK
                cbv
                refine op_ hN (op_close rfl (.ang ⟨state, back, chk, scope, ent, token, text, rest, gap, opn, pairs⟩ true) [0, 1] [2, 3, 4, 5, 6] _ (angTm hv1 hv2 hok) rfl rfl ?_)
                refine call_ (closes_a hr ⟨⟨state, back, chk, scope, ent, token, text, rest, gap, opn, pairs⟩, core⟩) hG [0, 1] rfl rfl rfl rfl rfl ?_
                have hK2 := hK
                clear hK
                change PostN _ (angCloses right ⟨⟨state, back, chk, scope, ent, token, text, rest, gap, opn, pairs⟩, core⟩) at hK2
                change PostN _ (angCloses right ⟨⟨state, back, chk, scope, ent, token, text, rest, gap, opn, pairs⟩, core⟩)
                generalize angCloses right ⟨⟨state, back, chk, scope, ent, token, text, rest, gap, opn, pairs⟩, core⟩ = y at hK2 ⊢
                cases y with
                | none => exact hK2.elim
                | some y =>
                  obtain ⟨e, s2⟩ := y
                  cbv
                  exact hf _ _ (fin_ [] rfl rfl hK2)
end Hx
