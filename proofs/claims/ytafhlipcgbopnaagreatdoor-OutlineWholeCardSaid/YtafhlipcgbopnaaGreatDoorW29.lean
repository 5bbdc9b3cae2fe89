/-
  Part of a proof.
-/
import Derived.Test.YtafhlipcgbopnaaGreatDoorW24
import Derived.Test.YtafhlipcgbopnaaGreatDoorW20
import Derived.Test.YtafhlipcgbopnaaGreatDoorW28
import Derived.Test.YtafhlipcgbopnaaGreatDoorW23
import Derived.Test.YtafhlipcgbopnaaGreatDoorW25
import Derived.Test.YtafhlipcgbopnaaGreatDoorW16
set_option linter.unusedVariables false
set_option linter.unusedSimpArgs false
/- events.Whole. -/
namespace Hx
open Go Sx Go.Proofs
set_option maxRecDepth 100000
set_option maxHeartbeats 4000000
set_option linter.unusedVariables false
set_option linter.unusedSimpArgs false
variable {GOk : Gl → Prop}
variable {right : Ev → Bool}
theorem whole_spec (hr : RgtOk GOk right) (p : Bool) (lo len cap : Nat) (xs l : List Ev) (hv : VecOk p lo len cap xs l) (hok : ∀ y ∈ l, okE y) (hlen : len ≤ 4294967296) :
    Triple (BB Ip GOk) 6 1 1 [.vec p 0 3 lo len cap] [.arr p true 0 44 encE xs] (fun K => ∀ i e, (i, e) = wholeGo right chk0 l 0 → K (.ret (.tuple [.int .i64 (Int.ofNat i), .int .i64 e])) [.arr p true 0 44 encE xs]) := by
  refine triple_of BB_ok (tb := ty) rfl (n0 := 1) (fun _ : Unit => _) pl6 Tryz.call6 Tryz.func6 rfl (by kernel_rfl) (Nat.le_of_ble_eq_true rfl) (by decide) rfl pre_none ?_
  rintro G hG K hK W bi bc bs bk bu bb bo bg bl bp bn be Ncond Nob Nop Nloop Nscope hN Nfin hf _ _
  have hvl := hv.length
  have hroom := hv.room
  have hfits := hv.fits
  cbv
  refine op_ hN (call_ (ev_new_spec) hG [] rfl rfl rfl rfl rfl ?_)
  cbv
  refine loopN_ hN (loop_ hN ty_ok mixed (ι := Nat × Chk) (fun y => ⟨[(0, .vec p 0 3 lo len cap), (4, .ptr 1 0), (9, .vec p 0 3 lo len cap), (10, .int .i64 (Int.ofNat len)), (11, .int .i64 (Int.ofNat y.1))],
      [.abs (.chk y.2) [1], .arr p true 0 44 encE xs], 2⟩)
    (fun y => y.1 ≤ len ∧ wholeGo right y.2 (l.drop y.1) y.1 = wholeGo right chk0 l 0) (fun y => len - y.1) ?_ ?_)
  · exact Leads.idx (0, chk0) [1] ⟨Nat.zero_le _, rfl⟩ ⟨⟨rfl, rfl, rfl, rfl, rfl, trivial⟩, rfl, Nat.le_of_ble_eq_true rfl⟩
  rintro ⟨i, c⟩ ⟨hi, hgo⟩ Nnext hn _
  simp only at hi hgo
  cbv
  refine cond_ hN (fun h => ?_) (fun h => ?_)
  · rw [clt hN] at h
    simp only [decide_eq_true_eq, decide_eq_false_iff_not, Int.ofNat_eq_natCast, gt_iff_lt, ge_iff_le, Bool.not_eq_true', Bool.not_eq_false', Int.not_lt, Int.not_le] at h
    have hilt : i < len := by have : (i : Int) < (len : Int) := h; omega
    have hpt : p = true := by
      cases p with
      | true => rfl
      | false => have := hv.pr rfl; omega
    have hidx : bp lo (Int.ofNat i) = lo + i := by rw [bp_ hN]; simp
    have hil : i < l.length := by omega
    have hxi : xs[lo + i]? = some (l[i]'hil) := by
      have h5 : ((xs.drop lo).take len)[i]? = some (l[i]'hil) := by rw [hv.eq]; exact List.getElem?_eq_getElem hil
      rw [List.getElem?_take, if_pos hilt, List.getElem?_drop] at h5
      exact h5
    have hoky := hok _ (List.getElem_mem hil)
    have hdrop : l.drop i = (l[i]'hil) :: l.drop (i + 1) := List.drop_eq_getElem_cons hil
    generalize (l[i]'hil) = y at hxi hdrop hoky
    rw [hdrop, wholeGo] at hgo
    obtain ⟨kind1, text1, val1⟩ := y
    have hsub : bi .add .i64 (Int.ofNat i) 1 = Int.ofNat (i + 1) := inext hN (by omega)
    cbv
    refine ob_ hN ⟨⟨by simp, by simpa using hilt⟩, hpt, trivial⟩ ?_
    cbv
    refine op_ hN (load_arr ty_ok rfl hpt rfl wideE (Nat.le_of_ble_eq_true rfl) (by rw [hidx]; omega) ?_)
    intro x2 hx2
    rw [hidx, hxi] at hx2
    obtain rfl := (Option.some.inj hx2).symm
    cbv
    refine op_ hN (call_ (step_rgt hr c ⟨kind1, text1, val1⟩ hoky) hG [1] rfl rfl rfl rfl rfl ?_)
    intro e c' he
    rw [← he] at hgo
    simp only at hgo
    cbv
    refine cond_ hN (fun h2 => ?_) (fun h2 => ?_)
    · rw [cne hN] at h2
      have h2' : e ≠ 0 := by simpa using h2
      rw [if_pos h2'] at hgo
      cbv
      exact hf _ _ (fin_ [] rfl rfl (hK i e hgo))
    · rw [cne hN] at h2
      have h2' : ¬ e ≠ 0 := by simpa using h2
      rw [if_neg h2'] at hgo
      cbv
      simp only [hsub]
      exact hn _ (Leads.nxt (i + 1, c') [1] ⟨hilt, hgo⟩ (by simp only; omega) ⟨⟨rfl, rfl, rfl, rfl, rfl, trivial⟩, rfl, Nat.le_of_ble_eq_true rfl⟩)
  · rw [clt hN] at h
    simp only [decide_eq_true_eq, decide_eq_false_iff_not, Int.ofNat_eq_natCast, gt_iff_lt, ge_iff_le, Bool.not_eq_true', Bool.not_eq_false', Int.not_lt, Int.not_le] at h
    have hie : i = len := by have : (len : Int) ≤ (i : Int) := h; omega
    have hdrop : l.drop i = [] := List.drop_eq_nil_of_le (by omega)
    rw [hdrop, hie, wholeGo] at hgo
    cbv
    refine op_ hN (call_ (done_spec c) hG [1] rfl rfl rfl rfl rfl ?_)
    intro b hb
    have hb2 : chkDone c = b := hb.symm
    rw [hb2] at hgo
    cases b with
    | true =>
      rw [if_pos rfl] at hgo
      cbv
      refine cond_F hN rfl ?_
      cbv
      exact hf _ _ (fin_ [] rfl rfl (hK len 0 hgo))
    | false =>
      rw [if_neg (by simp)] at hgo
      cbv
      refine cond_T hN rfl ?_
      cbv
      exact hf _ _ (fin_ [] rfl rfl (hK len 19 hgo))
end Hx
/- The model's plain law: what a line tells. -/
namespace Hx
open Go Sx Go.Proofs
set_option maxRecDepth 100000
set_option maxHeartbeats 4000000
set_option linter.unusedVariables false
set_option linter.unusedSimpArgs false
variable {GOk : Gl → Prop}
section
variable {right : Ev → Bool} {numRead : ByteArray → ByteArray × Int}
theorem RP.cast {α : Type} {s s0 : OS} {hi : Nat} {Q : α → OS → Prop} {y : Res α × OS} (h : RP right s hi Q y) (hs : Fr s0 s) : RP right s0 hi Q y := by
  obtain ⟨r, s1⟩ := y
  cases r with
  | ok a => exact ⟨h.1, hs.trans h.2.1, h.2.2⟩
  | err e p => exact ⟨h.1, hs.trans h.2.1, h.2.2⟩
  | ovf => exact h.elim
theorem anchor_law {t : ByteArray} {a : Nat} {s : OS} (ha : a < t.size) (hg : Good right s) : RP right s t.size (fun k s' => a ≤ k ∧ k ≤ t.size ∧ pot s' = pot s ∧ s'.m.opn = s.m.opn) (anchorM t a s) := by
  have hp := nameGo_le t (a + 1) true (a + 1) ha
  have he := nameGo_e t (a + 1) true (a + 1)
  unfold anchorM
  generalize nameGo t (a + 1) true (a + 1) = z at hp he ⊢
  obtain ⟨k, e0⟩ := z
  simp only at hp he ⊢
  split
  · exact RP.fail hg (by omega) (nat_pos hp.1).1 (nat_pos hp.1).2
  · have hl := ancOpen_law s.m.anc (subs t (Int.ofNat (a + 1)) (Int.ofNat k)) hg.kp
    generalize ancOpen s.m.anc (subs t (Int.ofNat (a + 1)) (Int.ofNat k)) = y at hl ⊢
    obtain ⟨e, anc'⟩ := y
    simp only at hl ⊢
    have hpp := pred_pos (k := k) (S := t.size) (by omega) hp.1
    split
    · exact ⟨⟨⟨_, hg.st⟩, hg.ok⟩, Fr.refl _, by omega, hpp.1, hpp.2⟩
    · have hg1 : Good right { s with m := { s.m with anc := anc' } } := ⟨hg.st, hg.ok, hl.2.2, by simp only; rw [hl.2.1]; exact hg.td⟩
      have hpot : pot { s with m := { s.m with anc := anc' } } = pot s := by simp only [pot]; rw [hl.2.1]
      refine RP.cast (s := { s with m := { s.m with anc := anc' } }) ?_ (Fr.refl _)
      split
      · refine RP.bind (must_law hg1 hp.1) fun k2 s1 g1 f1 q1 => ?_
        obtain ⟨rfl, hk, rfl⟩ := q1
        have hb3 := blanks_ge t (k + 1)
        have hb4 := blanks_le t (k + 1) hk
        exact RP.ret g1 ⟨by omega, hb4, hpot, rfl⟩
      · exact RP.ret hg1 ⟨by omega, hp.1, hpot, rfl⟩
/-- what a part tells -/
def PQ (t : ByteArray) (a : Nat) (s : OS) (c : Nat) (s' : OS) : Prop := pot s' ≤ pot s + 2 * (t.size - a) + c ∧ s'.m.opn = s.m.opn
theorem waits_law {a : Nat} {s : OS} {hi : Nat} (hg : Good right s) : RP right s hi (fun _ s' => pot s' = pot s ∧ s'.m.opn = s.m.opn) (waitsM a s) :=
  ⟨⟨hg.st, hg.ok, hg.kp, hg.td⟩, Fr.refl _, rfl, rfl⟩
theorem part_law (hn : NumLaw numRead) {t : ByteArray} {a : Nat} {must : Bool} {s : OS} (ht : t.size < 1000000) (ha : a ≤ t.size) (hg : Good right s) (hq : pot s + 2 * (t.size - a) + 10 ≤ 4294967296) : RP right s t.size (fun _ => PQ t a s 1) (partM right numRead t a must s) := by
  have hb1 := blanks_ge t a
  have hb2 := blanks_le t a ha
  unfold partM
  refine RP.bind (Q1 := fun k s' => a ≤ k ∧ k ≤ t.size ∧ pot s' = pot s ∧ s'.m.opn = s.m.opn) ?_ fun a1 s1 g1 f1 q1 => ?_
  · split
    · rename_i hi; exact (anchor_law (isB_lt hi) hg).mono fun k s' q => ⟨by omega, q.2⟩
    · exact RP.ret hg ⟨hb1, hb2, rfl, rfl⟩
  · obtain ⟨qa, qb, qc, qd⟩ := q1
    unfold partT
    split
    · refine RP.bind (flowA_law hn ht qb g1 (by omega)) fun a2 s2 g2 f2 q2 => ?_
      obtain ⟨ra, rb, rc, rd⟩ := q2
      have hb3 := blanks_le t a2 rb
      split
      · exact RP.fail g2 (by simp) (nat_pos hb3).1 (nat_pos hb3).2
      · exact RP.ret g2 ⟨by omega, by rw [rd, qd]⟩
    · split
      · exact RP.fail g1 (by simp) (nat_pos qb).1 (nat_pos qb).2
      · exact (waits_law g1).mono fun _ s' q => ⟨by omega, by rw [q.2, qd]⟩
theorem behind_law (hn : NumLaw numRead) {t : ByteArray} {a : Nat} {s : OS} (ht : t.size < 1000000) (ha : a ≤ t.size) (hg : Good right s) (hq : pot s + 2 * (t.size - a) + 10 ≤ 4294967296) : RP right s t.size (fun _ => PQ t a s 1) (behindM right numRead t a s) := by
  unfold behindM
  split
  · refine RP.bind (must_law hg ha) fun k s1 g1 f1 q1 => ?_
    obtain ⟨rfl, hk, rfl⟩ := q1
    exact (part_law hn ht hk g1 (by omega)).mono fun _ s' q => ⟨by have := q.1; omega, q.2⟩
  · exact (waits_law hg).mono fun _ s' q => ⟨by omega, q.2⟩
theorem item_law (hn : NumLaw numRead) {t : ByteArray} {a : Nat} {s : OS} (ht : t.size < 1000000) (ha : a ≤ t.size) (hg : Good right s) (hq : pot s + 2 * (t.size - a) + 10 ≤ 4294967296) : RP right s t.size (fun _ => PQ t a s 2) (itemM right numRead t a s) := by
  unfold itemM
  refine RP.bind (must_law hg ha) fun k s1 g1 f1 q1 => ?_
  obtain ⟨rfl, hk, rfl⟩ := q1
  exact (behind_law hn ht hk g1 (by omega)).mono fun _ s' q => ⟨by have := q.1; omega, q.2⟩
theorem key_law {t : ByteArray} {a : Nat} {s : OS} (ht : t.size < 1000000) (ha : a ≤ t.size) (hg : Good right s) : RP right s t.size (fun kl s' => s' = s ∧ a < kl.1 ∧ kl.1 ≤ t.size ∧ kl.2.size < 1099511627776) (keyM t a s) := by
  unfold keyM
  split
  · have h1 := quotR_pos t a ha
    have h2 := quotR_e t a
    have h3 := quotR_gt t a
    have h4 := quotR_le t a
    split
    · rename_i h; exact ⟨hg, Fr.refl _, rfl, h3 h, h1, by rw [bytesOf_size]; omega⟩
    · exact RP.fail hg (by omega) (nat_pos h1).1 (nat_pos h1).2
  · have h1 := nameGo_le t a true a ha
    have h2 := nameGo_e t a true a
    have h3 := nameGo_gt t a true a (Nat.le_refl _)
    split
    · rename_i h; exact ⟨hg, Fr.refl _, rfl, h3 h, h1.1, by have := subs_size t (Int.ofNat a) (Int.ofNat (nameGo t a true a).1); simp only; omega⟩
    · exact RP.fail hg (by omega) (nat_pos h1.1).1 (nat_pos h1.1).2
theorem field_law (hn : NumLaw numRead) {t : ByteArray} {a : Nat} {s : OS} (ht : t.size < 1000000) (ha : a ≤ t.size) (hg : Good right s) (hq : pot s + 2 * (t.size - a) + 10 ≤ 4294967296) : RP right s t.size (fun _ => PQ t a s 2) (fieldM right numRead t a s) := by
  unfold fieldM
  refine RP.bind (key_law ht ha hg) fun kl s1 g1 f1 q1 => ?_
  obtain ⟨rfl, h1, h2, h3⟩ := q1
  have hpp := pred_pos (k := kl.1) (S := t.size) (by omega) h2
  refine RP.bind (says_law g1 (okE8 _ h3) (by omega) hpp.1 hpp.2) fun _ s2 g2 f2 p2 => ?_
  have hb1 := blanks_ge t kl.1
  have hb2 := blanks_le t kl.1 h2
  refine RP.bind (must_law g2 hb2) fun k s3 g3 f3 p3 => ?_
  obtain ⟨rfl, hk, rfl⟩ := p3
  have := p2.1
  exact (behind_law hn ht hk g3 (by omega)).mono fun _ s' q => ⟨by have := q.1; omega, by rw [q.2, p2.2.1]⟩
theorem opensT_law {a stands hi : Nat} {kd : Int} {s : OS} (h10 : kd ≠ 10) (h11 : kd ≠ 11) (ha : a ≤ hi) (hg : Good right s) (hq : pot s + 10 ≤ 4294967296) (ho : s.m.opn.length < 999) : RP right s hi (fun _ s' => pot s' = pot s + 2 ∧ s'.m.opn.length = s.m.opn.length + 1) (opensT right kd a stands s) := by
  have hsl := says_law (hi := hi) hg (okE0' h10 h11) (by omega) (nat_pos ha).1 (nat_pos ha).2
  unfold opensT
  refine RP.bind hsl fun _ s1 g1 f1 q1 => ?_
  have h1 := q1.2.1
  have h2 := q1.1
  clear hsl q1
  by_cases hb : s1.m.opn.length ≥ 1000
  · exact absurd hb (by rw [h1]; omega)
  · rw [if_neg hb]
    refine ⟨⟨g1.st, g1.ok, g1.kp, g1.td⟩, Fr.refl _, ?_, ?_⟩
    · simp only [pot, List.length_cons] at h2 ⊢; omega
    · simp only [List.length_cons, h1]
theorem opens_law {t : ByteArray} {a stands : Nat} {s : OS} (ha : a ≤ t.size) (hg : Good right s) (hq : pot s + 10 ≤ 4294967296) (ho : s.m.opn.length < 999) : RP right s t.size (fun _ s' => pot s' = pot s + 2 ∧ s'.m.opn.length = s.m.opn.length + 1) (opensM right t a stands s) := by
  cases hi : isItemB t a with
  | true =>
    rw [opensM_item hi, if_neg (show ¬ s.m.opn.length ≥ 1000 by omega)]
    exact opensT_law (by simp) (by simp) ha hg hq ho
  | false =>
    by_cases h1 : bt t (Int.ofNat a) ≠ 34 ∧ localOk (Utf8.encode (bt t (Int.ofNat a))) = false
    · rw [opensM_bad hi stands s h1.1 h1.2]
      exact RP.fail hg (by simp) (nat_pos ha).1 (nat_pos ha).2
    · have h2 : bt t (Int.ofNat a) = 34 ∨ localOk (Utf8.encode (bt t (Int.ofNat a))) = true := by
        by_cases h3 : bt t (Int.ofNat a) = 34
        · exact .inl h3
        · right
          cases h4 : localOk (Utf8.encode (bt t (Int.ofNat a))) with
          | true => rfl
          | false => exact absurd ⟨h3, h4⟩ h1
      rw [opensM_ok hi stands s h2, if_neg (show ¬ s.m.opn.length ≥ 1000 by omega)]
      exact opensT_law (by simp) (by simp) ha hg hq ho
theorem isField_law {t : ByteArray} {a : Nat} {s : OS} (ht : t.size < 1000000) (ha : a ≤ t.size) (hg : Good right s) : RP right s t.size (fun _ s' => s' = s) (isFieldM t a s) := by
  unfold isFieldM
  by_cases h34 : isB t a 34 = true
  · rw [if_pos h34]
    refine RP.bind (key_law ht ha hg) fun kl s1 g1 f1 q1 => ?_
    obtain ⟨rfl, h1, h2, h3⟩ := q1
    by_cases h : isB t (blanks t kl.1) 58 = true
    · rw [if_pos h]; exact RP.ret g1 rfl
    · rw [if_neg h]; exact RP.ret g1 rfl
  · rw [if_neg h34]
    generalize localOk (Utf8.encode (bt t (Int.ofNat a))) = b
    cases b with
    | true =>
      rw [if_pos rfl]
      refine RP.bind (key_law ht ha hg) fun kl s1 g1 f1 q1 => ?_
      obtain ⟨rfl, h1, h2, h3⟩ := q1
      by_cases h : isB t (blanks t kl.1) 58 = true
      · rw [if_pos h]; exact RP.ret g1 rfl
      · rw [if_neg h]
        by_cases hw : kl.2 = wNull ∨ kl.2 = wTrue ∨ kl.2 = wFalse
        · rw [if_pos hw]; exact RP.ret g1 rfl
        · rw [if_neg hw]; exact RP.fail g1 (by simp) (nat_pos h2).1 (nat_pos h2).2
    | false =>
      rw [if_neg (by simp)]; exact RP.ret hg rfl
theorem first_law (hn : NumLaw numRead) {t : ByteArray} {a : Nat} {s : OS} (ht : t.size < 1000000) (ha : a ≤ t.size) (hg : Good right s) (hq : pot s + 2 * (t.size - a) + 20 ≤ 4294967296) (ho : s.m.opn.length < 999) : RP right s t.size (fun _ s' => pot s' ≤ pot s + 2 * (t.size - a) + 4 ∧ s'.m.opn.length ≤ s.m.opn.length + 1) (firstM right numRead t a s) := by
  unfold firstM
  split
  · refine RP.bind (opens_law ha hg (by omega) ho) fun _ s1 g1 f1 q1 => ?_
    have := q1.1
    exact (item_law hn ht ha g1 (by omega)).mono fun _ s' q => ⟨by have := q.1; omega, by rw [q.2]; omega⟩
  · refine RP.bind (isField_law ht ha hg) fun b s0 g0 f0 q0 => ?_
    subst q0
    split
    · refine RP.bind (opens_law ha g0 (by omega) ho) fun _ s1 g1 f1 q1 => ?_
      have := q1.1
      exact (field_law hn ht ha g1 (by omega)).mono fun _ s' q => ⟨by have := q.1; omega, by rw [q.2]; omega⟩
    · exact (part_law hn ht ha g0 (by omega)).mono fun _ s' q => ⟨by have := q.1; omega, by rw [q.2]; omega⟩
theorem nothing_law {p : Int} {hi : Nat} {s : OS} (hg : Good right s) (hq : pot s + 10 ≤ 4294967296) (h0 : 0 ≤ p) (h1 : p ≤ (hi : Int)) : RP right s hi (fun _ s' => pot s' ≤ pot s + 1 ∧ s'.m.opn = s.m.opn) (nothingM right p s) := by
  unfold nothingM
  split
  · refine RP.cast (s := { s with m := { s.m with waits := false } }) ?_ (Fr.refl _)
    have hg1 : Good right { s with m := { s.m with waits := false } } := ⟨hg.st, hg.ok, hg.kp, hg.td⟩
    have hp : pot { s with m := { s.m with waits := false } } = pot s := rfl
    exact (says_law hg1 (okE0' (by simp) (by simp)) (by omega) h0 h1).mono fun _ s' q => ⟨by have := q.1; omega, q.2.1⟩
  · exact ⟨hg, Fr.refl _, by omega, rfl⟩
theorem ends_law {p : Int} {hi : Nat} {s : OS} {x : Int × Nat} {l : List (Int × Nat)} (ho : s.m.opn = x :: l) (hg : Good right s) (hq : pot s + 10 ≤ 4294967296) (h0 : 0 ≤ p) (h1 : p ≤ (hi : Int)) : RP right s hi (fun _ s' => pot s' = pot s ∧ s'.m.opn = l) (endsM right p s) := by
  unfold endsM
  rw [ho]
  obtain ⟨k, n⟩ := x
  simp only
  refine RP.cast (s := { s with m := { s.m with opn := l } }) ?_ (Fr.refl _)
  have hg1 : Good right { s with m := { s.m with opn := l } } := ⟨hg.st, hg.ok, hg.kp, hg.td⟩
  have hp : pot { s with m := { s.m with opn := l } } + 1 = pot s := by simp only [pot, ho, List.length_cons]; omega
  exact (says_law hg1 (okE0' (by split <;> simp) (by split <;> simp)) (by omega) h0 h1).mono fun _ s' q => ⟨by have := q.1; omega, q.2.1⟩
theorem endsTo_nil {stands n : Nat} {s : OS} (h : s.m.opn = []) : endsTo right stands (n + 1) s = (.ok (), s) := by simp only [endsTo]; rw [h]
theorem endsTo_cons {stands n k : Nat} {kind : Int} {l : List (Int × Nat)} {s : OS} (h : s.m.opn = (kind, k) :: l) : endsTo right stands (n + 1) s = if k > stands then OM.bind (endsM right (Int.ofNat stands)) (fun _ => endsTo right stands n) s else (.ok (), s) := by simp only [endsTo]; rw [h]
theorem endsTo_law {stands hi : Nat} (hs : stands ≤ hi) : ∀ (n : Nat) (s : OS), s.m.opn.length < n → Good right s → pot s + 10 ≤ 4294967296 → RP right s hi (fun _ s' => pot s' = pot s ∧ s'.m.opn.length ≤ s.m.opn.length) (endsTo right stands n s)
  | 0, s, hlt, _, _ => by omega
  | n + 1, s, hlt, hg, hq => by
    cases ho : s.m.opn with
    | nil => rw [endsTo_nil ho]; exact ⟨hg, Fr.refl _, rfl, by rw [ho]; exact Nat.le_refl _⟩
    | cons x l =>
      obtain ⟨k, m⟩ := x
      rw [endsTo_cons ho]
      split
      · refine RP.bind (ends_law ho hg hq (nat_pos hs).1 (nat_pos hs).2) fun _ s1 g1 f1 q1 => ?_
        have h1 : s1.m.opn.length < n := by rw [q1.2]; rw [ho] at hlt; simp only [List.length_cons] at hlt; omega
        refine (endsTo_law hs n s1 h1 g1 (by omega)).mono fun _ s' q => ⟨by rw [q.1, q1.1], ?_⟩
        have := q.2; rw [q1.2] at this; simp only [List.length_cons]; omega
      · exact ⟨hg, Fr.refl _, rfl, by rw [ho]; exact Nat.le_refl _⟩
theorem place_law {t : ByteArray} {a stands : Nat} {s : OS} (ha : a ≤ t.size) (hs : stands ≤ t.size) (hg : Good right s) (hq : pot s + 20 ≤ 4294967296) (ho : s.m.opn.length < 999) : RP right s t.size (fun _ s' => pot s' ≤ pot s + 3 ∧ s'.m.opn.length ≤ s.m.opn.length + 1) (placeM right t a stands s) := by
  cases hop : s.m.opn with
  | nil =>
    rw [place_nil hop]
    split
    · exact RP.fail hg (by simp) (nat_pos hs).1 (nat_pos hs).2
    · split
      · exact RP.fail hg (by simp) (nat_pos hs).1 (nat_pos hs).2
      · exact ⟨hg, Fr.refl _, by omega, by rw [hop]; omega⟩
  | cons x l =>
    obtain ⟨k, last⟩ := x
    rw [place_cons hop]
    split
    · split
      · exact RP.fail hg (by simp) (nat_pos hs).1 (nat_pos hs).2
      · refine RP.cast (s := { s with m := { s.m with waits := false } }) ?_ (Fr.refl _)
        have hg1 : Good right { s with m := { s.m with waits := false } } := ⟨hg.st, hg.ok, hg.kp, hg.td⟩
        have hp : pot { s with m := { s.m with waits := false } } = pot s := rfl
        exact (opens_law ha hg1 (by omega) ho).mono fun _ s' q => ⟨by have := q.1; omega, by have := q.2; simp only at this; rw [← hop]; omega⟩
    · refine RP.bind (nothing_law hg (by omega) (nat_pos hs).1 (nat_pos hs).2) fun _ s1 g1 f1 q1 => ?_
      refine RP.bind (endsTo_law hs _ s1 (by rw [q1.2]; omega) g1 (by omega)) fun _ s2 g2 f2 q2 => ?_
      have h2 : s2.m.opn.length ≤ s.m.opn.length := by rw [← q1.2]; exact q2.2
      unfold placeT
      split
      · exact RP.fail g2 (by simp) (nat_pos hs).1 (nat_pos hs).2
      · split
        · exact ⟨g2, Fr.refl _, by omega, by rw [← hop]; omega⟩
        · exact RP.fail g2 (by simp) (nat_pos hs).1 (nat_pos hs).2
theorem line_law (hn : NumLaw numRead) {t : ByteArray} {s : OS} (ht : t.size < 1000000) (hg : Good right s) (hq : pot s + 2 * t.size + 40 ≤ 4294967296) (ho : s.m.opn.length < 998) : RP right s t.size (fun _ s' => pot s' ≤ pot s + 2 * t.size + 10 ∧ s'.m.opn.length ≤ s.m.opn.length + 1) (lineM right numRead t s) := by
  have hc : (cutR t).1 ≤ t.size := blanks_le t 0 (Nat.zero_le _)
  unfold lineM
  split
  · generalize (cutR t).1 = a at hc ⊢
    refine RP.bind (place_law hc hc hg (by omega) (by omega)) fun _ s1 g1 f1 q1 => ?_
    split
    · rename_i hop
      refine RP.bind (first_law hn ht hc g1 (by omega) (by omega)) fun _ s2 g2 f2 q2 => RP.ret g2 ⟨by have := q2.1; omega, ?_⟩
      have := q2.2; rw [hop] at this; simp only [List.length_nil] at this; omega
    · split
      · exact RP.bind (item_law hn ht hc g1 (by omega)) fun _ s2 g2 f2 q2 => RP.ret g2 ⟨by have := q2.1; omega, by rw [q2.2]; omega⟩
      · exact RP.bind (field_law hn ht hc g1 (by omega)) fun _ s2 g2 f2 q2 => RP.ret g2 ⟨by have := q2.1; omega, by rw [q2.2]; omega⟩
  · exact RP.ret hg ⟨by omega, by omega⟩
 end
end Hx
/- The model's plain law: the whole text. -/
namespace Hx
open Go Sx Go.Proofs
set_option maxRecDepth 100000
set_option maxHeartbeats 4000000
set_option linter.unusedVariables false
set_option linter.unusedSimpArgs false
variable {GOk : Gl → Prop}
section
variable {right : Ev → Bool} {numRead : ByteArray → ByteArray × Int}
structure Inv (right : Ev → Bool) (i : Nat) (s : OS) : Prop where
  good : Good right s
  at_ : s.c.at_ = i
  ahead : s.m.ahead + s.m.line.length = i
  over : s.c.over = false
  err : s.c.err = 0
  pot : pot s + 2 * s.m.line.length ≤ 40 + 12 * i
  opn : s.m.opn.length ≤ i
  line : s.m.line.length ≤ 160
/-- where it ended -/
structure Fin1 (right : Ev → Bool) (n : Nat) (s : OS) : Prop where
  half : Half right s
  err : s.c.err ≠ 0
  over : s.c.over = true
  at_ : s.c.at_ ≤ n
theorem looks_law (hn : NumLaw numRead) {nl i : Nat} {s : OS} (h : Inv right i s) (hi : i ≤ 600) : ∃ e s', looksM right numRead nl s = some (e, s') ∧ s'.c.scan = s.c.scan ∧ s'.c.at_ = i ∧ s'.c.closed = s.c.closed ∧ s'.c.over = false ∧ s'.c.err = 0 ∧
    (e = 0 → Good right s' ∧ s'.m.ahead = i + nl ∧ s'.m.line = [] ∧ Hx.pot s' ≤ Hx.pot s + 2 * s.m.line.length + 10 ∧ s'.m.opn.length ≤ s.m.opn.length + 1) ∧ (e ≠ 0 → Half right s' ∧ s'.m.ahead ≤ i) := by
  have h1 := h.ahead; have h2 := h.pot; have h3 := h.opn; have h4 := h.line
  have hs : (bytesOf s.m.line).size = s.m.line.length := bytesOf_size _
  have hg1 : Good right { s with m := { s.m with line := [], ahead := s.m.ahead + s.m.line.length + nl } } := ⟨h.good.st, h.good.ok, h.good.kp, h.good.td⟩
  have hp1 : Hx.pot { s with m := { s.m with line := [], ahead := s.m.ahead + s.m.line.length + nl } } = Hx.pot s := rfl
  have hl := line_law hn (t := bytesOf s.m.line) (by omega) hg1 (by omega) (by simp only; omega)
  unfold looksM
  rw [if_neg (by omega)]
  generalize lineM right numRead (bytesOf s.m.line) { s with m := { s.m with line := [], ahead := s.m.ahead + s.m.line.length + nl } } = y at hl ⊢
  obtain ⟨r, s'⟩ := y
  cases r with
  | ok a =>
    obtain ⟨g, f, q⟩ := hl
    refine ⟨0, s', rfl, f.2.2.1, f.2.2.2.1.trans h.at_, f.2.2.2.2.1, f.2.2.2.2.2.1.trans h.over, f.2.2.2.2.2.2.1.trans h.err, fun _ => ⟨g, ?_, f.2.1, ?_, ?_⟩, fun h => absurd rfl h⟩
    · have := f.1; simp only at this; omega
    · have := q.1; omega
    · exact q.2
  | err e p =>
    obtain ⟨g, f, he, hp0, hp2⟩ := hl
    simp only
    rw [if_neg (by omega)]
    refine ⟨e, _, rfl, f.2.2.1, f.2.2.2.1.trans h.at_, f.2.2.2.2.1, f.2.2.2.2.2.1.trans h.over, f.2.2.2.2.2.2.1.trans h.err, fun h => by omega, fun _ => ⟨⟨g.st, g.ok⟩, ?_⟩⟩
    simp only; omega
  | ovf => exact hl.elim
theorem stepM_nl {x : UInt8} {s : OS} (h : x = 10) : stepM right numRead x s = looksM right numRead 1 s := by unfold stepM; rw [if_pos h]
theorem stepM_full {x : UInt8} {s : OS} (h : ¬ x = 10) (h2 : s.m.line.length ≥ 160) (h3 : ¬ s.m.ahead > 1000000) : stepM right numRead x s = some (4, { s with m := { s.m with ahead := s.m.ahead + 160 } }) := by unfold stepM; rw [if_neg h, if_pos h2, if_neg h3]
theorem stepM_app {x : UInt8} {s : OS} (h : ¬ x = 10) (h2 : ¬ s.m.line.length ≥ 160) : stepM right numRead x s = some (0, { s with m := { s.m with line := s.m.line ++ [x] } }) := by unfold stepM; rw [if_neg h, if_neg h2]
theorem feed_law (hn : NumLaw numRead) {n : Nat} (hn6 : n ≤ 600) : ∀ (l : List UInt8) (i : Nat) (s : OS), Inv right i s → s.c.closed = false → i + l.length = n → ∃ s', feedGo right numRead l s = some s' ∧ s'.c.closed = false ∧ (Inv right n s' ∨ Fin1 right n s')
  | [], i, s, h, hcl0, hl => by
    have e : i = n := by simpa using hl
    exact ⟨s, rfl, hcl0, .inl (e ▸ h)⟩
  | x :: r, i, s, h, hcl0, hl => by
    simp only [List.length_cons] at hl
    simp only [feedGo]
    rw [if_neg (by rw [h.over]; decide)]
    generalize scanStep s.c.scan (x.toNat : Nat) = y
    obtain ⟨b, sc⟩ := y
    cases b with
    | false => exact ⟨_, rfl, hcl0, .inr ⟨⟨⟨_, h.good.st⟩, h.good.ok⟩, by simp, rfl, by simp only; rw [h.at_]; omega⟩⟩
    | true =>
      simp only
      have h' : Inv right i { s with c := { s.c with scan := sc } } := ⟨⟨h.good.st, h.good.ok, h.good.kp, h.good.td⟩, h.at_, h.ahead, h.over, h.err, h.pot, h.opn, h.line⟩
      have hcl : ({ s with c := { s.c with scan := sc } } : OS).c.closed = false := hcl0
      generalize ({ s with c := { s.c with scan := sc } } : OS) = s1 at h' hcl ⊢
      by_cases hx10 : x = 10
      · obtain ⟨e, s2, h1, -, h3, h4, h5, h6, h7, h8⟩ := looks_law hn (nl := 1) h' (by omega)
        rw [stepM_nl hx10, h1]
        simp only
        split
        · rename_i he
          refine ⟨_, rfl, by rw [← hcl, ← h4]; rfl, .inr ⟨⟨(h8 he).1.st, (h8 he).1.ok⟩, he, rfl, ?_⟩⟩
          simp only [metM]; rw [if_pos he]; have := (h8 he).2; omega
        · rename_i he
          have he : e = 0 := by simpa using he
          obtain ⟨k1, k2, k3, k4, k5⟩ := h7 he
          rw [if_neg (by omega)]
          have a1 := h'.pot; have a2 := h'.opn
          refine feed_law hn hn6 r (i + 1) _ ⟨⟨k1.st, k1.ok, k1.kp, k1.td⟩, by simp only; rw [h3], by simp only; rw [k3, k2]; rfl, h5, h6, ?_, by simp only; omega, by simp only; rw [k3]; exact Nat.zero_le _⟩ (by simp only; rw [h4, hcl]) (by omega)
          have : pot { s2 with c := { s2.c with at_ := s2.c.at_ + 1 } } = pot s2 := rfl
          rw [this]; simp only [k3, List.length_nil]; omega
      · by_cases h160 : s1.m.line.length ≥ 160
        · have a0 := h'.ahead
          rw [stepM_full hx10 h160 (by omega)]
          simp only
          rw [if_pos (by simp)]
          refine ⟨_, rfl, hcl, .inr ⟨⟨⟨_, h'.good.st⟩, h'.good.ok⟩, by simp only [metM]; decide, rfl, ?_⟩⟩
          simp only [metM]; rw [if_pos (by simp)]; omega
        · have a0 := h'.ahead; have a1 := h'.pot; have a2 := h'.opn; have a3 := h'.at_
          rw [stepM_app hx10 h160]
          simp only
          rw [if_neg (by simp), if_neg (by omega)]
          refine feed_law hn hn6 r (i + 1) _ ⟨⟨h'.good.st, h'.good.ok, h'.good.kp, h'.good.td⟩, by simp only; omega, by simp only [List.length_append, List.length_singleton]; omega, h'.over, h'.err, ?_, by simp only; omega, by simp only [List.length_append, List.length_singleton]; omega⟩ hcl (by omega)
          simp only [pot, List.length_append, List.length_singleton] at a1 ⊢; omega
theorem endsAll_nil {n : Nat} {s : OS} (h : s.m.opn = []) : endsAll right (n + 1) s = (.ok (), s) := by simp only [endsAll]; rw [h]
theorem endsAll_cons {n : Nat} {x : Int × Nat} {l : List (Int × Nat)} {s : OS} (h : s.m.opn = x :: l) : endsAll right (n + 1) s = OM.bind (endsM right 0) (fun _ => endsAll right n) s := by simp only [endsAll]; rw [h]
theorem endsAll_law : ∀ (n : Nat) (s : OS), s.m.opn.length < n → Good right s → pot s + 10 ≤ 4294967296 → RP right s 0 (fun _ _ => True) (endsAll right n s)
  | 0, s, hlt, _, _ => by omega
  | n + 1, s, hlt, hg, hq => by
    cases ho : s.m.opn with
    | nil => rw [endsAll_nil ho]; exact ⟨hg, Fr.refl _, trivial⟩
    | cons x l =>
      rw [endsAll_cons ho]
      refine RP.bind (ends_law ho hg hq (Int.le_refl _) (Int.le_refl _)) fun _ s1 g1 f1 q1 => ?_
      exact endsAll_law n s1 (by rw [q1.2]; rw [ho] at hlt; simp only [List.length_cons] at hlt; omega) g1 (by omega)
theorem finish_law {s : OS} (hg : Good right s) (hq : pot s + 20 ≤ 4294967296) : ∃ e s', finishM right s = some (e, s') ∧ Half right s' ∧ Fr s s' ∧ (e = 0 → Good right s' ∧ chkDone s'.m.chk = true) := by
  have h : RP right s 0 (fun _ _ => True) (finishO right s) := by
    unfold finishO
    refine RP.bind (nothing_law hg (by omega) (Int.le_refl _) (Int.le_refl _)) fun _ s1 g1 f1 q1 => ?_
    exact endsAll_law _ s1 (by omega) g1 (by omega)
  unfold finishM
  generalize finishO right s = y at h ⊢
  obtain ⟨r, s'⟩ := y
  cases r with
  | ok a =>
    refine ⟨_, s', rfl, h.1.half, h.2.1, fun he => ⟨h.1, ?_⟩⟩
    split at he
    · assumption
    · exact absurd he (by simp)
  | err e p =>
    simp only
    rw [if_neg (by have := h.2.2.1; omega)]
    exact ⟨e, s', rfl, h.1, h.2.1, fun he => by have := h.2.2.1; omega⟩
  | ovf => exact h.elim
/-- the end of a text of so many bytes -/
structure AllOk (right : Ev → Bool) (n : Nat) (s : OS) : Prop where
  steps : ∃ c, stepsC right chk0 s.c.queue = some c ∧ (s.c.err = 0 → chkDone c = true)
  ok : QOk s.c.queue
  at_ : s.c.at_ ≤ n
  full : s.c.err = 0 → s.c.at_ = n
theorem met_law {n : Nat} {e : Int} {s : OS} (h : Half right s) (h0 : e = 0 → Good right s ∧ chkDone s.m.chk = true) (hat : s.c.at_ = n) (ha : e ≠ 0 → s.m.ahead ≤ n) : AllOk right n (metM e s) := by
  by_cases he : e = 0
  · obtain ⟨g, d⟩ := h0 he
    refine ⟨⟨s.m.chk, g.st, fun _ => d⟩, h.ok, ?_, fun _ => ?_⟩
    · simp only [metM]; rw [if_neg (by simpa using he)]; omega
    · simp only [metM]; rw [if_neg (by simpa using he)]; exact hat
  · obtain ⟨c, hc⟩ := h.st
    refine ⟨⟨c, hc, fun h => absurd h he⟩, h.ok, ?_, fun h => absurd h he⟩
    simp only [metM]; rw [if_pos he]; exact ha he
theorem endM_nil {s : OS} (h : s.m.line = []) : endM right numRead s = finishM right s := by unfold endM; rw [if_pos (by rw [h]; rfl)]
theorem endM_cons {s : OS} (h : s.m.line ≠ []) : endM right numRead s = match looksM right numRead 0 s with
    | none => none
    | some (e, s') => if e ≠ 0 then some (e, s') else finishM right s' := by unfold endM; rw [if_neg (by simpa using h)]; rfl
theorem end_law (hn : NumLaw numRead) {n : Nat} (hn6 : n ≤ 600) {s : OS} (h : Inv right n s) : ∃ e s', endM right numRead s = some (e, s') ∧ AllOk right n (metM e s') := by
  have a1 := h.pot; have a2 := h.ahead; have a3 := h.line
  by_cases hl : s.m.line = []
  · rw [endM_nil hl]
    obtain ⟨e, s', h1, h2, h3, h4⟩ := finish_law h.good (by omega)
    refine ⟨e, s', h1, met_law h2 h4 (h3.2.2.2.1.trans h.at_) fun _ => ?_⟩
    have := h3.1; rw [hl] at a2; simp only [List.length_nil] at a2 this; omega
  · rw [endM_cons hl]
    obtain ⟨e, s', h1, -, h3, h4, h5, h6, h7, h8⟩ := looks_law hn (nl := 0) h hn6
    rw [h1]
    simp only
    by_cases he : e = 0
    · rw [if_neg (by simpa using he)]
      obtain ⟨k1, k2, k3, k4, k5⟩ := h7 he
      obtain ⟨e2, s2, j1, j2, j3, j4⟩ := finish_law k1 (by omega)
      refine ⟨e2, s2, j1, met_law j2 j4 (j3.2.2.2.1.trans h3) fun _ => ?_⟩
      rw [j3.1, k2]; exact Nat.le_refl _
    · rw [if_pos he]
      exact ⟨e, s', rfl, met_law (h8 he).1 (fun h => absurd h he) h3 fun _ => (h8 he).2⟩
theorem close_law (hn : NumLaw numRead) {n : Nat} (hn6 : n ≤ 600) {s : OS} (hc : s.c.closed = false) (h : Inv right n s ∨ Fin1 right n s) : ∃ s', closeM right numRead s = some s' ∧ AllOk right n s' := by
  rcases h with h | h
  · unfold closeM
    rw [if_neg (by rw [h.over, hc]; simp)]
    by_cases hs : s.c.scan.left ≠ 0
    · rw [if_pos hs]
      exact ⟨_, rfl, ⟨⟨_, h.good.st, fun h => absurd h (by simp)⟩, h.good.ok, by simp only; rw [h.at_]; exact Nat.le_refl _, fun h => absurd h (by simp)⟩⟩
    · rw [if_neg hs]
      have h' : Inv right n { s with c := { s.c with closed := true } } := ⟨⟨h.good.st, h.good.ok, h.good.kp, h.good.td⟩, h.at_, h.ahead, h.over, h.err, h.pot, h.opn, h.line⟩
      generalize ({ s with c := { s.c with closed := true } } : OS) = s1 at h' ⊢
      obtain ⟨e, s', h1, h2⟩ := end_law hn hn6 h'
      rw [h1]
      exact ⟨_, rfl, h2⟩
  · unfold closeM
    rw [if_pos (by rw [h.over]; simp)]
    obtain ⟨c, hc⟩ := h.half.st
    exact ⟨_, rfl, ⟨⟨c, hc, fun he => absurd he h.err⟩, h.half.ok, h.at_, fun he => absurd he h.err⟩⟩
theorem inv0 : Inv right 0 os0 := ⟨⟨rfl, ⟨(fun x hx => nomatch hx), Nat.zero_le _⟩, (fun x hx => nomatch hx), Nat.zero_le _⟩, rfl, rfl, rfl, rfl, by simp [pot, os0], Nat.le_refl _, Nat.zero_le _⟩
theorem all_law (hn : NumLaw numRead) (text : List UInt8) (hl : text.length ≤ 600) : ∃ s, allM right numRead text = some s ∧ AllOk right text.length s := by
  obtain ⟨s1, h1, h2, h3⟩ := feed_law hn hl text 0 os0 inv0 rfl (by omega)
  obtain ⟨s2, h4, h5⟩ := close_law hn hl h2 h3
  exact ⟨s2, by unfold allM; rw [h1]; exact h4, h5⟩
theorem whole_law : ∀ (l : List Ev) (c c1 : Chk) (i : Nat), stepsC right c l = some c1 → wholeGo right c l i = (i + l.length, if chkDone c1 then 0 else 19)
  | [], c, c1, i, h => by simp only [stepsC, Option.some.injEq] at h; subst h; rfl
  | x :: r, c, c1, i, h => by
    simp only [stepsC] at h
    split at h
    · rename_i hx
      simp only [wholeGo]; rw [if_neg (by simpa using hx), whole_law r _ c1 _ h]
      simp only [List.length_cons]; rw [show i + 1 + r.length = i + (r.length + 1) by omega]
    · exact nomatch h
 end
end Hx
/- OutlineWhole. -/
namespace Hx
open Go Sx Go.Proofs
set_option maxRecDepth 100000
set_option maxHeartbeats 4000000
set_option linter.unusedVariables false
set_option linter.unusedSimpArgs false
variable {GOk : Gl → Prop}
theorem outline_old (hb : Below GOk rightM) (hln : LineOk GOk rightM numReadM) (hn : NumLaw numReadM) (p : Bool) (lo len cap : Nat) (g : Nat) (text : List UInt8) (hlt : text.length = len) (hpr : p = false → len = 0) (hfits : len ≤ cap) (hS : OldB GOk g lo text) :
    Triple (BB Ip GOk) 3 1 1 [.vec p 0 1 lo len cap] [.at_ 0 g] (fun K => K (.ret (.bool true)) [.at_ 0 g]) := by
  refine triple_of BB_ok (tb := ty) rfl (n0 := 1) (fun _ : Unit => _) pl3 Tryz.call3 Tryz.func3 rfl (by kernel_rfl) (Nat.le_of_ble_eq_true rfl) (by decide) rfl pre_none ?_
  rintro G hG K hK W bi bc bs bk bu bb bo bg bl bp bn be Ncond Nob Nop Nloop Nscope hN Nfin hf _ _
  cbv
  refine op_ hN (call_ (few_old p lo len cap g hfits) hG [0] rfl rfl rfl rfl rfl ?_)
  intro m hm
  have hml : (text.take 600).length = m := by rw [List.length_take]; omega
  have hpr2 : p = false → m = 0 := fun h => by have := hpr h; omega
  have hS2 := hS.take 600
  have hm : m ≤ 600 := by omega
  generalize text.take 600 = tx at hS2 hml
  obtain ⟨s, hs, ⟨⟨c, hc, hdone⟩, hok, hat, hfull⟩⟩ := all_law (right := rightM) hn tx (by omega)
  have hwl := whole_law s.c.queue chk0 c 0 hc
  rw [hml] at hat hfull
  cbv
  refine op_ hN (call_ (decode_old hb hln p lo cap m g tx hml hpr2 hS2 (by omega)) hG [0] rfl rfl rfl rfl rfl ?_)
  rw [hs]
  intro p1 lo1 len1 cap1 ys hv1
  obtain ⟨mm, ⟨sc, queue, at_, closed, over, err, told⟩⟩ := s
  simp only at hv1 hc hdone hok hat hfull hwl
  have hql := hv1.length
  rw [hql, Nat.zero_add] at hwl
  have hlen1 : len1 ≤ 4294967296 := by have := hok.2; omega
  cbv
  refine op_ hN (call_ (whole_spec hb.rgt p1 lo1 len1 cap1 ys queue hv1 hok.1 hlen1) hG [1] rfl rfl rfl rfl rfl ?_)
  intro i e hie
  rw [hwl] at hie
  obtain ⟨rfl, he⟩ := Prod.mk.inj hie
  clear hie hwl hs hc
  have hc1 : bc .eql (Int.ofNat i) (Int.ofNat i) = true := by rw [ceq hN]; simp
  have hc2 : bc .geq (Int.ofNat at_) 0 = true := by rw [cge hN]; simp
  have hc3 : bc .leq (Int.ofNat at_) (Int.ofNat m) = true := by rw [cle hN]; simp; omega
  cbv
  refine cond_ hN (fun h => ?_) (fun h => ?_)
  · rw [ceq hN] at h
    have h0 : err = 0 := by simpa using h
    have hat2 := hfull h0
    have he0 : e = 0 := by rw [he, if_pos (hdone h0)]
    have hc4 : bc .eql e 0 = true := by rw [ceq hN, he0]; simp
    have hc5 : bc .eql (Int.ofNat at_) (Int.ofNat m) = true := by rw [ceq hN, hat2]; simp
    clear he hdone hfull h h0 hat2 he0 hat
    cbv
    refine cond_T hN hc4 ?_
    cbv
    refine cond_T hN hc1 ?_
    cbv
    refine cond_T hN hc5 ?_
    cbv
    refine op_ hN (call_ (lives_spec hb hln) hG [] rfl rfl rfl rfl rfl ?_)
    cbv
    exact hf _ _ (fin_ [0] rfl rfl hK)
  · clear he hdone hfull h hat
    cbv
    refine cond_T hN hc1 ?_
    cbv
    refine cond_T hN hc2 ?_
    cbv
    refine cond_T hN hc3 ?_
    cbv
    refine op_ hN (call_ (lives_spec hb hln) hG [] rfl rfl rfl rfl rfl ?_)
    cbv
    exact hf _ _ (fin_ [0] rfl rfl hK)
end Hx
/- The parts joined. -/
namespace Hx
open Go Sx Go.Proofs
set_option maxRecDepth 100000
set_option maxHeartbeats 4000000
set_option linter.unusedVariables false
set_option linter.unusedSimpArgs false
variable {GOk : Gl → Prop}
theorem below_ok (hT : GTab GOk) : Below GOk rightM := ⟨right_spec hT, anc_step_spec (right_spec hT), open_spec, get_spec⟩
theorem num_law : NumLaw numReadM := ⟨fun x => by have := (numReadM_law x).1; omega, fun x => (numReadM_law x).2⟩
theorem outline_all (hT : GTab GOk) (p : Bool) (lo len cap : Nat) (g : Nat) (text : List UInt8) (hlt : text.length = len) (hpr : p = false → len = 0) (hfits : len ≤ cap) (hS : OldB GOk g lo text) :
    Triple (BB Ip GOk) 3 1 1 [.vec p 0 1 lo len cap] [.at_ 0 g] (fun K => K (.ret (.bool true)) [.at_ 0 g]) :=
  outline_old (below_ok hT) (fun s t ht => line_spec (below_ok hT) (flow_ok (below_ok hT) (read_ok hT)) s t ht) num_law p lo len cap g text hlt hpr hfits hS
end Hx
