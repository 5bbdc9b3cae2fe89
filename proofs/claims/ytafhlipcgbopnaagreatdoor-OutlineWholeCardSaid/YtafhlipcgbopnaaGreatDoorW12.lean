/-
  Part of a proof.
-/
import Derived.Test.YtafhlipcgbopnaaGreatDoorW11
import Derived.Test.YtafhlipcgbopnaaGreatDoorW08
set_option linter.unusedVariables false
set_option linter.unusedSimpArgs false
/- outline.machine.field: the walk. -/
namespace Hx
open Go Sx Go.Proofs
set_option maxRecDepth 100000
set_option maxHeartbeats 4000000
set_option linter.unusedVariables false
set_option linter.unusedSimpArgs false
variable {GOk : Gl → Prop}
theorem qtAdd_le (q : Qt) (l : List UInt8) (h : q.bytes.length ≤ 48) : (qtAdd q l).2.bytes.length ≤ 48 := by
  unfold qtAdd; split
  · exact h
  · simp only [List.length_append]; omega
theorem qtDigit_le (q : Qt) (b : Int) (h : q.bytes.length ≤ 48) : (qtDigit q b).2.bytes.length ≤ 48 := by
  unfold qtDigit; split
  · exact h
  · split
    · exact h
    · split
      · exact h
      · exact qtAdd_le _ _ h
theorem qtStep_le (q : Qt) (b : Int) (h : q.bytes.length ≤ 48) : (qtStep q b).2.bytes.length ≤ 48 := by
  unfold qtStep; split
  · exact h
  · split
    · exact qtDigit_le q b h
    · split
      · split
        · exact h
        · split
          · exact h
          · exact qtAdd_le _ _ h
      · split
        · exact h
        · split
          · exact h
          · split
            · exact h
            · exact qtAdd_le _ _ h
theorem quotGo_le (s : ByteArray) : ∀ (n : Nat) (q : Qt) (k : Nat), s.size - k ≤ n → q.bytes.length ≤ 48 → (quotGo s q k).2.2.bytes.length ≤ 48 := by
  intro n
  induction n with
  | zero => intro q k hn h; rw [quotGo, dif_neg (by omega)]; exact h
  | succ n ih =>
    intro q k hn h
    rw [quotGo]
    split
    · rename_i hlt
      have hs := qtStep_le q ((s.data[k]'hlt).toNat : Nat) h
      generalize qtStep q ((s.data[k]'hlt).toNat : Nat) = y at hs ⊢
      obtain ⟨⟨over, e⟩, q'⟩ := y
      simp only at hs ⊢
      split
      · exact hs
      · split
        · exact hs
        · exact ih q' (k + 1) (by omega) hs
    · exact h
theorem quotGo_pos (s : ByteArray) : ∀ (n : Nat) (q : Qt) (k : Nat), s.size - k ≤ n → k ≤ s.size → (quotGo s q k).1 ≤ s.size := by
  intro n
  induction n with
  | zero => intro q k hn h; rw [quotGo, dif_neg (by omega)]; exact h
  | succ n ih =>
    intro q k hn h
    rw [quotGo]
    split
    · rename_i hlt
      generalize qtStep q ((s.data[k]'hlt).toNat : Nat) = y
      obtain ⟨⟨over, e⟩, q'⟩ := y
      simp only
      split
      · exact h
      · split
        · exact hlt
        · exact ih q' (k + 1) (by omega) hlt
    · exact h
theorem quotR_pos (s : ByteArray) (a : Nat) (h : a ≤ s.size) : (quotR s a).1 ≤ s.size := by
  unfold quotR; split
  · rename_i hi; exact quotGo_pos s _ qt0 (a + 1) (Nat.le_refl _) (isB_lt hi)
  · exact h
theorem quotR_le (s : ByteArray) (a : Nat) : (quotR s a).2.2.length ≤ 48 := by
  unfold quotR; split
  · exact quotGo_le s _ qt0 (a + 1) (Nat.le_refl _) (Nat.zero_le _)
  · exact Nat.zero_le _
theorem bytes_eq {t : ByteArray} {l : List UInt8} (h : t.data.toList = l) : t = bytesOf l := by
  subst h; cases t; rfl
theorem okE8 (s : ByteArray) (h : s.size < 1099511627776) : okE ⟨8, s, ⟨#[]⟩⟩ := ⟨h, Nat.le_of_ble_eq_true rfl, by simp, by simp⟩
variable {right : Ev → Bool} {numRead : ByteArray → ByteArray × Int}
/-- behind the key -/
def fieldT (right : Ev → Bool) (numRead : ByteArray → ByteArray × Int) (t : ByteArray) (kl : Nat × ByteArray) : OM Nat :=
  OM.bind (saysM right ⟨8, kl.2, ⟨#[]⟩⟩ (Int.ofNat kl.1 - 1)) fun _ => OM.bind (mustM t 58 (blanks t kl.1)) fun k => behindM right numRead t k
theorem field_spec (hb : Below GOk right) (hfl : FlowOk GOk right numRead) (s : OS) (t : ByteArray) (a g : Nat) (ht : t.size < 1000000) (ha : a ≤ t.size) : Triple (BB Ip GOk) 160 3 3 [.ptr 0 0, .ptr 2 0] (rc s t a g)
    (fun K => PostP t g K (fieldM right numRead t a s)) := by
  obtain ⟨⟨ahead, line, chk, anc, opn, waits⟩, core⟩ := s
  refine triple_of BB_ok (tb := ty) rfl (n0 := 3) (fun _ : Unit => _) pl160 Tryz.call160 Tryz.func160 rfl (by kernel_rfl) (Nat.le_of_ble_eq_true rfl) (by decide) rfl pre_none ?_
  rintro G hG K hK W bi bc bs bk bu bb bo bg bl bp bn be Ncond Nob Nop Nloop Nscope hN Nfin hf _ _
  have hM : fieldM right numRead t a ⟨⟨ahead, line, chk, anc, opn, waits⟩, core⟩ = OM.bind (keyM t a) (fieldT right numRead t) ⟨⟨ahead, line, chk, anc, opn, waits⟩, core⟩ := rfl
  cbv
  refine op_ hN (call_ (is_spec t a (tellV g) 34) hG [2] rfl rfl rfl rfl rfl ?_)
  intro m hm
  cases m with
  | true =>
    cbv
    refine cond_ hN (fun _ => ?_) (fun h => by simp at h)
    cbv
    refine op_ hN (call_ (quoted_spec t a (tellV g) (by omega)) hG [2] rfl rfl rfl rfl rfl ?_)
    intro k e l hq
    have h1 : (quotR t a).1 = k := by rw [← hq]
    have h2 : (quotR t a).2.1 = e := by rw [← hq]
    have h3 : (quotR t a).2.2 = l := by rw [← hq]
    have h48 := quotR_le t a
    have hkp := quotR_pos t a ha
    rw [h1] at hkp
    rw [h3] at h48
    simp only [OM.bind, keyM] at hM
    rw [if_pos hm.symm, h1, h2, h3] at hM
    refine ⟨fun he key hkey => ?_, fun he => ?_⟩
    · rw [if_pos he, ← bytes_eq hkey] at hM
      have hsz : key.size < 1099511627776 := by have : key.size = l.length := by rw [← hkey, Array.length_toList]; rfl
                                                omega
      simp only [fieldT] at hM
      have hsub : bi .sub .i64 (Int.ofNat k) 1 = Int.ofNat k - 1 := by rw [isub hN (by simp; omega) (by simp; omega)]
      obtain ⟨kk, hkk⟩ : ∃ x, Int.ofNat k - 1 = x := ⟨_, rfl⟩
      rw [hkk] at hsub hM
      rw [hM] at hK
      cbv
      simp only [hsub]
      refine op_ hN (call_ (says_spec hb ⟨⟨ahead, line, chk, anc, opn, waits⟩, core⟩ ⟨8, key, ⟨#[]⟩⟩ kk (okE8 key hsz)) hG [0, 1] rfl rfl rfl rfl rfl ?_)
      rw [OM.bind] at hK
      generalize saysM right ⟨8, key, ⟨#[]⟩⟩ kk ⟨⟨ahead, line, chk, anc, opn, waits⟩, core⟩ = y at hK ⊢
      obtain ⟨r, s'⟩ := y
      cases r with
      | err e a => cbv; exact hf _ _ (fin_ [] rfl rfl hK)
      | ovf => exact hK.elim
      | ok a2 =>
        simp only at hK
        cbv
        refine op_ hN (call_ (blanks_spec t k (tellV g) (by omega)) hG [2] rfl rfl rfl rfl rfl ?_)
        intro b2 hb2
        rw [← hb2] at hK
        cbv
        refine op_ hN (call_ (must_spec t b2 (tellV g) 58 (by omega)) hG [2] rfl rfl rfl rfl rfl ?_)
        refine ⟨fun hi => ?_, fun hi => ?_⟩
        · simp only [OM.bind, mustM] at hK
          rw [if_pos hi] at hK
          simp only at hK
          cbv
          refine op_ hN (call_ (behind_spec hb hfl s' t (b2 + 1) g ht) hG [0, 1, 2] rfl rfl rfl rfl rfl ?_)
          generalize behindM right numRead t (b2 + 1) s' = y at hK ⊢
          obtain ⟨r, s'⟩ := y
          cases r with
          | ok a => cbv; exact hf _ _ (fin_ [] rfl rfl hK)
          | err e a => cbv; exact hf _ _ (fin_ [] rfl rfl hK)
          | ovf => exact hK.elim
        · simp only [OM.bind, mustM] at hK
          rw [if_neg (fun h => by rw [hi] at h; cases h)] at hK
          cbv
          exact hf _ _ (fin_ [] rfl rfl hK)
    · rw [if_neg he] at hM
      rw [hM] at hK
      cbv
      exact hf _ _ (fin_ [] rfl rfl hK)
  | false =>
    cbv
    refine cond_ hN (fun h => by simp at h) (fun _ => ?_)
    cbv
    refine op_ hN (call_ (Name_spec t a (tellV g) (by omega) ha) hG [2] rfl rfl rfl rfl rfl ?_)
    intro k e hke
    have h1 : (nameGo t a true a).1 = k := by rw [← hke]
    have h2 : (nameGo t a true a).2 = e := by rw [← hke]
    have hkp := (nameGo_le t a true a ha).1
    rw [h1] at hkp
    simp only [OM.bind, keyM] at hM
    rw [if_neg (by rw [← hm]; decide), h1, h2] at hM
    refine ⟨fun he => ?_, fun he => ?_⟩
    · rw [if_pos he] at hM
      have hsz := subs_size t (Int.ofNat a) (Int.ofNat k)
      generalize subs t (Int.ofNat a) (Int.ofNat k) = key at hM hsz ⊢
      have hsz : key.size < 1099511627776 := by omega
      simp only [fieldT] at hM
      have hsub : bi .sub .i64 (Int.ofNat k) 1 = Int.ofNat k - 1 := by rw [isub hN (by simp; omega) (by simp; omega)]
      obtain ⟨kk, hkk⟩ : ∃ x, Int.ofNat k - 1 = x := ⟨_, rfl⟩
      rw [hkk] at hsub hM
      rw [hM] at hK
      cbv
      simp only [hsub]
      refine op_ hN (call_ (says_spec hb ⟨⟨ahead, line, chk, anc, opn, waits⟩, core⟩ ⟨8, key, ⟨#[]⟩⟩ kk (okE8 key hsz)) hG [0, 1] rfl rfl rfl rfl rfl ?_)
      rw [OM.bind] at hK
      generalize saysM right ⟨8, key, ⟨#[]⟩⟩ kk ⟨⟨ahead, line, chk, anc, opn, waits⟩, core⟩ = y at hK ⊢
      obtain ⟨r, s'⟩ := y
      cases r with
      | err e a => cbv; exact hf _ _ (fin_ [] rfl rfl hK)
      | ovf => exact hK.elim
      | ok a2 =>
        simp only at hK
        cbv
        refine op_ hN (call_ (blanks_spec t k (tellV g) (by omega)) hG [2] rfl rfl rfl rfl rfl ?_)
        intro b2 hb2
        rw [← hb2] at hK
        cbv
        refine op_ hN (call_ (must_spec t b2 (tellV g) 58 (by omega)) hG [2] rfl rfl rfl rfl rfl ?_)
        refine ⟨fun hi => ?_, fun hi => ?_⟩
        · simp only [OM.bind, mustM] at hK
          rw [if_pos hi] at hK
          simp only at hK
          cbv
          refine op_ hN (call_ (behind_spec hb hfl s' t (b2 + 1) g ht) hG [0, 1, 2] rfl rfl rfl rfl rfl ?_)
          generalize behindM right numRead t (b2 + 1) s' = y at hK ⊢
          obtain ⟨r, s'⟩ := y
          cases r with
          | ok a => cbv; exact hf _ _ (fin_ [] rfl rfl hK)
          | err e a => cbv; exact hf _ _ (fin_ [] rfl rfl hK)
          | ovf => exact hK.elim
        · simp only [OM.bind, mustM] at hK
          rw [if_neg (fun h => by rw [hi] at h; cases h)] at hK
          cbv
          exact hf _ _ (fin_ [] rfl rfl hK)
    · rw [if_neg he] at hM
      rw [hM] at hK
      cbv
      exact hf _ _ (fin_ [] rfl rfl hK)
end Hx
/- row.Row.Number: the walk. -/
namespace Hx
open Go Sx Go.Proofs
set_option maxRecDepth 100000
set_option maxHeartbeats 4000000
set_option linter.unusedVariables false
set_option linter.unusedSimpArgs false
variable {GOk : Gl → Prop}
variable {numRead : ByteArray → ByteArray × Int}
theorem subs_size2 (t : ByteArray) (a k : Int) : (subs t a k).size ≤ t.size := by
  simp only [subs, ByteArray.size_extract]; omega
theorem number_spec (s : ByteArray) (a : Nat) (tv : Value) (hs : s.size < 1000000) (ha : a ≤ s.size)
    (hread : ∀ x : ByteArray, x.size < 1000000 → Triple (BB Ip GOk) 30 0 0 [.str x] [] (fun K => ∀ r e, (r, e) = numRead x → K (.ret (.tuple [.str r, .int .i64 e])) [])) :
    Triple (BB Ip GOk) 196 1 1 [.ptr 0 0] [rowc 0 s a tv]
    (fun K => ∀ k e r, (k, e, r) = numberR numRead s a → (e = 0 → K (.ret (.str r)) [rowc 0 s k tv]) ∧ (e ≠ 0 → K (.pan (flt e (Int.ofNat k))) [rowc 0 s k tv])) := by
  refine triple_of BB_ok (tb := ty) rfl (n0 := 1) (fun _ : Unit => _) pl196 Tryz.call196 Tryz.func196 rfl (by kernel_rfl) (Nat.le_of_ble_eq_true rfl) (by decide) rfl pre_none ?_
  rintro G hG K hK W bi bc bs bk bu bb bo bg bl bp bn be Ncond Nob Nop Nloop Nscope hN Nfin hf _ _
  cbv
  refine loopN_ hN (loop_ hN ty_ok mixed (ι := Nat) (fun k => ⟨[(0, .ptr 0 0), (3, .int .i64 (Int.ofNat a))], [rowc 0 s k tv], 1⟩) (fun k => a ≤ k ∧ k ≤ s.size ∧ numLoop s a k = numLoop s a a) (fun k => s.size - k) (Leads.idx a [] ⟨Nat.le_refl _, ha, rfl⟩ ⟨⟨rfl, rfl, trivial⟩, rfl, Nat.le_of_ble_eq_true rfl⟩) ?_)
  rintro k ⟨hk1, hk2, hk3⟩ Nnext hn _
  have hob : obsP [.le3 (Int.ofNat a) (Int.ofNat k) (bn s)] := ⟨⟨by simp, by simp; omega, by rw [len_eq hN]; simp; omega⟩, trivial⟩
  have hsub : bi .sub .i64 (Int.ofNat k) (Int.ofNat a) = Int.ofNat (k - a) := by rw [isub hN (by simp; omega) (by simp; omega)]; simp; omega
  cbv
  refine op_ hN (call_ (more_spec s k tv) hG [0] rfl rfl rfl rfl rfl ?_)
  intro m hm
  cases m with
  | true =>
    have hlt : k < s.size := by simpa using hm.symm
    have hadd : bi .add .i64 (Int.ofNat k) 1 = Int.ofNat (k + 1) := inext hN (by omega)
    have hob2 : obsP [.le3 (Int.ofNat a) (Int.ofNat (k + 1)) (bn s)] := ⟨⟨by simp, by simp; omega, by rw [len_eq hN]; simp; omega⟩, trivial⟩
    have hbsz2 : (bu s (Int.ofNat a) (Int.ofNat (k + 1))).size < 1000000 := by rw [bu_ hN]; have := subs_size2 s (Int.ofNat a) (Int.ofNat (k + 1)); omega
    have hsubs2 : bu s (Int.ofNat a) (Int.ofNat (k + 1)) = subs s (Int.ofNat a) (Int.ofNat (k + 1)) := by rw [bu_ hN]
    generalize hk1' : k + 1 = j at hadd hob2 hbsz2 hsubs2
    cbv
    refine cond_ hN (fun _ => ?_) (fun h => by simp at h)
    cbv
    simp only [hadd]
    repeat' (first | refine And.intro ?_ ?_ | exact True.intro | (refine ob_ hN hob2 ?_; try cbv))
    all_goals
      refine op_ hN (call_ (num_May_spec (bu s (Int.ofNat a) (Int.ofNat j)) (by omega)) hG [] rfl rfl rfl rfl rfl ?_)
      intro b1 b2 h1 h2
      rw [hsubs2] at h1
      cases b1 with
      | false =>
        cbv
        refine cond_ hN (fun _ => ?_) (fun h => by simp at h)
        cbv
        have hno : numLoop s a a = (k, 0) := by rw [← hk3, numLoop, if_pos hlt, hk1', if_neg (by rw [← h1]; decide)]
        have hbsz : (bu s (Int.ofNat a) (Int.ofNat k)).size < 1000000 := by rw [bu_ hN]; have := subs_size2 s (Int.ofNat a) (Int.ofNat k); omega
        have hsubs : bu s (Int.ofNat a) (Int.ofNat k) = subs s (Int.ofNat a) (Int.ofNat k) := by rw [bu_ hN]
        repeat' (first | refine And.intro ?_ ?_ | exact True.intro | (refine ob_ hN hob ?_; try cbv))
        all_goals
          refine op_ hN (call_ (num_May_spec (bu s (Int.ofNat a) (Int.ofNat k)) (by omega)) hG [] rfl rfl rfl rfl rfl ?_)
          intro b1 b2 h1 h2
          rw [hsubs] at h2
          cases b2 with
          | false =>
            cbv
            refine cond_ hN (fun _ => ?_) (fun h => by simp at h)
            cbv
            refine op_ hN (call_ (bad_spec s k tv) hG [0] rfl rfl rfl rfl rfl ?_)
            cbv
            refine hf _ _ (fin_ [] rfl rfl ((hK k 2 ⟨#[]⟩ ?_).2 (by decide)))
            simp only [numberR, hno]; rw [if_neg (by decide), if_neg (by rw [← h2]; decide)]
          | true =>
            cbv
            refine cond_ hN (fun h => by simp at h) (fun _ => ?_)
            cbv
            repeat' (first | refine And.intro ?_ ?_ | exact True.intro | (refine ob_ hN hob ?_; try cbv))
            all_goals
              refine op_ hN (call_ (hread (bu s (Int.ofNat a) (Int.ofNat k)) hbsz) hG [] rfl rfl rfl rfl rfl ?_)
              intro r e hre
              rw [hsubs] at hre
              have hR : numberR numRead s a = (k, e, r) := by
                simp only [numberR, hno]; rw [if_neg (by decide), if_pos h2.symm, ← hre]
              cbv
              refine cond_ hN (fun h1 => ?_) (fun h1 => ?_)
              · cbv
                refine op_ hN (call_ (fail_spec e (Int.ofNat k)) hG [] rfl rfl rfl rfl rfl ?_)
                cbv
                rw [cne hN] at h1; simp at h1
                exact hf _ _ (fin_ [] rfl rfl ((hK k e r hR.symm).2 h1))
              · cbv
                rw [cne hN] at h1; simp at h1
                exact hf _ _ (fin_ [] rfl rfl ((hK k e r hR.symm).1 h1))
      | true =>
        cbv
        refine cond_ hN (fun h => by simp at h) (fun _ => ?_)
        cbv
        refine cond_ hN (fun h3 => ?_) (fun h3 => ?_)
        · rw [hsub, cge hN] at h3
          simp only [decide_eq_true_eq, decide_eq_false_iff_not, Int.ofNat_eq_natCast, gt_iff_lt, ge_iff_le, Bool.not_eq_true', Bool.not_eq_false', Int.not_lt, Int.not_le] at h3
          have h30 : k - a ≥ 30 := by omega
          cbv
          refine op_ hN (call_ (fail_spec 4 (Int.ofNat k)) hG [] rfl rfl rfl rfl rfl ?_)
          cbv
          have hno : numLoop s a a = (k, 4) := by rw [← hk3, numLoop, if_pos hlt, hk1', if_pos h1.symm, if_pos h30]
          refine hf _ _ (fin_ [] rfl rfl ((hK k 4 ⟨#[]⟩ ?_).2 (by decide)))
          simp only [numberR, hno]; rw [if_pos (by decide)]
        · rw [hsub, cge hN] at h3
          simp only [decide_eq_true_eq, decide_eq_false_iff_not, Int.ofNat_eq_natCast, gt_iff_lt, ge_iff_le, Bool.not_eq_true', Bool.not_eq_false', Int.not_lt, Int.not_le] at h3
          have h30 : ¬ k - a ≥ 30 := by omega
          cbv
          simp only [hadd]
          refine hn _ (Leads.nxt j [] ⟨by omega, by omega, ?_⟩ (by omega) ⟨⟨rfl, rfl, trivial⟩, rfl, Nat.le_of_ble_eq_true rfl⟩)
          rw [← hk3]; conv => rhs; rw [numLoop, if_pos hlt, hk1', if_pos h1.symm, if_neg h30]
  | false =>
    cbv
    refine cond_ hN (fun h => by simp at h) (fun _ => ?_)
    cbv
    have hno : numLoop s a a = (k, 0) := by rw [← hk3, numLoop, if_neg (by simpa using hm.symm)]
    have hbsz : (bu s (Int.ofNat a) (Int.ofNat k)).size < 1000000 := by rw [bu_ hN]; have := subs_size2 s (Int.ofNat a) (Int.ofNat k); omega
    have hsubs : bu s (Int.ofNat a) (Int.ofNat k) = subs s (Int.ofNat a) (Int.ofNat k) := by rw [bu_ hN]
    repeat' (first | refine And.intro ?_ ?_ | exact True.intro | (refine ob_ hN hob ?_; try cbv))
    all_goals
      refine op_ hN (call_ (num_May_spec (bu s (Int.ofNat a) (Int.ofNat k)) (by omega)) hG [] rfl rfl rfl rfl rfl ?_)
      intro b1 b2 h1 h2
      rw [hsubs] at h2
      cases b2 with
      | false =>
        cbv
        refine cond_ hN (fun _ => ?_) (fun h => by simp at h)
        cbv
        refine op_ hN (call_ (bad_spec s k tv) hG [0] rfl rfl rfl rfl rfl ?_)
        cbv
        refine hf _ _ (fin_ [] rfl rfl ((hK k 2 ⟨#[]⟩ ?_).2 (by decide)))
        simp only [numberR, hno]; rw [if_neg (by decide), if_neg (by rw [← h2]; decide)]
      | true =>
        cbv
        refine cond_ hN (fun h => by simp at h) (fun _ => ?_)
        cbv
        repeat' (first | refine And.intro ?_ ?_ | exact True.intro | (refine ob_ hN hob ?_; try cbv))
        all_goals
          refine op_ hN (call_ (hread (bu s (Int.ofNat a) (Int.ofNat k)) hbsz) hG [] rfl rfl rfl rfl rfl ?_)
          intro r e hre
          rw [hsubs] at hre
          have hR : numberR numRead s a = (k, e, r) := by
            simp only [numberR, hno]; rw [if_neg (by decide), if_pos h2.symm, ← hre]
          cbv
          refine cond_ hN (fun h1 => ?_) (fun h1 => ?_)
          · cbv
            refine op_ hN (call_ (fail_spec e (Int.ofNat k)) hG [] rfl rfl rfl rfl rfl ?_)
            cbv
            rw [cne hN] at h1; simp at h1
            exact hf _ _ (fin_ [] rfl rfl ((hK k e r hR.symm).2 h1))
          · cbv
            rw [cne hN] at h1; simp at h1
            exact hf _ _ (fin_ [] rfl rfl ((hK k e r hR.symm).1 h1))
end Hx
