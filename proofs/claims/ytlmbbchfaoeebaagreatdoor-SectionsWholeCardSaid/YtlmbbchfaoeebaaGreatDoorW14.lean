/-
  Part of a proof.
-/
import Derived.Test.YtlmbbchfaoeebaaGreatDoorW09
set_option linter.unusedVariables false
set_option linter.unusedSimpArgs false
/- row.Row.Number: the walk. -/
namespace Hx
open Go Sx Go.Proofs
set_option maxRecDepth 100000
set_option maxHeartbeats 4000000
set_option linter.unusedVariables false
set_option linter.unusedSimpArgs false
variable {GOk : Gl → Prop}
variable {numRead : ByteArray → ByteArray × Int}
theorem subs_size2 (t : ByteArray) (a k : Int) : (subs t a k).size ≤ t.size := by
  simp only [subs, ByteArray.size_extract]; omega
theorem number_spec (s : ByteArray) (a : Nat) (tv : Value) (hs : s.size < 1000000) (ha : a ≤ s.size)
    (hread : ∀ x : ByteArray, x.size < 1000000 → Triple (BB Ip GOk) 36 0 0 [.str x] [] (fun K => ∀ r e, (r, e) = numRead x → K (.ret (.tuple [.str r, .int .i64 e])) [])) :
    Triple (BB Ip GOk) 185 1 1 [.ptr 0 0] [rowc 0 s a tv]
    (fun K => ∀ k e r, (k, e, r) = numberR numRead s a → (e = 0 → K (.ret (.str r)) [rowc 0 s k tv]) ∧ (e ≠ 0 → K (.pan (flt e (Int.ofNat k))) [rowc 0 s k tv])) := by
  refine triple_of BB_ok (tb := ty) rfl (n0 := 1) (fun _ : Unit => _) pl185 Tryz.call185 Tryz.func185 rfl (by kernel_rfl) (Nat.le_of_ble_eq_true rfl) (by decide) rfl pre_none ?_
  rintro G hG K hK W bi bc bs bk bu bb bo bg bl bp bn be Ncond Nob Nop Nloop Nscope hN Nfin hf _ _
  cbv
  refine loopN_ hN (loop_ hN ty_ok mixed (ι := Nat) (fun k => ⟨[(0, .ptr 0 0), (3, .int .i64 (Int.ofNat a))], [rowc 0 s k tv], 1⟩) (fun k => a ≤ k ∧ k ≤ s.size ∧ numLoop s a k = numLoop s a a) (fun k => s.size - k) (Leads.idx a [] ⟨Nat.le_refl _, ha, rfl⟩ ⟨⟨rfl, rfl, trivial⟩, rfl, Nat.le_of_ble_eq_true rfl⟩) ?_)
  rintro k ⟨hk1, hk2, hk3⟩ Nnext hn _
  have hob : obsP [.le3 (Int.ofNat a) (Int.ofNat k) (bn s)] := ⟨⟨by simp, by simp; omega, by rw [len_eq hN]; simp; omega⟩, trivial⟩
  have hsub : bi .sub .i64 (Int.ofNat k) (Int.ofNat a) = Int.ofNat (k - a) := by rw [isub hN (by simp; omega) (by simp; omega)]; simp; omega
  cbv
  refine op_ hN (call_ (more_spec s k tv) hG [0] rfl rfl rfl rfl rfl ?_)
  intro m hm
  cases m with
  | true =>
    have hlt : k < s.size := by simpa using hm.symm
    have hadd : bi .add .i64 (Int.ofNat k) 1 = Int.ofNat (k + 1) := inext hN (by omega)
    have hob2 : obsP [.le3 (Int.ofNat a) (Int.ofNat (k + 1)) (bn s)] := ⟨⟨by simp, by simp; omega, by rw [len_eq hN]; simp; omega⟩, trivial⟩
    have hbsz2 : (bu s (Int.ofNat a) (Int.ofNat (k + 1))).size < 1000000 := by rw [bu_ hN]; have := subs_size2 s (Int.ofNat a) (Int.ofNat (k + 1)); omega
    have hsubs2 : bu s (Int.ofNat a) (Int.ofNat (k + 1)) = subs s (Int.ofNat a) (Int.ofNat (k + 1)) := by rw [bu_ hN]
    generalize hk1' : k + 1 = j at hadd hob2 hbsz2 hsubs2
    cbv
    refine cond_ hN (fun _ => ?_) (fun h => by simp at h)
    cbv
    simp only [hadd]
    repeat' (first | refine And.intro ?_ ?_ | exact True.intro | (refine ob_ hN hob2 ?_; try cbv))
    all_goals
      refine op_ hN (call_ (num_May_spec (bu s (Int.ofNat a) (Int.ofNat j)) (by omega)) hG [] rfl rfl rfl rfl rfl ?_)
      intro b1 b2 h1 h2
      rw [hsubs2] at h1
      cases b1 with
      | false =>
        cbv
        refine cond_ hN (fun _ => ?_) (fun h => by simp at h)
        cbv
        have hno : numLoop s a a = (k, 0) := by rw [← hk3, numLoop, if_pos hlt, hk1', if_neg (by rw [← h1]; decide)]
        have hbsz : (bu s (Int.ofNat a) (Int.ofNat k)).size < 1000000 := by rw [bu_ hN]; have := subs_size2 s (Int.ofNat a) (Int.ofNat k); omega
        have hsubs : bu s (Int.ofNat a) (Int.ofNat k) = subs s (Int.ofNat a) (Int.ofNat k) := by rw [bu_ hN]
        repeat' (first | refine And.intro ?_ ?_ | exact True.intro | (refine ob_ hN hob ?_; try cbv))
        all_goals
          refine op_ hN (call_ (num_May_spec (bu s (Int.ofNat a) (Int.ofNat k)) (by omega)) hG [] rfl rfl rfl rfl rfl ?_)
          intro b1 b2 h1 h2
          rw [hsubs] at h2
          cases b2 with
          | false =>
            cbv
            refine cond_ hN (fun _ => ?_) (fun h => by simp at h)
            cbv
            refine op_ hN (call_ (bad_spec s k tv) hG [0] rfl rfl rfl rfl rfl ?_)
            cbv
            refine hf _ _ (fin_ [] rfl rfl ((hK k 2 ⟨#[]⟩ ?_).2 (by decide)))
            simp only [numberR, hno]; rw [if_neg (by decide), if_neg (by rw [← h2]; decide)]
          | true =>
            cbv
            refine cond_ hN (fun h => by simp at h) (fun _ => ?_)
            cbv
            repeat' (first | refine And.intro ?_ ?_ | exact True.intro | (refine ob_ hN hob ?_; try cbv))
            all_goals
              refine op_ hN (call_ (hread (bu s (Int.ofNat a) (Int.ofNat k)) hbsz) hG [] rfl rfl rfl rfl rfl ?_)
              intro r e hre
              rw [hsubs] at hre
              have hR : numberR numRead s a = (k, e, r) := by
                simp only [numberR, hno]; rw [if_neg (by decide), if_pos h2.symm, ← hre]
              cbv
              refine cond_ hN (fun h1 => ?_) (fun h1 => ?_)
              · cbv
                refine op_ hN (call_ (fail_spec e (Int.ofNat k)) hG [] rfl rfl rfl rfl rfl ?_)
                cbv
                rw [cne hN] at h1; simp at h1
                exact hf _ _ (fin_ [] rfl rfl ((hK k e r hR.symm).2 h1))
              · cbv
                rw [cne hN] at h1; simp at h1
                exact hf _ _ (fin_ [] rfl rfl ((hK k e r hR.symm).1 h1))
      | true =>
        cbv
        refine cond_ hN (fun h => by simp at h) (fun _ => ?_)
        cbv
        refine cond_ hN (fun h3 => ?_) (fun h3 => ?_)
        · rw [hsub, cge hN] at h3
          simp only [decide_eq_true_eq, decide_eq_false_iff_not, Int.ofNat_eq_natCast, gt_iff_lt, ge_iff_le, Bool.not_eq_true', Bool.not_eq_false', Int.not_lt, Int.not_le] at h3
          have h30 : k - a ≥ 30 := by omega
          cbv
          refine op_ hN (call_ (fail_spec 4 (Int.ofNat k)) hG [] rfl rfl rfl rfl rfl ?_)
          cbv
          have hno : numLoop s a a = (k, 4) := by rw [← hk3, numLoop, if_pos hlt, hk1', if_pos h1.symm, if_pos h30]
          refine hf _ _ (fin_ [] rfl rfl ((hK k 4 ⟨#[]⟩ ?_).2 (by decide)))
          simp only [numberR, hno]; rw [if_pos (by decide)]
        · rw [hsub, cge hN] at h3
          simp only [decide_eq_true_eq, decide_eq_false_iff_not, Int.ofNat_eq_natCast, gt_iff_lt, ge_iff_le, Bool.not_eq_true', Bool.not_eq_false', Int.not_lt, Int.not_le] at h3
          have h30 : ¬ k - a ≥ 30 := by omega
          cbv
          simp only [hadd]
          refine hn _ (Leads.nxt j [] ⟨by omega, by omega, ?_⟩ (by omega) ⟨⟨rfl, rfl, trivial⟩, rfl, Nat.le_of_ble_eq_true rfl⟩)
          rw [← hk3]; conv => rhs; rw [numLoop, if_pos hlt, hk1', if_pos h1.symm, if_neg h30]
  | false =>
    cbv
    refine cond_ hN (fun h => by simp at h) (fun _ => ?_)
    cbv
    have hno : numLoop s a a = (k, 0) := by rw [← hk3, numLoop, if_neg (by simpa using hm.symm)]
    have hbsz : (bu s (Int.ofNat a) (Int.ofNat k)).size < 1000000 := by rw [bu_ hN]; have := subs_size2 s (Int.ofNat a) (Int.ofNat k); omega
    have hsubs : bu s (Int.ofNat a) (Int.ofNat k) = subs s (Int.ofNat a) (Int.ofNat k) := by rw [bu_ hN]
    repeat' (first | refine And.intro ?_ ?_ | exact True.intro | (refine ob_ hN hob ?_; try cbv))
    all_goals
      refine op_ hN (call_ (num_May_spec (bu s (Int.ofNat a) (Int.ofNat k)) (by omega)) hG [] rfl rfl rfl rfl rfl ?_)
      intro b1 b2 h1 h2
      rw [hsubs] at h2
      cases b2 with
      | false =>
        cbv
        refine cond_ hN (fun _ => ?_) (fun h => by simp at h)
        cbv
        refine op_ hN (call_ (bad_spec s k tv) hG [0] rfl rfl rfl rfl rfl ?_)
        cbv
        refine hf _ _ (fin_ [] rfl rfl ((hK k 2 ⟨#[]⟩ ?_).2 (by decide)))
        simp only [numberR, hno]; rw [if_neg (by decide), if_neg (by rw [← h2]; decide)]
      | true =>
        cbv
        refine cond_ hN (fun h => by simp at h) (fun _ => ?_)
        cbv
        repeat' (first | refine And.intro ?_ ?_ | exact True.intro | (refine ob_ hN hob ?_; try cbv))
        all_goals
          refine op_ hN (call_ (hread (bu s (Int.ofNat a) (Int.ofNat k)) hbsz) hG [] rfl rfl rfl rfl rfl ?_)
          intro r e hre
          rw [hsubs] at hre
          have hR : numberR numRead s a = (k, e, r) := by
            simp only [numberR, hno]; rw [if_neg (by decide), if_pos h2.symm, ← hre]
          cbv
          refine cond_ hN (fun h1 => ?_) (fun h1 => ?_)
          · cbv
            refine op_ hN (call_ (fail_spec e (Int.ofNat k)) hG [] rfl rfl rfl rfl rfl ?_)
            cbv
            rw [cne hN] at h1; simp at h1
            exact hf _ _ (fin_ [] rfl rfl ((hK k e r hR.symm).2 h1))
          · cbv
            rw [cne hN] at h1; simp at h1
            exact hf _ _ (fin_ [] rfl rfl ((hK k e r hR.symm).1 h1))
end Hx
/- row.Row.Scalar: the walk. -/
namespace Hx
open Go Sx Go.Proofs
set_option maxRecDepth 100000
set_option maxHeartbeats 4000000
set_option linter.unusedVariables false
set_option linter.unusedSimpArgs false
variable {GOk : Gl → Prop}
variable {numRead : ByteArray → ByteArray × Int}
def PostB {M : Type} (pd : M → Bool → Pd) (tv td fs : Nat) (t : ByteArray) (a g : Nat) (K : Out → List (Chunk Pd) → Prop) : Res (Option Nat) × OS M → Prop
  | (.ok (some k), s) => K (.ret (.bool true)) (rc pd tv td fs s t k g)
  | (.ok none, s) => K (.ret (.bool false)) (rc pd tv td fs s t a g)
  | (.err e at_, s) => K (.pan (flt e at_)) (oc pd tv td s)
  | (.ovf, _) => False
theorem wordGo_le (s : ByteArray) : ∀ (l : List UInt8) (k : Nat), k ≤ s.size → (wordGo s l k).1 ≤ s.size
  | [], k, h => h
  | b :: r, k, h => by
    simp only [wordGo]; split
    · rename_i hi; exact wordGo_le s r (k + 1) (isB_lt hi)
    · exact h
theorem numLoop_le (s : ByteArray) (f : Nat) : ∀ (n k : Nat), s.size - k ≤ n → k ≤ s.size → (numLoop s f k).1 ≤ s.size := by
  intro n
  induction n with
  | zero => intro k hn h; rw [numLoop, if_neg (by omega)]; exact h
  | succ n ih =>
    intro k hn h
    rw [numLoop]
    split
    · split
      · split
        · exact h
        · exact ih (k + 1) (by omega) (by omega)
      · exact h
    · exact h
theorem numberR_pos (numRead : ByteArray → ByteArray × Int) (t : ByteArray) (a : Nat) (h : a ≤ t.size) : (numberR numRead t a).1 ≤ t.size := by
  have := numLoop_le t a _ a (Nat.le_refl _) h
  unfold numberR; split
  · exact this
  · split <;> exact this
theorem numberR_size (hr : ReadOk GOk numRead) (t : ByteArray) (a : Nat) : (numberR numRead t a).2.2.size < 1099511627776 := by
  unfold numberR; split
  · exact Nat.le_of_ble_eq_true rfl
  · split
    · exact hr.size _
    · exact Nat.le_of_ble_eq_true rfl
theorem scalar_spec {M : Type} {pd : M → Bool → Pd} {tv td fs : Nat} {says : Ev → Int → OM M Unit} (hsy : SaysOk GOk pd tv td fs says) (hr : ReadOk GOk numRead) (s : OS M) (t : ByteArray) (a g : Nat) (nl : Bool) (ht : t.size < 1000000) (ha : a ≤ t.size) : Triple (BB Ip GOk) 182 3 3 [.ptr 2 0, .bool nl] (rc pd tv td fs s t a g)
    (fun K => PostB pd tv td fs t a g K (scalM numRead says t a nl s)) := by
  obtain ⟨m0, core⟩ := s
  refine triple_of BB_ok (tb := ty) rfl (n0 := 3) (fun _ : Unit => _) pl182 Tryz.call182 Tryz.func182 rfl (by kernel_rfl) (Nat.le_of_ble_eq_true rfl) (by decide) rfl pre_none ?_
  rintro G hG K hK W bi bc bs bk bu bb bo bg bl bp bn be Ncond Nob Nop Nloop Nscope hN Nfin hf _ _
  cbv
  refine op_ hN (call_ (more_spec t a (tellV fs g)) hG [2] rfl rfl rfl rfl rfl ?_)
  intro m hm
  cases m with
  | false =>
    have hM : scalM numRead says t a nl ⟨m0, core⟩ = (.ok none, ⟨m0, core⟩) := by
      simp only [scalM, scalarR]; rw [if_neg (by simpa using hm.symm)]; rfl
    rw [hM] at hK
    cbv
    refine cond_ hN (fun _ => ?_) (fun h => by simp at h)
    cbv
    exact hf _ _ (fin_as (.bool false) (fun _ => rfl) (fin_ [] rfl rfl hK))
  | true =>
    have hlt : a < t.size := by simpa using hm.symm
    clear hm
    have hob : obsP [.inb (Int.ofNat a) (bn t)] := ⟨⟨by simp, by rw [len_eq hN]; simp; exact hlt⟩, trivial⟩
    have hsc : scalarR numRead t a nl = (if bc .eql (bb t (Int.ofNat a)) 34 then some ((quotR t a).1, (quotR t a).2.1, ⟨4, bytesOf (quotR t a).2.2, ⟨#[]⟩⟩)
      else if bc .eql (bb t (Int.ofNat a)) 45 || (bc .geq (bb t (Int.ofNat a)) 48 && bc .leq (bb t (Int.ofNat a)) 57) then some ((numberR numRead t a).1, (numberR numRead t a).2.1, ⟨3, (numberR numRead t a).2.2, ⟨#[]⟩⟩)
      else if bc .eql (bb t (Int.ofNat a)) 110 && nl then some ((wordGo t wNull.data.toList a).1, if (wordGo t wNull.data.toList a).2 then 0 else 2, ev0 1)
      else if bc .eql (bb t (Int.ofNat a)) 116 then some ((wordGo t wTrue.data.toList a).1, if (wordGo t wTrue.data.toList a).2 then 0 else 2, ⟨2, wTrue, ⟨#[]⟩⟩)
      else if bc .eql (bb t (Int.ofNat a)) 102 then some ((wordGo t wFalse.data.toList a).1, if (wordGo t wFalse.data.toList a).2 then 0 else 2, ⟨2, wFalse, ⟨#[]⟩⟩)
      else none) := by
      simp only [scalarR]; rw [if_pos hlt, bb_ hN]; simp only [ceq hN, cge hN, cle hN, decide_eq_true_eq, Bool.or_eq_true, Bool.and_eq_true]
    cbv
    refine cond_ hN (fun h => by simp at h) (fun _ => ?_)
    cbv
    repeat' (first | refine And.intro ?_ ?_ | exact True.intro | (refine ob_ hN hob ?_; try cbv))
    all_goals
      repeat' (first | exact True.intro | with_reducible refine dup ?_ | refine And.intro ?_ ?_ | (refine cond_ hN (fun _ => ?_) (fun _ => ?_) <;> try cbv))
    all_goals first
      | contradiction
      | (refine op_ hN (call_ (quoted_spec t a (tellV fs g) (by omega)) hG [2] rfl rfl rfl rfl rfl ?_)
         intro k e l hq
         have h1 : (quotR t a).1 = k := by rw [← hq]
         have h2 : (quotR t a).2.1 = e := by rw [← hq]
         have h3 : (quotR t a).2.2 = l := by rw [← hq]
         have h48 := quotR_le t a
         have hkp1 := quotR_pos t a ha
         rw [h3] at h48
         rw [h1] at hkp1
         refine ⟨fun he key hkey => ?_, fun he => ?_⟩
         · have hsz : key.size < 1099511627776 := by have : key.size = l.length := by rw [← hkey, Array.length_toList]; rfl
                                                     omega
           have hS : scalarR numRead t a nl = some (k, 0, ⟨4, key, ⟨#[]⟩⟩) := by rw [hsc, h1, h2, h3, ← bytes_eq hkey, he]; simp only [*, Bool.true_and, Bool.and_true, Bool.false_and, Bool.and_false, Bool.true_or, Bool.or_true, Bool.false_or, Bool.or_false, Bool.not_true, Bool.not_false, Bool.false_eq_true, if_true, if_false, reduceCtorEq]
           have hkp : k ≤ t.size := hkp1
           have hsub : bi .sub .i64 (Int.ofNat k) 1 = Int.ofNat k - 1 := by rw [isub hN (by simp; omega) (by simp; omega)]
           have hM : scalM numRead says t a nl ⟨m0, core⟩ = OM.bind (says ⟨4, key, ⟨#[]⟩⟩ (Int.ofNat k - 1)) (fun _ => OM.ret (some k)) ⟨m0, core⟩ := by
             simp only [scalM, hS]; rw [if_neg (by decide)]
           rw [hM] at hK
           obtain ⟨kk, hkk⟩ : ∃ x, Int.ofNat k - 1 = x := ⟨_, rfl⟩
           rw [hkk] at hsub hK
           rw [OM.bind] at hK
           cbv
           simp only [hsub]
           repeat' (first | refine And.intro ?_ ?_ | exact True.intro)
           all_goals
             refine op_ hN (op_vals (vals' := [.fn (.func fs) [.ptr 0 0] [], .agg [.int .i64 (⟨4, key, ⟨#[]⟩⟩ : Ev).kind, .str (⟨4, key, ⟨#[]⟩⟩ : Ev).text, .str (⟨4, key, ⟨#[]⟩⟩ : Ev).val], .int .i64 kk]) (fun ρ F w hs => ?_) (call_ (hsy ⟨m0, core⟩ ⟨4, key, ⟨#[]⟩⟩ kk ⟨hsz, Nat.le_of_ble_eq_true rfl, by simp, by simp⟩) hG [0, 1] rfl rfl rfl rfl rfl ?_))
             · have h0 := hs.at_ (j := 0) (g := g) (by simp)
               simp [SV.denL, SV.den, tellV, h0, ev0, wTrue, wFalse]
             · generalize says ⟨4, key, ⟨#[]⟩⟩ kk ⟨m0, core⟩ = y at hK ⊢
               obtain ⟨r, s'⟩ := y
               cases r with
               | err e a => cbv; exact hf _ _ (fin_ [] rfl rfl hK)
               | ovf => exact hK.elim
               | ok a2 => cbv; exact hf _ _ (fin_as (.bool true) (fun _ => rfl) (fin_ [] rfl rfl hK))
         · have hS : scalarR numRead t a nl = some (k, e, ⟨4, bytesOf l, ⟨#[]⟩⟩) := by rw [hsc, h1, h2, h3]; simp only [*, Bool.true_and, Bool.and_true, Bool.false_and, Bool.and_false, Bool.true_or, Bool.or_true, Bool.false_or, Bool.or_false, Bool.not_true, Bool.not_false, Bool.false_eq_true, if_true, if_false, reduceCtorEq]
           have hM : scalM numRead says t a nl ⟨m0, core⟩ = (.err e (Int.ofNat k), ⟨m0, core⟩) := by
             simp only [scalM, hS]; rw [if_pos he]; rfl
           rw [hM] at hK
           cbv
           exact hf _ _ (fin_ [] rfl rfl hK))
      | (refine op_ hN (call_ (number_spec t a (tellV fs g) ht ha hr.read) hG [2] rfl rfl rfl rfl rfl ?_)
         intro k e r hq
         have h1 : (numberR numRead t a).1 = k := by rw [← hq]
         have h2 : (numberR numRead t a).2.1 = e := by rw [← hq]
         have h3 : (numberR numRead t a).2.2 = r := by rw [← hq]
         have hkp1 := numberR_pos numRead t a ha
         have hsz := numberR_size hr t a
         rw [h3] at hsz
         rw [h1] at hkp1
         refine ⟨fun he => ?_, fun he => ?_⟩
         · have hS : scalarR numRead t a nl = some (k, 0, ⟨3, r, ⟨#[]⟩⟩) := by rw [hsc, h1, h2, h3, he]; simp only [*, Bool.true_and, Bool.and_true, Bool.false_and, Bool.and_false, Bool.true_or, Bool.or_true, Bool.false_or, Bool.or_false, Bool.not_true, Bool.not_false, Bool.false_eq_true, if_true, if_false, reduceCtorEq]
           have hkp : k ≤ t.size := hkp1
           have hsub : bi .sub .i64 (Int.ofNat k) 1 = Int.ofNat k - 1 := by rw [isub hN (by simp; omega) (by simp; omega)]
           have hM : scalM numRead says t a nl ⟨m0, core⟩ = OM.bind (says ⟨3, r, ⟨#[]⟩⟩ (Int.ofNat k - 1)) (fun _ => OM.ret (some k)) ⟨m0, core⟩ := by
             simp only [scalM, hS]; rw [if_neg (by decide)]
           rw [hM] at hK
           obtain ⟨kk, hkk⟩ : ∃ x, Int.ofNat k - 1 = x := ⟨_, rfl⟩
           rw [hkk] at hsub hK
           rw [OM.bind] at hK
           cbv
           simp only [hsub]
           repeat' (first | refine And.intro ?_ ?_ | exact True.intro)
           all_goals
             refine op_ hN (op_vals (vals' := [.fn (.func fs) [.ptr 0 0] [], .agg [.int .i64 (⟨3, r, ⟨#[]⟩⟩ : Ev).kind, .str (⟨3, r, ⟨#[]⟩⟩ : Ev).text, .str (⟨3, r, ⟨#[]⟩⟩ : Ev).val], .int .i64 kk]) (fun ρ F w hs => ?_) (call_ (hsy ⟨m0, core⟩ ⟨3, r, ⟨#[]⟩⟩ kk ⟨hsz, Nat.le_of_ble_eq_true rfl, by simp, by simp⟩) hG [0, 1] rfl rfl rfl rfl rfl ?_))
             · have h0 := hs.at_ (j := 0) (g := g) (by simp)
               simp [SV.denL, SV.den, tellV, h0, ev0, wTrue, wFalse]
             · generalize says ⟨3, r, ⟨#[]⟩⟩ kk ⟨m0, core⟩ = y at hK ⊢
               obtain ⟨r, s'⟩ := y
               cases r with
               | err e a => cbv; exact hf _ _ (fin_ [] rfl rfl hK)
               | ovf => exact hK.elim
               | ok a2 => cbv; exact hf _ _ (fin_as (.bool true) (fun _ => rfl) (fin_ [] rfl rfl hK))
         · have hS : scalarR numRead t a nl = some (k, e, ⟨3, r, ⟨#[]⟩⟩) := by rw [hsc, h1, h2, h3]; simp only [*, Bool.true_and, Bool.and_true, Bool.false_and, Bool.and_false, Bool.true_or, Bool.or_true, Bool.false_or, Bool.or_false, Bool.not_true, Bool.not_false, Bool.false_eq_true, if_true, if_false, reduceCtorEq]
           have hM : scalM numRead says t a nl ⟨m0, core⟩ = (.err e (Int.ofNat k), ⟨m0, core⟩) := by
             simp only [scalM, hS]; rw [if_pos he]; rfl
           rw [hM] at hK
           cbv
           exact hf _ _ (fin_ [] rfl rfl hK))
      | (refine op_ hN (call_ (word_spec t wNull a (tellV fs g) (by omega) (Nat.le_of_ble_eq_true rfl)) hG [2] rfl rfl rfl rfl rfl ?_)
         intro k okw hw
         have h1 : (wordGo t wNull.data.toList a).1 = k := by rw [← hw]
         have h2 : (wordGo t wNull.data.toList a).2 = okw := by rw [← hw]
         have hS : scalarR numRead t a nl = some (k, if okw then 0 else 2, ev0 1) := by rw [hsc, h1, h2]; simp only [*, Bool.true_and, Bool.and_true, Bool.false_and, Bool.and_false, Bool.true_or, Bool.or_true, Bool.false_or, Bool.or_false, Bool.not_true, Bool.not_false, Bool.false_eq_true, if_true, if_false, reduceCtorEq]
         refine ⟨fun he => ?_, fun he => ?_⟩
         · rw [he] at hS
           have hkp : k ≤ t.size := h1 ▸ wordGo_le t wNull.data.toList a ha
           have hsub : bi .sub .i64 (Int.ofNat k) 1 = Int.ofNat k - 1 := by rw [isub hN (by simp; omega) (by simp; omega)]
           have hM : scalM numRead says t a nl ⟨m0, core⟩ = OM.bind (says (ev0 1) (Int.ofNat k - 1)) (fun _ => OM.ret (some k)) ⟨m0, core⟩ := by
             simp only [scalM, hS]; rw [if_neg (by decide)]
           rw [hM] at hK
           obtain ⟨kk, hkk⟩ : ∃ x, Int.ofNat k - 1 = x := ⟨_, rfl⟩
           rw [hkk] at hsub hK
           rw [OM.bind] at hK
           cbv
           simp only [hsub]
           repeat' (first | refine And.intro ?_ ?_ | exact True.intro)
           all_goals
             refine op_ hN (op_vals (vals' := [.fn (.func fs) [.ptr 0 0] [], .agg [.int .i64 (ev0 1).kind, .str (ev0 1).text, .str (ev0 1).val], .int .i64 kk]) (fun ρ F w hs => ?_) (call_ (hsy ⟨m0, core⟩ (ev0 1) kk (okE0 1 (by decide) (by decide))) hG [0, 1] rfl rfl rfl rfl rfl ?_))
             · have h0 := hs.at_ (j := 0) (g := g) (by simp)
               simp [SV.denL, SV.den, tellV, h0, ev0, wTrue, wFalse]
             · generalize says (ev0 1) kk ⟨m0, core⟩ = y at hK ⊢
               obtain ⟨r, s'⟩ := y
               cases r with
               | err e a => cbv; exact hf _ _ (fin_ [] rfl rfl hK)
               | ovf => exact hK.elim
               | ok a2 => cbv; exact hf _ _ (fin_as (.bool true) (fun _ => rfl) (fin_ [] rfl rfl hK))
         · rw [he] at hS
           have hM : scalM numRead says t a nl ⟨m0, core⟩ = (.err 2 (Int.ofNat k), ⟨m0, core⟩) := by
             simp only [scalM, hS]; rfl
           rw [hM] at hK
           cbv
           exact hf _ _ (fin_ [] rfl rfl hK))
      | (refine op_ hN (call_ (word_spec t wTrue a (tellV fs g) (by omega) (Nat.le_of_ble_eq_true rfl)) hG [2] rfl rfl rfl rfl rfl ?_)
         intro k okw hw
         have h1 : (wordGo t wTrue.data.toList a).1 = k := by rw [← hw]
         have h2 : (wordGo t wTrue.data.toList a).2 = okw := by rw [← hw]
         have hS : scalarR numRead t a nl = some (k, if okw then 0 else 2, ⟨2, wTrue, ⟨#[]⟩⟩) := by rw [hsc, h1, h2]; simp only [*, Bool.true_and, Bool.and_true, Bool.false_and, Bool.and_false, Bool.true_or, Bool.or_true, Bool.false_or, Bool.or_false, Bool.not_true, Bool.not_false, Bool.false_eq_true, if_true, if_false, reduceCtorEq]
         refine ⟨fun he => ?_, fun he => ?_⟩
         · rw [he] at hS
           have hkp : k ≤ t.size := h1 ▸ wordGo_le t wTrue.data.toList a ha
           have hsub : bi .sub .i64 (Int.ofNat k) 1 = Int.ofNat k - 1 := by rw [isub hN (by simp; omega) (by simp; omega)]
           have hM : scalM numRead says t a nl ⟨m0, core⟩ = OM.bind (says ⟨2, wTrue, ⟨#[]⟩⟩ (Int.ofNat k - 1)) (fun _ => OM.ret (some k)) ⟨m0, core⟩ := by
             simp only [scalM, hS]; rw [if_neg (by decide)]
           rw [hM] at hK
           obtain ⟨kk, hkk⟩ : ∃ x, Int.ofNat k - 1 = x := ⟨_, rfl⟩
           rw [hkk] at hsub hK
           rw [OM.bind] at hK
           cbv
           simp only [hsub]
           repeat' (first | refine And.intro ?_ ?_ | exact True.intro)
           all_goals
             refine op_ hN (op_vals (vals' := [.fn (.func fs) [.ptr 0 0] [], .agg [.int .i64 (⟨2, wTrue, ⟨#[]⟩⟩ : Ev).kind, .str (⟨2, wTrue, ⟨#[]⟩⟩ : Ev).text, .str (⟨2, wTrue, ⟨#[]⟩⟩ : Ev).val], .int .i64 kk]) (fun ρ F w hs => ?_) (call_ (hsy ⟨m0, core⟩ ⟨2, wTrue, ⟨#[]⟩⟩ kk ⟨Nat.le_of_ble_eq_true rfl, Nat.le_of_ble_eq_true rfl, by simp, by simp⟩) hG [0, 1] rfl rfl rfl rfl rfl ?_))
             · have h0 := hs.at_ (j := 0) (g := g) (by simp)
               simp [SV.denL, SV.den, tellV, h0, ev0, wTrue, wFalse]
             · generalize says ⟨2, wTrue, ⟨#[]⟩⟩ kk ⟨m0, core⟩ = y at hK ⊢
               obtain ⟨r, s'⟩ := y
               cases r with
               | err e a => cbv; exact hf _ _ (fin_ [] rfl rfl hK)
               | ovf => exact hK.elim
               | ok a2 => cbv; exact hf _ _ (fin_as (.bool true) (fun _ => rfl) (fin_ [] rfl rfl hK))
         · rw [he] at hS
           have hM : scalM numRead says t a nl ⟨m0, core⟩ = (.err 2 (Int.ofNat k), ⟨m0, core⟩) := by
             simp only [scalM, hS]; rfl
           rw [hM] at hK
           cbv
           exact hf _ _ (fin_ [] rfl rfl hK))
      | (refine op_ hN (call_ (word_spec t wFalse a (tellV fs g) (by omega) (Nat.le_of_ble_eq_true rfl)) hG [2] rfl rfl rfl rfl rfl ?_)
         intro k okw hw
         have h1 : (wordGo t wFalse.data.toList a).1 = k := by rw [← hw]
         have h2 : (wordGo t wFalse.data.toList a).2 = okw := by rw [← hw]
         have hS : scalarR numRead t a nl = some (k, if okw then 0 else 2, ⟨2, wFalse, ⟨#[]⟩⟩) := by rw [hsc, h1, h2]; simp only [*, Bool.true_and, Bool.and_true, Bool.false_and, Bool.and_false, Bool.true_or, Bool.or_true, Bool.false_or, Bool.or_false, Bool.not_true, Bool.not_false, Bool.false_eq_true, if_true, if_false, reduceCtorEq]
         refine ⟨fun he => ?_, fun he => ?_⟩
         · rw [he] at hS
           have hkp : k ≤ t.size := h1 ▸ wordGo_le t wFalse.data.toList a ha
           have hsub : bi .sub .i64 (Int.ofNat k) 1 = Int.ofNat k - 1 := by rw [isub hN (by simp; omega) (by simp; omega)]
           have hM : scalM numRead says t a nl ⟨m0, core⟩ = OM.bind (says ⟨2, wFalse, ⟨#[]⟩⟩ (Int.ofNat k - 1)) (fun _ => OM.ret (some k)) ⟨m0, core⟩ := by
             simp only [scalM, hS]; rw [if_neg (by decide)]
           rw [hM] at hK
           obtain ⟨kk, hkk⟩ : ∃ x, Int.ofNat k - 1 = x := ⟨_, rfl⟩
           rw [hkk] at hsub hK
           rw [OM.bind] at hK
           cbv
           simp only [hsub]
           repeat' (first | refine And.intro ?_ ?_ | exact True.intro)
           all_goals
             refine op_ hN (op_vals (vals' := [.fn (.func fs) [.ptr 0 0] [], .agg [.int .i64 (⟨2, wFalse, ⟨#[]⟩⟩ : Ev).kind, .str (⟨2, wFalse, ⟨#[]⟩⟩ : Ev).text, .str (⟨2, wFalse, ⟨#[]⟩⟩ : Ev).val], .int .i64 kk]) (fun ρ F w hs => ?_) (call_ (hsy ⟨m0, core⟩ ⟨2, wFalse, ⟨#[]⟩⟩ kk ⟨Nat.le_of_ble_eq_true rfl, Nat.le_of_ble_eq_true rfl, by simp, by simp⟩) hG [0, 1] rfl rfl rfl rfl rfl ?_))
             · have h0 := hs.at_ (j := 0) (g := g) (by simp)
               simp [SV.denL, SV.den, tellV, h0, ev0, wTrue, wFalse]
             · generalize says ⟨2, wFalse, ⟨#[]⟩⟩ kk ⟨m0, core⟩ = y at hK ⊢
               obtain ⟨r, s'⟩ := y
               cases r with
               | err e a => cbv; exact hf _ _ (fin_ [] rfl rfl hK)
               | ovf => exact hK.elim
               | ok a2 => cbv; exact hf _ _ (fin_as (.bool true) (fun _ => rfl) (fin_ [] rfl rfl hK))
         · rw [he] at hS
           have hM : scalM numRead says t a nl ⟨m0, core⟩ = (.err 2 (Int.ofNat k), ⟨m0, core⟩) := by
             simp only [scalM, hS]; rfl
           rw [hM] at hK
           cbv
           exact hf _ _ (fin_ [] rfl rfl hK))
      | (have hS : scalarR numRead t a nl = none := by rw [hsc]; simp only [*, Bool.true_and, Bool.and_true, Bool.false_and, Bool.and_false, Bool.true_or, Bool.or_true, Bool.false_or, Bool.or_false, Bool.not_true, Bool.not_false, Bool.false_eq_true, if_true, if_false, reduceCtorEq]
         have hM : scalM numRead says t a nl ⟨m0, core⟩ = (.ok none, ⟨m0, core⟩) := by
           simp only [scalM, hS]; rfl
         rw [hM] at hK
         exact hf _ _ (fin_as (.bool false) (fun _ => rfl) (fin_ [] rfl rfl hK)))
end Hx
