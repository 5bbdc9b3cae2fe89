/-
  Part of a proof.
-/
import Derived.Test.YtlmbbchfaoeebaaGreatDoorW08
set_option linter.unusedVariables false
set_option linter.unusedSimpArgs false
/- row.Row.name, Name: the walks. -/
namespace Hx
open Go Sx Go.Proofs
set_option maxRecDepth 100000
set_option maxHeartbeats 4000000
set_option linter.unusedVariables false
set_option linter.unusedSimpArgs false
variable {GOk : Gl → Prop}
theorem name_spec (s : ByteArray) (a : Nat) (tv : Value) (p : Bool) (hs : s.size < 4611686018427387904) (ha : a ≤ s.size) : Triple (BB Ip GOk) 190 1 1 [.ptr 0 0, .bool p] [rowc 0 s a tv]
    (fun K => ∀ k e, (k, e) = nameGo s a p a → (e = 0 → K (.ret (.str (subs s (Int.ofNat a) (Int.ofNat k)))) [rowc 0 s k tv]) ∧ (e ≠ 0 → K (.pan (flt e (Int.ofNat k))) [rowc 0 s k tv])) := by
  refine triple_of BB_ok (tb := ty) rfl (n0 := 1) (fun _ : Unit => _) pl190 Tryz.call190 Tryz.func190 rfl (by kernel_rfl) (Nat.le_of_ble_eq_true rfl) (by decide) rfl pre_none ?_
  rintro G hG K hK W bi bc bs bk bu bb bo bg bl bp bn be Ncond Nob Nop Nloop Nscope hN Nfin hf _ _
  cbv
  refine loopN_ hN (loop_ hN ty_ok mixed (ι := Nat) (fun k => ⟨[(0, .ptr 0 0), (1, .bool p), (5, .int .i64 (Int.ofNat a))], [rowc 0 s k tv], 1⟩) (fun k => a ≤ k ∧ k ≤ s.size ∧ nameGo s a p k = nameGo s a p a) (fun k => s.size - k) (Leads.idx a [] ⟨Nat.le_refl _, ha, rfl⟩ ⟨⟨rfl, rfl, rfl, trivial⟩, rfl, Nat.le_of_ble_eq_true rfl⟩) ?_)
  intro k hk Nnext hn _
  obtain ⟨hk1, hk2, hk3⟩ := hk
  obtain ⟨l1, hl1⟩ : ∃ l1, localOk (bk ⟨#[97]⟩ (be (bb s (Int.ofNat k)))) = l1 := ⟨_, rfl⟩
  obtain ⟨l2, hl2⟩ : ∃ l2, localOk (be (bb s (Int.ofNat k))) = l2 := ⟨_, rfl⟩
  obtain ⟨m0, hm0⟩ : ∃ m, decide (k < s.size) = m := ⟨_, rfl⟩
  obtain ⟨r0, hr0⟩ : ∃ m, isB s k 46 = m := ⟨_, rfl⟩
  have hC : nameC s a p k = (m0 && ((p || !r0) && (l1 && (bc .gtr (Int.ofNat k) (Int.ofNat a) || l2)))) := by
    rw [← hl1, ← hl2, ← hm0, ← hr0, cgt hN, bk_ hN, be_ hN, bb_ hN]; simp [nameC]
  have hcat : obsP [.cat ⟨#[97]⟩ (be (bb s (Int.ofNat k)))] := by
    refine ⟨?_, trivial⟩
    rw [be_ hN]
    have := encode_size (bb s (Int.ofNat k))
    simp only [Ob.P]
    have h2 : (IntKind.i64.max : Int) = 9223372036854775807 := by decide
    rw [h2]
    have h3 : (⟨#[97]⟩ : ByteArray).size = 1 := rfl
    omega
  have hsub : bi .sub .i64 (Int.ofNat k) (Int.ofNat a) = Int.ofNat (k - a) := by rw [isub hN (by simp; omega) (by simp; omega)]; simp; omega
  have hadd : bi .add .i64 (Int.ofNat k) 1 = Int.ofNat (k + 1) := inext hN (by omega)
  have hob : m0 = true → obsP [.inb (Int.ofNat k) (bn s)] := fun h => ⟨⟨by simp, by rw [len_eq hN]; rw [← hm0] at h; simp at h; simpa using h⟩, trivial⟩
  have hslice : obsP [.le3 (Int.ofNat a) (Int.ofNat k) (bn s)] := ⟨⟨by simp, by simp; omega, by rw [len_eq hN]; simp; omega⟩, trivial⟩
  have next : ∀ s' : St Pd, bc .geq (bi .sub .i64 (Int.ofNat k) (Int.ofNat a)) 16 = false → nameC s a p k = true → s'.cs = [rowc 0 s (k + 1) tv] → eget s'.env 0 = some (.ptr 0 0) → eget s'.env 1 = some (.bool p) → eget s'.env 5 = some (.int .i64 (Int.ofNat a)) → Nnext s' := by
    intro s' h16 hT c1 c2 c3 c4
    rw [hsub, cge hN] at h16
    simp only [decide_eq_true_eq, decide_eq_false_iff_not, Int.ofNat_eq_natCast, gt_iff_lt, ge_iff_le, Bool.not_eq_true', Bool.not_eq_false', Int.not_lt, Int.not_le] at h16
    have h16' : ¬ k - a ≥ 16 := by omega
    have hlt : k < s.size := by have := hT; simp [nameC] at this; exact this.1
    refine hn _ (Leads.nxt (k + 1) [] ⟨by omega, by omega, ?_⟩ (by omega) ⟨⟨c2, c3, c4, trivial⟩, by rw [c1]; rfl, Nat.le_of_ble_eq_true rfl⟩)
    rw [← hk3]; conv => rhs; rw [nameGo, if_pos hT, if_neg h16']
  have fail4 : ∀ cs, bc .geq (bi .sub .i64 (Int.ofNat k) (Int.ofNat a)) 16 = true → nameC s a p k = true → cs = [rowc 0 s k tv] → Nfin (.pan (flt 4 (Int.ofNat k))) cs := by
    rintro _ h16 hT rfl
    rw [hsub, cge hN] at h16
    simp only [decide_eq_true_eq, decide_eq_false_iff_not, Int.ofNat_eq_natCast, gt_iff_lt, ge_iff_le, Bool.not_eq_true', Bool.not_eq_false', Int.not_lt, Int.not_le] at h16
    refine hf _ _ (fin_ [] rfl rfl ((hK k 4 ?_).2 (by decide)))
    rw [← hk3, nameGo, if_pos hT, if_pos (by omega)]
  have fail2 : ∀ cs, bc .eql (Int.ofNat k) (Int.ofNat a) = true → nameC s a p k = false → cs = [rowc 0 s k tv] → Nfin (.pan (flt 2 (Int.ofNat k))) cs := by
    rintro _ h16 hT rfl
    rw [ceq hN] at h16
    simp only [decide_eq_true_eq, decide_eq_false_iff_not, Int.ofNat_eq_natCast, gt_iff_lt, ge_iff_le, Bool.not_eq_true', Bool.not_eq_false', Int.not_lt, Int.not_le] at h16
    refine hf _ _ (fin_ [] rfl rfl ((hK k 2 ?_).2 (by decide)))
    rw [← hk3, nameGo, if_neg (by rw [hT]; decide), if_pos (by omega)]
  have good : ∀ cs, bc .eql (Int.ofNat k) (Int.ofNat a) = false → nameC s a p k = false → cs = [rowc 0 s k tv] → Nfin (.ret (.str (bu s (Int.ofNat a) (Int.ofNat k)))) cs := by
    rintro _ h16 hT rfl
    rw [ceq hN] at h16
    simp only [decide_eq_true_eq, decide_eq_false_iff_not, Int.ofNat_eq_natCast, gt_iff_lt, ge_iff_le, Bool.not_eq_true', Bool.not_eq_false', Int.not_lt, Int.not_le] at h16
    rw [bu_ hN]
    refine hf _ _ (fin_ [] rfl rfl ((hK k 0 ?_).1 rfl))
    rw [← hk3, nameGo, if_neg (by rw [hT]; decide), if_neg (by omega)]
  cbv
  repeat' (first
    | refine And.intro ?_ ?_ | exact True.intro
    | (refine op_ hN (call_ (more_spec s k tv) hG [0] rfl rfl rfl rfl rfl ?_); intro b hb; rw [hm0] at hb; subst hb; try cbv)
    | (refine op_ hN (call_ (is_spec s k tv 46) hG [0] rfl rfl rfl rfl rfl ?_); intro b hb; rw [hr0] at hb; subst hb; cases b <;> try cbv)
    | (refine op_ hN (call_ (local_spec (bk ⟨#[97]⟩ (be (bb s (Int.ofNat k))))) hG [] rfl rfl rfl rfl rfl ?_); intro b hb; rw [hl1] at hb; subst hb; try cbv)
    | (refine op_ hN (call_ (local_spec (be (bb s (Int.ofNat k)))) hG [] rfl rfl rfl rfl rfl ?_); intro b hb; rw [hl2] at hb; subst hb; try cbv)
    | (refine ob_ hN hcat ?_; try cbv)
    | (refine ob_ hN hslice ?_; try cbv)
    | (refine op_ hN (call_ (fail_spec 4 (Int.ofNat k)) hG [] rfl rfl rfl rfl rfl ?_); try cbv)
    | (refine op_ hN (call_ (bad_spec s k tv) hG [0] rfl rfl rfl rfl rfl ?_); try cbv)
    | (refine ob_ hN (hob (by assumption)) ?_; try cbv)
    | (refine cond_ hN (fun _ => ?_) (fun _ => ?_) <;> try cbv))
  all_goals
    try simp only [hadd]
    first
    | contradiction
    | (refine next _ (by assumption) ?_ rfl rfl rfl rfl
       rw [hC]
       simp only [*, Bool.true_and, Bool.and_true, Bool.false_and, Bool.and_false, Bool.true_or, Bool.or_true, Bool.false_or, Bool.or_false, Bool.not_true, Bool.not_false, Bool.false_eq_true, if_true, if_false, reduceCtorEq]
       done)
    | (refine fail4 _ (by assumption) ?_ rfl
       rw [hC]
       simp only [*, Bool.true_and, Bool.and_true, Bool.false_and, Bool.and_false, Bool.true_or, Bool.or_true, Bool.false_or, Bool.or_false, Bool.not_true, Bool.not_false, Bool.false_eq_true, if_true, if_false, reduceCtorEq]
       done)
    | (refine fail2 _ (by assumption) ?_ rfl
       rw [hC]
       simp only [*, Bool.true_and, Bool.and_true, Bool.false_and, Bool.and_false, Bool.true_or, Bool.or_true, Bool.false_or, Bool.or_false, Bool.not_true, Bool.not_false, Bool.false_eq_true, if_true, if_false, reduceCtorEq]
       done)
    | (refine good _ (by assumption) ?_ rfl
       rw [hC]
       simp only [*, Bool.true_and, Bool.and_true, Bool.false_and, Bool.and_false, Bool.true_or, Bool.or_true, Bool.false_or, Bool.or_false, Bool.not_true, Bool.not_false, Bool.false_eq_true, if_true, if_false, reduceCtorEq]
       done)
end Hx
