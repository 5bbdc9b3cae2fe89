/-
  Part of a proof.
-/
import Derived.Test.YtlmbbchfaoeebaaGreatDoorW09
import Derived.Test.YtlmbbchfaoeebaaGreatDoorW10
import Derived.Test.YtlmbbchfaoeebaaGreatDoorW03
import Derived.Test.YtlmbbchfaoeebaaGreatDoorW11
set_option linter.unusedVariables false
set_option linter.unusedSimpArgs false
/- row.Row.Bare; sections.key, path: the walks. -/
namespace Hx
open Go Sx Go.Proofs
set_option maxRecDepth 100000
set_option maxHeartbeats 4000000
set_option linter.unusedVariables false
set_option linter.unusedSimpArgs false
variable {GOk : Gl → Prop}
theorem Bare_spec (s : ByteArray) (a : Nat) (tv : Value) (hs : s.size < 4611686018427387904) (ha : a ≤ s.size) : Triple (BB Ip GOk) 184 1 1 [.ptr 0 0] [rowc 0 s a tv]
    (fun K => ∀ k e, (k, e) = nameGo s a false a → (e = 0 → K (.ret (.str (subs s (Int.ofNat a) (Int.ofNat k)))) [rowc 0 s k tv]) ∧ (e ≠ 0 → K (.pan (flt e (Int.ofNat k))) [rowc 0 s k tv])) := by
  refine triple_of BB_ok (tb := ty) rfl (n0 := 1) (fun _ : Unit => _) pl184 Tryz.call184 Tryz.func184 rfl (by kernel_rfl) (Nat.le_of_ble_eq_true rfl) (by decide) rfl pre_none ?_
  rintro G hG K hK W bi bc bs bk bu bb bo bg bl bp bn be Ncond Nob Nop Nloop Nscope hN Nfin hf _ _
  cbv
  refine op_ hN (op_vals (vals' := [.fn (.func 190) [] [], .ptr 0 0, .bool false]) (fun _ _ _ _ => rfl) (call_ (name_spec s a tv false hs ha) hG [0] rfl rfl rfl rfl rfl ?_))
  intro k e hke
  refine ⟨fun h0 => ?_, fun h0 => ?_⟩
  · have h1 := (hK k e hke).1 h0
    generalize subs s (Int.ofNat a) (Int.ofNat k) = n at h1 ⊢
    cbv
    exact hf _ _ (fin_ [] rfl rfl h1)
  · cbv
    exact hf _ _ (fin_ [] rfl rfl ((hK k e hke).2 h0))
theorem key_spec (s : ByteArray) (a : Nat) (tv : Value) (hs : s.size < 4611686018427387904) (ha : a ≤ s.size) : Triple (BB Ip GOk) 180 1 1 [.ptr 0 0] [rowc 0 s a tv]
    (fun K => ∀ k e key, (k, e, key) = keyR s a → (e = 0 → K (.ret (.str key)) [rowc 0 s k tv]) ∧ (e ≠ 0 → K (.pan (flt e (Int.ofNat k))) [rowc 0 s k tv])) := by
  refine triple_of BB_ok (tb := ty) rfl (n0 := 1) (fun _ : Unit => _) pl180 Tryz.call180 Tryz.func180 rfl (by kernel_rfl) (Nat.le_of_ble_eq_true rfl) (by decide) rfl pre_none ?_
  rintro G hG K hK W bi bc bs bk bu bb bo bg bl bp bn be Ncond Nob Nop Nloop Nscope hN Nfin hf _ _
  cbv
  refine op_ hN (call_ (is_spec s a tv 34) hG [0] rfl rfl rfl rfl rfl ?_)
  intro m hm
  cases m with
  | true =>
    have hR : keyR s a = ((quotR s a).1, (quotR s a).2.1, bytesOf (quotR s a).2.2) := by unfold keyR; rw [if_pos hm.symm]
    rw [hR] at hK
    cbv
    refine cond_T hN rfl ?_
    cbv
    refine op_ hN (call_ (quoted_spec s a tv hs) hG [0] rfl rfl rfl rfl rfl ?_)
    intro k e l hq
    rw [← hq] at hK
    have h1 := hK k e (bytesOf l) rfl
    refine ⟨fun h0 t ht => ?_, fun h0 => ?_⟩
    · have h2 := h1.1 h0
      rw [← bytes_eq ht] at h2
      cbv
      exact hf _ _ (fin_ [] rfl rfl h2)
    · cbv
      exact hf _ _ (fin_ [] rfl rfl (h1.2 h0))
  | false =>
    have hR : keyR s a = ((nameGo s a false a).1, (nameGo s a false a).2, subs s (Int.ofNat a) (Int.ofNat (nameGo s a false a).1)) := by unfold keyR; rw [if_neg (by rw [← hm]; decide)]
    rw [hR] at hK
    cbv
    refine cond_F hN rfl ?_
    cbv
    refine op_ hN (call_ (Bare_spec s a tv hs ha) hG [0] rfl rfl rfl rfl rfl ?_)
    intro k e hke
    rw [← hke] at hK
    have h1 := hK k e _ rfl
    refine ⟨fun h0 => ?_, fun h0 => ?_⟩
    · have h2 := h1.1 h0
      simp only at h2
      generalize subs s (Int.ofNat a) (Int.ofNat k) = n at h2 ⊢
      cbv
      exact hf _ _ (fin_ [] rfl rfl h2)
    · cbv
      exact hf _ _ (fin_ [] rfl rfl (h1.2 h0))
theorem keyR_pos (t : ByteArray) (a : Nat) (h : a ≤ t.size) : (keyR t a).1 ≤ t.size := by
  unfold keyR
  split
  · exact quotR_pos t a h
  · exact (nameGo_le t a false a h).1
theorem keyR_size (t : ByteArray) (a : Nat) (ht : t.size < 1000000) : (keyR t a).2.2.size < 1000000 := by
  unfold keyR
  split
  · have h1 := quotR_le t a
    have h2 : (bytesOf (quotR t a).2.2).size = (quotR t a).2.2.length := by simp [bytesOf, ByteArray.size]
    simp only; omega
  · simp only [subs, ByteArray.size_extract]; omega
/-- what a path's reading gives -/
def PostPath (t : ByteArray) (tv : Value) (K : Out → List (Chunk Pd) → Prop) : Res (Nat × List ByteArray) → Prop
  | .ok (k, l) => ∀ p lo len cap xs, VecOk p lo len cap xs l → K (.ret (.vec p 1 1 lo len cap)) [rowc 0 t k tv, .arr p true 1 9 encS xs]
  | .err e a => K (.pan (flt e a)) []
  | .ovf => False
theorem path_spec (t : ByteArray) (a : Nat) (tv : Value) (ht : t.size < 1000000) (ha : a ≤ t.size) : Triple (BB Ip GOk) 171 1 2 [.ptr 0 0] [rowc 0 t a tv] (fun K => PostPath t tv K (pathP t a)) := by
  refine triple_of BB_ok (tb := ty) rfl (n0 := 1) (fun _ : Unit => _) pl171 Tryz.call171 Tryz.func171 rfl (by kernel_rfl) (Nat.le_of_ble_eq_true rfl) (by decide) rfl pre_none ?_
  rintro G hG K hK W bi bc bs bk bu bb bo bg bl bp bn be Ncond Nob Nop Nloop Nscope hN Nfin hf _ _
  cbv
  refine op_ hN (call_ (key_spec t a tv (by omega) ha) hG [0] rfl rfl rfl rfl rfl ?_)
  intro k e key hk
  have hpos := keyR_pos t a ha
  have hP : pathP t a = (if e = 0 then pathGo t (t.size + 2) k [key] else .err e (Int.ofNat k)) := by
    unfold pathP keyP
    rw [← hk]
    simp only
    by_cases h0 : e = 0
    · rw [if_pos h0, if_pos h0]
    · rw [if_neg h0, if_neg h0]
  rw [← hk] at hpos
  simp only at hpos
  rw [hP] at hK
  refine ⟨fun h0 => ?_, fun h0 => ?_⟩
  · rw [if_pos h0] at hK
    obtain ⟨Z, hZ⟩ : ∃ Z, pathGo t (t.size + 2) k [key] = Z := ⟨_, rfl⟩
    rw [hZ] at hK
    cbv
    refine loopN_ hN (loop_ hN ty_ok mixed (ι := Nat × Nat × List ByteArray × Bool × Nat × Nat × Nat × List ByteArray) (fun y => ⟨[(0, .ptr 0 0), (3, .vec y.2.2.2.1 1 1 y.2.2.2.2.1 y.2.2.2.2.2.1 y.2.2.2.2.2.2.1)], [rowc 0 t y.2.1 tv, .arr y.2.2.2.1 true 1 9 encS y.2.2.2.2.2.2.2], 2⟩)
      (fun y => y.2.1 ≤ t.size ∧ VecOk y.2.2.2.1 y.2.2.2.2.1 y.2.2.2.2.2.1 y.2.2.2.2.2.2.1 y.2.2.2.2.2.2.2 y.2.2.1 ∧ y.2.2.1.length + y.1 = t.size + 3 ∧ pathGo t y.1 y.2.1 y.2.2.1 = Z) (fun y => y.1) ?_ ?_)
    · refine leads_arr 1 encS [key] rfl (fun ρ => by simp [SV.denL, SV.den, arrCells, encS, Lit.val]) (leads_eset 3 (.slice 1 1 0 1 1) (.vec true 1 1 0 1 1) rfl (fun ρ => by simp [SV.den]) ?_)
      exact Leads.idx (t.size + 2, k, [key], true, 0, 1, 1, [key]) [1] ⟨hpos, ⟨(fun h => nomatch h), Nat.le_refl _, Nat.le_refl _, rfl⟩, by simp only [List.length_singleton]; omega, hZ⟩ ⟨⟨rfl, rfl, trivial⟩, rfl, Nat.le_of_ble_eq_true rfl⟩
    rintro ⟨n, b, l, p, lo, len, cap, xs⟩ ⟨hb, hv, hnl, hgo⟩ Nnext hn _
    simp only at hb hv hnl hgo
    cbv
    refine op_ hN (call_ (is_spec t b tv 46) hG [0] rfl rfl rfl rfl rfl ?_)
    intro m hm
    cases n with
    | zero => simp only [pathGo] at hgo; rw [← hgo] at hK; exact hK.elim
    | succ n =>
    simp only [pathGo] at hgo
    cases m with
    | false =>
      rw [if_neg (by rw [← hm]; decide)] at hgo
      rw [← hgo] at hK
      cbv
      refine cond_F hN rfl ?_
      cbv
      exact hf _ _ (fin_ [1] rfl rfl (hK p lo len cap xs hv))
    | true =>
      have hlt := isB_lt hm.symm
      rw [if_pos hm.symm] at hgo
      have hadd : bi .add .i64 (Int.ofNat b) 1 = Int.ofNat (b + 1) := inext hN (by omega)
      generalize hb1 : b + 1 = b1 at hadd hgo
      have hb1' : b1 ≤ t.size := by omega
      cbv
      refine cond_T hN rfl ?_
      cbv
      simp only [hadd]
      refine op_ hN (call_ (key_spec t b1 tv (by omega) hb1') hG [0] rfl rfl rfl rfl rfl ?_)
      intro k2 e2 key2 hk2
      have hpos2 := keyR_pos t b1 hb1'
      unfold keyP at hgo
      rw [← hk2] at hgo hpos2
      simp only at hgo hpos2
      refine ⟨fun h0 => ?_, fun h0 => ?_⟩
      · rw [if_pos h0] at hgo
        simp only at hgo
        cbv
        have hlen := hv.length
        refine op_ hN (append_vec (new := [key2]) (z := ⟨#[]⟩) ty_ok rfl rfl rfl rfl (fun k => by simp) rfl rfl wideS rfl rfl (src_cells wideS rfl (fun _ _ _ _ => rfl) rfl) hv.pr hv.room hv.fits (by simp; omega) (by decide) ?_)
        intro p' lo' m' cap' xs' hm' e1 e2' e3 e4
        cbv
        exact hn _ (Leads.nxt (n, k2, l ++ [key2], p', lo', m', cap', xs') [3] ⟨hpos2, ⟨e1, e2', e3, by rw [e4, hv.eq]⟩, by simp only [List.length_append, List.length_singleton]; omega, hgo⟩ (by simp only; omega) ⟨⟨rfl, rfl, trivial⟩, rfl, Nat.le_of_ble_eq_true rfl⟩)
      · rw [if_neg h0] at hgo
        simp only at hgo
        rw [← hgo] at hK
        cbv
        exact hf _ _ (fin_ [] rfl rfl hK)
  · rw [if_neg h0] at hK
    cbv
    exact hf _ _ (fin_ [] rfl rfl hK)
end Hx
/- sections.common, enters: the walks. -/
namespace Hx
open Go Sx Go.Proofs
set_option maxRecDepth 100000
set_option maxHeartbeats 4000000
set_option linter.unusedVariables false
set_option linter.unusedSimpArgs false
variable {GOk : Gl → Prop}
theorem common_spec (q h : Bool) (lo2 len2 cap2 lo3 len3 cap3 : Nat) (ys l : List (ByteArray × Bool)) (zs p : List ByteArray) (hv2 : VecOk q lo2 len2 cap2 ys l) (hv3 : VecOk h lo3 len3 cap3 zs p) (most : Nat) (hm : most < 4611686018427387904) (h2 : len2 < 4611686018427387904) (h3 : len3 < 4611686018427387904) :
    Triple (BB Ip GOk) 175 2 2 [.vec q 0 2 lo2 len2 cap2, .vec h 1 1 lo3 len3 cap3, .int .i64 (Int.ofNat most), .fn (.func 176) [] []] [.arr q true 0 240 encT ys, .arr h true 1 9 encS zs]
      (fun K => ∀ n, n = secCommon l p most → n ≤ len2 → n ≤ len3 → n ≤ most → K (.ret (.int .i64 (Int.ofNat n))) [.arr q true 0 240 encT ys, .arr h true 1 9 encS zs]) := by
  refine triple_of BB_ok (tb := ty) rfl (n0 := 2) (fun _ : Unit => _) pl175 Tryz.call175 Tryz.func175 rfl (by kernel_rfl) (Nat.le_of_ble_eq_true rfl) (by decide) rfl pre_none ?_
  rintro G hG K hK W bi bc bs bk bu bb bo bg bl bp bn be Ncond Nob Nop Nloop Nscope hN Nfin hf _ _
  have hlen2 := hv2.length
  have hroom2 := hv2.room
  have hfits2 := hv2.fits
  have hlen3 := hv3.length
  have hroom3 := hv3.room
  have hfits3 := hv3.fits
  obtain ⟨mn, hmn⟩ : ∃ z, bi .lss .i64 (bi .lss .i64 (Int.ofNat most) (Int.ofNat len2)) (Int.ofNat len3) = z := ⟨_, rfl⟩
  have hmn2 : ∃ m : Nat, mn = Int.ofNat m ∧ m ≤ most ∧ m ≤ len2 ∧ m ≤ len3 ∧ (m = most ∨ m = len2 ∨ m = len3) := by
    have e1 : ∀ a b : Nat, bi .lss .i64 (Int.ofNat a) (Int.ofNat b) = Int.ofNat (min a b) := fun a b => by
      rw [bi_ hN]
      show (if (b : Int) < (a : Int) then (b : Int) else (a : Int)) = ((min a b : Nat) : Int)
      split <;> omega
    rw [← hmn, e1, e1]
    exact ⟨_, rfl, by omega, by omega, by omega, by omega⟩
  obtain ⟨m, rfl, hm1, hm2, hm3, hm4⟩ := hmn2
  cbv
  refine loopN_ hN (loop_ hN ty_ok mixed (ι := Nat) (fun y => ⟨[(0, .vec q 0 2 lo2 len2 cap2), (1, .vec h 1 1 lo3 len3 cap3), (2, .int .i64 (Int.ofNat most)), (3, .fn (.func 176) [] []), (9, .int .i64 (Int.ofNat y))], [.arr q true 0 240 encT ys, .arr h true 1 9 encS zs], 2⟩)
    (fun n => n ≤ m ∧ secCommon (l.drop n) (p.drop n) (most - n) + n = secCommon l p most) (fun n => most - n) (Leads.idx 0 [] ⟨Nat.zero_le _, rfl⟩ ⟨⟨rfl, rfl, rfl, rfl, rfl, trivial⟩, rfl, Nat.le_of_ble_eq_true rfl⟩) ?_)
  rintro n ⟨hn1, hgo⟩ Nnext hn _
  cbv
  simp only [hmn]
  cbv
  refine cond_ hN (fun hlt => ?_) (fun hlt => ?_)
  · rw [clt hN] at hlt
    simp only [decide_eq_true_eq, decide_eq_false_iff_not, Int.ofNat_eq_natCast, gt_iff_lt, ge_iff_le, Bool.not_eq_true', Bool.not_eq_false', Int.not_lt, Int.not_le] at hlt
    have hlt : n < m := by have : (n : Int) < (m : Int) := hlt; omega
    have hpt : q = true := by
      cases q with
      | true => rfl
      | false => have := hv2.pr rfl; omega
    have hpt3 : h = true := by
      cases h with
      | true => rfl
      | false => have := hv3.pr rfl; omega
    have hidx2 : bp lo2 (Int.ofNat n) = lo2 + n := by rw [bp_ hN]; simp
    have hidx3 : bp lo3 (Int.ofNat n) = lo3 + n := by rw [bp_ hN]; simp
    have hl2 : n < l.length := by omega
    have hl3 : n < p.length := by omega
    have hx2 : ys[lo2 + n]? = some (l[n]'hl2) := by
      have h5 : ((ys.drop lo2).take len2)[n]? = some (l[n]'hl2) := by rw [hv2.eq]; exact List.getElem?_eq_getElem hl2
      rw [List.getElem?_take, if_pos (by omega), List.getElem?_drop] at h5
      exact h5
    have hx3 : zs[lo3 + n]? = some (p[n]'hl3) := by
      have h5 : ((zs.drop lo3).take len3)[n]? = some (p[n]'hl3) := by rw [hv3.eq]; exact List.getElem?_eq_getElem hl3
      rw [List.getElem?_take, if_pos (by omega), List.getElem?_drop] at h5
      exact h5
    have hd2 := List.drop_eq_getElem_cons hl2
    have hd3 := List.drop_eq_getElem_cons hl3
    generalize (l[n]'hl2) = x at hx2 hd2
    generalize (p[n]'hl3) = k at hx3 hd3
    obtain ⟨key, rows⟩ := x
    obtain ⟨c, hc⟩ : ∃ c, most - n = c + 1 := ⟨most - n - 1, by omega⟩
    rw [hd2, hd3, hc] at hgo
    simp only [secCommon] at hgo
    have hadd : bi .add .i64 (Int.ofNat n) 1 = Int.ofNat (n + 1) := inext hN (by omega)
    cbv
    repeat' (first | exact True.intro | with_reducible refine dup ?_ | refine And.intro ?_ ?_ | (refine ob_ hN ⟨⟨by simp, by simp; omega⟩, hpt, trivial⟩ ?_; try cbv) | (refine ob_ hN ⟨⟨by simp, by simp; omega⟩, hpt3, trivial⟩ ?_; try cbv))
    all_goals first
      | (refine op_ hN (load_arr ty_ok rfl hpt rfl wideT (Nat.le_of_ble_eq_true rfl) (by rw [hidx2]; omega) ?_)
         intro x1 e1
         rw [hidx2, hx2] at e1
         obtain rfl := (Option.some.inj e1).symm
         cbv
         repeat' (first | exact True.intro | with_reducible refine dup ?_ | refine And.intro ?_ ?_ | (refine ob_ hN ⟨⟨by simp, by simp; omega⟩, hpt3, trivial⟩ ?_; try cbv))
         refine op_ hN (load_arr ty_ok rfl hpt3 rfl wideS (Nat.le_of_ble_eq_true rfl) (by rw [hidx3]; omega) ?_)
         intro x1 e1
         rw [hidx3, hx3] at e1
         obtain rfl := Option.some.inj e1
         cbv)
      | (refine op_ hN (load_arr ty_ok rfl hpt3 rfl wideS (Nat.le_of_ble_eq_true rfl) (by rw [hidx3]; omega) ?_)
         intro x1 e1
         rw [hidx3, hx3] at e1
         obtain rfl := Option.some.inj e1
         cbv
         repeat' (first | exact True.intro | with_reducible refine dup ?_ | refine And.intro ?_ ?_ | (refine ob_ hN ⟨⟨by simp, by simp; omega⟩, hpt, trivial⟩ ?_; try cbv))
         refine op_ hN (load_arr ty_ok rfl hpt rfl wideT (Nat.le_of_ble_eq_true rfl) (by rw [hidx2]; omega) ?_)
         intro x1 e1
         rw [hidx2, hx2] at e1
         obtain rfl := (Option.some.inj e1).symm
         cbv)
    repeat' (first | exact True.intro | with_reducible refine dup ?_ | refine And.intro ?_ ?_)
    all_goals
      refine op_ hN (inline_ BB_ok (tb := ty) rfl pl176 Tryz.call176 Tryz.func176 rfl (by kernel_rfl) (Nat.le_of_ble_eq_true rfl) ?_)
      intro W2 bi2 bc2 bs2 bk2 bu2 bb2 bo2 bg2 bl2 bp2 bn2 be2 Ncond2 Nob2 Nop2 Nloop2 Nscope2 hN2
      cbv
      rw [seq_eq hN2]
      cbv
      refine cond_ hN (fun heq => ?_) (fun heq => ?_)
      · have heq : key = k := by simpa using heq
        rw [if_pos heq] at hgo
        cbv
        rw [hadd]
        exact hn _ (Leads.nxt (n + 1) [] ⟨by omega, by rw [show most - (n + 1) = c by omega]; omega⟩ (by omega) ⟨⟨rfl, rfl, rfl, rfl, rfl, trivial⟩, rfl, Nat.le_of_ble_eq_true rfl⟩)
      · have heq : ¬ key = k := by simpa using heq
        rw [if_neg heq] at hgo
        cbv
        repeat' (first | exact True.intro | with_reducible refine dup ?_ | refine And.intro ?_ ?_)
        all_goals exact hf _ _ (fin_ [] rfl rfl (hK n (by omega) (by omega) (by omega) (by omega)))
  · rw [clt hN] at hlt
    simp only [decide_eq_true_eq, decide_eq_false_iff_not, Int.ofNat_eq_natCast, gt_iff_lt, ge_iff_le, Bool.not_eq_true', Bool.not_eq_false', Int.not_lt, Int.not_le] at hlt
    have hge : m ≤ n := by have : (m : Int) ≤ (n : Int) := hlt; omega
    obtain rfl : n = m := by omega
    have hend : secCommon (l.drop n) (p.drop n) (most - n) = 0 := by
      rcases hm4 with h | h | h
      · rw [h, Nat.sub_self]; cases l.drop most <;> cases p.drop most <;> rfl
      · rw [List.drop_eq_nil_of_le (show l.length ≤ n by omega)]; rfl
      · rw [List.drop_eq_nil_of_le (show p.length ≤ n by omega)]; cases l.drop n <;> rfl
    rw [hend] at hgo
    cbv
    repeat' (first | exact True.intro | with_reducible refine dup ?_ | refine And.intro ?_ ?_)
    all_goals exact hf _ _ (fin_ [] rfl rfl (hK n (by omega) hm2 hm3 hm1))
end Hx
/- sections.machine.enters: the walk. -/
namespace Hx
open Go Sx Go.Proofs
set_option maxRecDepth 100000
set_option maxHeartbeats 4000000
set_option linter.unusedVariables false
set_option linter.unusedSimpArgs false
variable {GOk : Gl → Prop}
variable {right : Ev → Bool}
theorem sec_push_ok {k : ByteArray} {rows : Bool} {s : OS Sec} (h : ¬ s.m.place.length ≥ 1000) : secPush k rows s = (.ok (), { s with m := { s.m with place := s.m.place ++ [(k, rows)] } }) := by unfold secPush; rw [if_neg h]
theorem sec_push_ovf {k : ByteArray} {rows : Bool} {s : OS Sec} (h : s.m.place.length ≥ 1000) : secPush k rows s = (.ovf, s) := by unfold secPush; rw [if_pos h]
theorem sec_enters_spec (hb : RgtOk GOk right) (s : OS Sec) (k : ByteArray) (rows : Bool) (at_ : Int) (hk : k.size < 1099511627776) : Triple (BB Ip GOk) 177 2 2 [.ptr 0 0, .agg [.str k, .bool rows], .int .i64 at_] (ocS s)
    (fun K => PostR (fun _ => .tuple []) ocS K (secEnters right k rows at_ s)) := by
  refine triple_of BB_ok (tb := ty) rfl (n0 := 2) (fun _ : Unit => _) pl177 Tryz.call177 Tryz.func177 rfl (by kernel_rfl) (Nat.le_of_ble_eq_true rfl) (by decide) rfl pre_none ?_
  rintro G hG K hK W bi bc bs bk bu bb bo bg bl bp bn be Ncond Nob Nop Nloop Nscope hN Nfin hf _ _
  cbv
  refine op_ hN (call_ (sec_says_spec hb s ⟨8, k, ⟨#[]⟩⟩ at_ (okE8 k hk)) hG [0, 1] rfl rfl rfl rfl rfl ?_)
  simp only [secEnters, OM.bind] at hK
  generalize secSays right ⟨8, k, ⟨#[]⟩⟩ at_ s = y at hK ⊢
  obtain ⟨r, s1⟩ := y
  cases r with
  | err e a => cbv; exact hf _ _ (fin_ [] rfl rfl hK)
  | ovf => exact hK.elim
  | ok u =>
    simp only at hK
    cbv
    refine cond_ hN (fun hr => ?_) (fun hr => ?_)
    · subst hr
      rw [if_pos rfl] at hK
      cbv
      refine op_ hN (call_ (sec_says_spec hb s1 (ev0 5) at_ (okE0 5 (by decide) (by decide))) hG [0, 1] rfl rfl rfl rfl rfl ?_)
      generalize secSays right (ev0 5) at_ s1 = y at hK ⊢
      obtain ⟨r, s2⟩ := y
      cases r with
      | err e a => cbv; exact hf _ _ (fin_ [] rfl rfl hK)
      | ovf => exact hK.elim
      | ok u =>
        simp only at hK
        cbv
        refine op_ hN (call_ (sec_says_spec hb s2 (ev0 7) at_ (okE0 7 (by decide) (by decide))) hG [0, 1] rfl rfl rfl rfl rfl ?_)
        generalize secSays right (ev0 7) at_ s2 = y at hK ⊢
        obtain ⟨r, s3⟩ := y
        cases r with
        | err e a => cbv; exact hf _ _ (fin_ [] rfl rfl hK)
        | ovf => exact hK.elim
        | ok u =>
          simp only at hK
          by_cases hp : s3.m.place.length ≥ 1000
          · rw [sec_push_ovf hp] at hK; exact hK.elim
          rw [sec_push_ok hp] at hK
          obtain ⟨⟨ahead, line, chk, place, header, begun⟩, core⟩ := s3
          simp only at hK hp
          cbv
          repeat' (first | exact True.intro | with_reducible refine dup ?_ | refine And.intro ?_ ?_)
          all_goals
            refine op_ hN (op_open rfl 0 4 rfl rfl rfl rfl ?_)
            rintro _ ⟨p, lo, len, cap, xs, q, lo2, len2, cap2, ys, hp, lo3, len3, cap3, zs, tl, hv1, hv2, hv3, hl, htl, -, rfl⟩
            obtain rfl := htl rfl
            simp only at hv1 hv2 hv3 hl
            refine load_ ty_ok rfl ?_
            have hlen2 := hv2.length
            cbv
            repeat' (first | exact True.intro | with_reducible refine dup ?_ | refine And.intro ?_ ?_)
            all_goals
              refine op_ hN (append_vecZ (new := [(k, true)]) (z := (⟨#[]⟩, false)) ty_ok (.agg [.str ⟨#[]⟩, .bool false]) rfl rfl rfl rfl (fun k => by simp) rfl (fun _ => rfl) rfl rfl rfl rfl wideT rfl rfl (src_cells wideT rfl (fun _ _ _ _ => rfl) rfl) hv2.pr hv2.room hv2.fits (by simp; omega) (by decide) ?_)
              intro p' lo' m' cap' xs' hm' e1 e2 e3 e4
              have hv4 : VecOk p' lo' m' cap' xs' (place ++ [(k, true)]) := ⟨e1, e2, e3, by rw [e4, hv2.eq]⟩
              have hpl : (place ++ [(k, true)]).length ≤ 1000 := by simp only [List.length_append, List.length_singleton]; omega
              generalize place ++ [(k, true)] = place2 at hv4 hpl hK
              cbv
              repeat' (first | exact True.intro | with_reducible refine dup ?_ | refine And.intro ?_ ?_)
              all_goals
                exact hf _ _ (fin_close rfl (.sec ⟨ahead, line, chk, place2, header, begun⟩ true) [0, 1] [14, 18, 16, 17] _ (secTm hv1 hv4 hv3 ⟨hl.1, hpl, hl.2.2⟩) rfl (fin_ [] rfl rfl hK))
    · subst hr
      rw [if_neg (by decide)] at hK
      simp only [OM.ret] at hK
      cbv
      refine op_ hN (call_ (sec_says_spec hb s1 (ev0 7) at_ (okE0 7 (by decide) (by decide))) hG [0, 1] rfl rfl rfl rfl rfl ?_)
      generalize secSays right (ev0 7) at_ s1 = y at hK ⊢
      obtain ⟨r, s3⟩ := y
      cases r with
      | err e a => cbv; exact hf _ _ (fin_ [] rfl rfl hK)
      | ovf => exact hK.elim
      | ok u =>
        simp only at hK
        by_cases hp : s3.m.place.length ≥ 1000
        · rw [sec_push_ovf hp] at hK; exact hK.elim
        rw [sec_push_ok hp] at hK
        obtain ⟨⟨ahead, line, chk, place, header, begun⟩, core⟩ := s3
        simp only at hK hp
        cbv
        repeat' (first | exact True.intro | with_reducible refine dup ?_ | refine And.intro ?_ ?_)
        all_goals
          refine op_ hN (op_open rfl 0 4 rfl rfl rfl rfl ?_)
          rintro _ ⟨p, lo, len, cap, xs, q, lo2, len2, cap2, ys, hp, lo3, len3, cap3, zs, tl, hv1, hv2, hv3, hl, htl, -, rfl⟩
          obtain rfl := htl rfl
          simp only at hv1 hv2 hv3 hl
          refine load_ ty_ok rfl ?_
          have hlen2 := hv2.length
          cbv
          repeat' (first | exact True.intro | with_reducible refine dup ?_ | refine And.intro ?_ ?_)
          all_goals
            refine op_ hN (append_vecZ (new := [(k, false)]) (z := (⟨#[]⟩, false)) ty_ok (.agg [.str ⟨#[]⟩, .bool false]) rfl rfl rfl rfl (fun k => by simp) rfl (fun _ => rfl) rfl rfl rfl rfl wideT rfl rfl (src_cells wideT rfl (fun _ _ _ _ => rfl) rfl) hv2.pr hv2.room hv2.fits (by simp; omega) (by decide) ?_)
            intro p' lo' m' cap' xs' hm' e1 e2 e3 e4
            have hv4 : VecOk p' lo' m' cap' xs' (place ++ [(k, false)]) := ⟨e1, e2, e3, by rw [e4, hv2.eq]⟩
            have hpl : (place ++ [(k, false)]).length ≤ 1000 := by simp only [List.length_append, List.length_singleton]; omega
            generalize place ++ [(k, false)] = place2 at hv4 hpl hK
            cbv
            repeat' (first | exact True.intro | with_reducible refine dup ?_ | refine And.intro ?_ ?_)
            all_goals
              exact hf _ _ (fin_close rfl (.sec ⟨ahead, line, chk, place2, header, begun⟩ true) [0, 1] [14, 18, 16, 17] _ (secTm hv1 hv4 hv3 ⟨hl.1, hpl, hl.2.2⟩) rfl (fin_ [] rfl rfl hK))
end Hx
