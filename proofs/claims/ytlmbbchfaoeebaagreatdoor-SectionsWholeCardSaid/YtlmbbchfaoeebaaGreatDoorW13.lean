/-
  Part of a proof.
-/
import Derived.Test.YtlmbbchfaoeebaaGreatDoorW11
import Derived.Test.YtlmbbchfaoeebaaGreatDoorW12
set_option linter.unusedVariables false
set_option linter.unusedSimpArgs false
/- sections.machine.goes: the walk. -/
namespace Hx
open Go Sx Go.Proofs
set_option maxRecDepth 100000
set_option maxHeartbeats 4000000
set_option linter.unusedVariables false
set_option linter.unusedSimpArgs false
variable {GOk : Gl → Prop}
variable {right : Ev → Bool}
theorem secCommon_le : ∀ (l : List (ByteArray × Bool)) (p : List ByteArray) (m : Nat), secCommon l p m ≤ l.length ∧ secCommon l p m ≤ p.length ∧ secCommon l p m ≤ m
  | [], p, m => by simp [secCommon]
  | x :: l, [], m => by simp [secCommon]
  | x :: l, k :: p, 0 => by simp [secCommon]
  | x :: l, k :: p, m + 1 => by
    simp only [secCommon]
    split
    · have := secCommon_le l p m
      simp only [List.length_cons]; omega
    · simp
theorem sec_goes_spec (hb : RgtOk GOk right) (s : OS Sec) (h : Bool) (lo3 len3 cap3 : Nat) (zs p : List ByteArray) (hv3 : VecOk h lo3 len3 cap3 zs p) (rows : Bool) (at_ : Int) (hp : p ≠ []) (hps : ∀ k ∈ p, k.size < 1099511627776) (hpl : p.length ≤ 1000000) :
    Triple (BB Ip GOk) 173 3 3 [.ptr 0 0, .vec h 2 1 lo3 len3 cap3, .bool rows, .int .i64 at_] (ocS s ++ [.arr h true 2 9 encS zs])
      (fun K => PostR (fun _ => .tuple []) ocS K (secGoes right p rows at_ s)) := by
  have hlen3 := hv3.length
  have hroom3 := hv3.room
  have hfits3 := hv3.fits
  have hp1 : 0 < p.length := List.length_pos_iff.2 hp
  have hpt3 : h = true := by
    cases h with
    | true => rfl
    | false => have := hv3.pr rfl; omega
  subst hpt3
  refine triple_of BB_ok (tb := ty) rfl (n0 := 3) (fun _ : Unit => _) pl173 Tryz.call173 Tryz.func173 rfl (by kernel_rfl) (Nat.le_of_ble_eq_true rfl) (by decide) rfl pre_none ?_
  rintro G hG K hK W bi bc bs bk bu bb bo bg bl bp bn be Ncond Nob Nop Nloop Nscope hN Nfin hf _ _
  cbv
  refine op_ hN (call_ (sec_begins_spec hb s at_) hG [0, 1] rfl rfl rfl rfl rfl ?_)
  simp only [secGoes, OM.bind] at hK
  generalize secBegins right at_ s = y at hK ⊢
  obtain ⟨r, s1⟩ := y
  cases r with
  | err e a => cbv; exact hf _ _ (fin_ [] rfl rfl hK)
  | ovf => exact hK.elim
  | ok u =>
    simp only at hK
    obtain ⟨⟨ahead, line, chk, place, header, begun⟩, core⟩ := s1
    simp only at hK
    cbv
    refine op_ hN (op_open rfl 0 4 rfl rfl rfl rfl ?_)
    rintro _ ⟨p', lo, len, cap, xs, q, lo2, len2, cap2, ys, hq, lo4, len4, cap4, zs4, tl, hv1, hv2, hv4, hl, htl, -, rfl⟩
    obtain rfl := htl rfl
    simp only at hv1 hv2 hv4 hl
    refine load_ ty_ok rfl ?_
    have hlen2 := hv2.length
    have hroom2 := hv2.room
    have hfits2 := hv2.fits
    cbv
    refine op_ hN (call_ (common_spec q true lo2 len2 cap2 lo3 len3 cap3 ys place zs p hv2 hv3 len3 (by omega) (by omega) (by omega)) hG [4, 2] rfl rfl rfl rfl rfl ?_)
    intro n hn hn1 hn2 hn3
    rw [hlen3, ← hn] at hK
    obtain ⟨m, hm⟩ : ∃ m, min n (len3 - 1) = m := ⟨_, rfl⟩
    have hsub : bi .sub .i64 (Int.ofNat len3) 1 = Int.ofNat (len3 - 1) := by rw [isub hN (by simp; omega) (by simp; omega)]; simp; omega
    have hmin : bi .lss .i64 (Int.ofNat n) (Int.ofNat (len3 - 1)) = Int.ofNat m := by
      rw [bi_ hN]
      show (if ((len3 - 1 : Nat) : Int) < (n : Int) then ((len3 - 1 : Nat) : Int) else (n : Int)) = (m : Int)
      split <;> omega
    obtain ⟨lo6, hlo6⟩ : ∃ z, sloff lo3 m cap3 = z := ⟨_, rfl⟩
    obtain ⟨len6, hlen6⟩ : ∃ z, len3 - m = z := ⟨_, rfl⟩
    obtain ⟨cap6, hcap6⟩ : ∃ z, cap3 - m = z := ⟨_, rfl⟩
    have hv6 : VecOk true lo6 len6 cap6 zs (p.drop m) := hlo6 ▸ hlen6 ▸ hcap6 ▸ vec_drop hv3 (by omega)
    have hroom6 := hv6.room
    have hfits6 := hv6.fits
    cases rows with
    | false =>
      have hGo : secGoesT right p false at_ n = fun s => OM.bind (secLeaves right m at_) (fun _ => secEntersL right false at_ (p.drop m)) s := by
        funext s; unfold secGoesT; rw [hlen3, hm]; rfl
      rw [hGo] at hK
      cbv
      repeat' (first | exact True.intro | with_reducible refine dup ?_ | refine And.intro ?_ ?_ | (refine cond_ hN (fun h => by cases h) ?_; intro _; try cbv))
      all_goals
        have hK : PostR (fun _ => .tuple []) ocS K (OM.bind (OM.bind (secLeaves right m at_) (fun _ => secEntersL right false at_ (p.drop m))) (fun _ => secHead p) ⟨⟨ahead, line, chk, place, header, begun⟩, core⟩) := hK
        cbv
        simp only [hsub, hmin]
        refine op_ hN (op_close rfl (.sec ⟨ahead, line, chk, place, header, begun⟩ true) [0, 1] [3, 4, 5, 6] _ (secTm hv1 hv2 hv4 hl) rfl rfl (call_ (sec_leaves_spec hb ⟨⟨ahead, line, chk, place, header, begun⟩, core⟩ m at_ (by simp only; omega)) hG [0, 1] rfl rfl rfl rfl rfl ?_))
        simp only [OM.bind] at hK
        generalize secLeaves right m at_ ⟨⟨ahead, line, chk, place, header, begun⟩, core⟩ = y at hK ⊢
        obtain ⟨r, s2⟩ := y
        cases r with
        | err e a => cbv; exact hf _ _ (fin_ [] rfl rfl hK)
        | ovf => exact hK.elim
        | ok u =>
          simp only at hK
          obtain ⟨Z, hZ⟩ : ∃ Z, secEntersL right false at_ (p.drop m) s2 = Z := ⟨_, rfl⟩
          rw [hZ] at hK
          have hb1 : bo lo3 (Int.ofNat m) cap3 = lo6 := by rw [bo_ hN, ← hlo6]; rfl
          have hb2 : bg (Int.ofNat len3) (Int.ofNat m) = len6 := by rw [bg_ hN, ← hlen6]; rfl
          have hb3 : bl cap3 (Int.ofNat m) = cap6 := by rw [bl_ hN, ← hcap6]; rfl
          cbv
          refine ob_ hN ⟨⟨by simp, by first | (simp; done) | (simp; omega), by first | (simp; done) | (simp; omega)⟩, trivial⟩ ?_
          simp only [hb1, hb2, hb3]
          cbv
          refine loopN_ hN (loop_ hN ty_ok mixed (ι := Nat × OS Sec) (fun y => ⟨[(0, .ptr 0 0), (1, .vec true 2 1 lo3 len3 cap3), (2, .bool false), (3, .int .i64 at_), (8, .int .i64 (Int.ofNat m)), (63, .vec true 2 1 lo6 len6 cap6), (64, .int .i64 (Int.ofNat len6)), (65, .int .i64 (Int.ofNat y.1))], ocS y.2 ++ [.arr true true 2 9 encS zs], 7⟩)
            (fun y => y.1 ≤ len6 ∧ secEntersL right false at_ (p.drop (m + y.1)) y.2 = Z) (fun y => len6 - y.1) (Leads.idx (0, s2) [] ⟨Nat.zero_le _, hZ⟩ ⟨⟨rfl, rfl, rfl, rfl, rfl, rfl, rfl, rfl, trivial⟩, rfl, Nat.le_of_ble_eq_true rfl⟩) ?_)
          rintro ⟨j, s3⟩ ⟨hj, hgo⟩ Nnext hn _
          simp only at hj hgo
          cbv
          refine cond_ hN (fun hlt => ?_) (fun hlt => ?_)
          · rw [clt hN] at hlt
            simp only [decide_eq_true_eq, decide_eq_false_iff_not, Int.ofNat_eq_natCast, gt_iff_lt, ge_iff_le, Bool.not_eq_true', Bool.not_eq_false', Int.not_lt, Int.not_le] at hlt
            have hlt : j < len6 := by have : (j : Int) < (len6 : Int) := hlt; omega
            have hidx : bp lo6 (Int.ofNat j) = lo6 + j := by rw [bp_ hN]; simp
            have hl3 : m + j < p.length := by omega
            have hx3 : zs[lo6 + j]? = some (p[m + j]'hl3) := by
              have h5 : ((zs.drop lo6).take len6)[j]? = some (p[m + j]'hl3) := by rw [hv6.eq, List.getElem?_drop]; exact List.getElem?_eq_getElem hl3
              rw [List.getElem?_take, if_pos (by omega), List.getElem?_drop] at h5
              exact h5
            have hd3 := List.drop_eq_getElem_cons hl3
            have hkm : p[m + j]'hl3 ∈ p := List.getElem_mem _
            generalize (p[m + j]'hl3) = k at hx3 hd3 hkm
            rw [hd3] at hgo
            simp only [secEntersL, OM.bind] at hgo
            have hnext : bi .add .i64 (Int.ofNat j) 1 = Int.ofNat (j + 1) := inext hN (by omega)
            cbv
            repeat' (first | exact True.intro | with_reducible refine dup ?_ | refine And.intro ?_ ?_ | (refine ob_ hN ⟨⟨by simp, by simp; omega⟩, rfl, trivial⟩ ?_; try cbv))
            refine op_ hN (load_arr ty_ok rfl rfl rfl wideS (Nat.le_of_ble_eq_true rfl) (by rw [hidx]; omega) ?_)
            intro x1 e1
            rw [hidx, hx3] at e1
            obtain rfl := Option.some.inj e1
            rw [Bool.false_and] at hgo
            cbv
            repeat' (first | exact True.intro | with_reducible refine dup ?_ | refine And.intro ?_ ?_ | (refine cond_ hN (fun h => by cases h) ?_; intro _; try cbv))
            all_goals
              refine op_ hN (op_vals (vals' := [.fn (.func 177) [] [], .ptr 0 0, .agg [.str k, .bool false], .int .i64 at_]) (fun ρ F w _ => by simp [SV.denL, SV.den]) (call_ (sec_enters_spec hb s3 k false at_ (hps k hkm)) hG [0, 1] rfl rfl rfl rfl rfl ?_))
              generalize secEnters right k false at_ s3 = y at hgo ⊢
              obtain ⟨r, s4⟩ := y
              cases r with
              | err e a =>
                simp only at hgo
                subst hgo
                cbv; exact hf _ _ (fin_ [] rfl rfl hK)
              | ovf => simp only at hgo; subst hgo; exact hK.elim
              | ok u =>
                simp only at hgo
                cbv
                rw [hnext]
                repeat' (first | exact True.intro | with_reducible refine dup ?_ | refine And.intro ?_ ?_)
                all_goals exact hn _ (Leads.nxt (j + 1, s4) [] ⟨by omega, hgo⟩ (by simp only; omega) ⟨⟨rfl, rfl, rfl, rfl, rfl, rfl, rfl, rfl, trivial⟩, rfl, Nat.le_of_ble_eq_true rfl⟩)
          · rw [clt hN] at hlt
            simp only [decide_eq_true_eq, decide_eq_false_iff_not, Int.ofNat_eq_natCast, gt_iff_lt, ge_iff_le, Bool.not_eq_true', Bool.not_eq_false', Int.not_lt, Int.not_le] at hlt
            have hge : len6 ≤ j := by have : (len6 : Int) ≤ (j : Int) := hlt; omega
            have hgo : Z = (.ok (), s3) := by rw [← hgo, List.drop_eq_nil_of_le (by omega)]; rfl
            subst hgo
            simp only at hK
            obtain ⟨⟨ahead, line, chk, place, header, begun⟩, core⟩ := s3
            simp only [secHead] at hK
            cbv
            repeat' (first | exact True.intro | with_reducible refine dup ?_ | refine And.intro ?_ ?_)
            all_goals
              refine op_ hN (op_open rfl 0 4 rfl rfl rfl rfl ?_)
              rintro _ ⟨p', lo, len, cap, xs, q, lo2, len2, cap2, ys, hq, lo4, len4, cap4, zs4, tl, hv1, hv2, hv4, hl, htl, -, rfl⟩
              obtain rfl := htl rfl
              simp only at hv1 hv2 hv4 hl
              refine store_ ty_ok rfl ?_
              cbv
              exact hf _ _ (fin_close rfl (.sec ⟨ahead, line, chk, place, p, begun⟩ true) [0, 1] [7, 8, 2, 10] _ (secTm hv1 hv2 hv3 ⟨hl.1, hl.2.1, hpl⟩) rfl (fin_ [] rfl rfl hK))
    | true =>
      cbv
      refine cond_ hN ?_ (fun h => by cases h)
      intro _
      cbv
      · refine cond_ hN ?_ ?_ <;> intro he
        · rw [ceq hN] at he
          simp only [decide_eq_true_eq, decide_eq_false_iff_not, Int.ofNat_eq_natCast, gt_iff_lt, ge_iff_le, Bool.not_eq_true', Bool.not_eq_false', Int.not_lt, Int.not_le] at he
          have he : n = len3 := by have : (n : Int) = (len3 : Int) := he; omega
          obtain ⟨n1, hn1e⟩ : ∃ n1, n - 1 = n1 := ⟨_, rfl⟩
          have hsubn : bi .sub .i64 (Int.ofNat n) 1 = Int.ofNat n1 := by rw [he, ← hn1e, he]; exact hsub
          have hidx : bp lo2 (Int.ofNat n1) = lo2 + n1 := by rw [bp_ hN]; simp
          have hqt : q = true := by
            cases q with
            | true => rfl
            | false => have := hv2.pr rfl; omega
          have hl2 : n1 < place.length := by omega
          have hx2 : ys[lo2 + n1]? = some (place[n1]'hl2) := by
            have h5 : ((ys.drop lo2).take len2)[n1]? = some (place[n1]'hl2) := by rw [hv2.eq]; exact List.getElem?_eq_getElem hl2
            rw [List.getElem?_take, if_pos (by omega), List.getElem?_drop] at h5
            exact h5
          have hpn : (place[n1]?).any (·.2) = (place[n1]'hl2).2 := by rw [List.getElem?_eq_getElem hl2]; rfl
          have hGo0 : secGoesT right p true at_ n ⟨⟨ahead, line, chk, place, header, begun⟩, core⟩ = if (place[n1]'hl2).2 then
              OM.bind (secLeaves right n at_) (fun _ => OM.bind (secSays right (ev0 9) at_) fun _ => secSays right (ev0 7) at_) ⟨⟨ahead, line, chk, place, header, begun⟩, core⟩
            else OM.bind (secLeaves right m at_) (fun _ => secEntersL right true at_ (p.drop m)) ⟨⟨ahead, line, chk, place, header, begun⟩, core⟩ := by
            unfold secGoesT
            rw [show decide (n = p.length) = true by rw [hlen3]; exact decide_eq_true he]
            simp only [hn1e, hpn, hlen3, hm, Bool.true_and]
          rw [hGo0] at hK
          clear hGo0 hpn
          generalize (place[n1]'hl2) = x at hx2 hK
          obtain ⟨xk, xr⟩ := x
          cbv
          simp only [hsubn]
          repeat' (first | exact True.intro | with_reducible refine dup ?_ | refine And.intro ?_ ?_ | (refine load_ ty_ok rfl ?_; try cbv) | (refine ob_ hN ⟨⟨by simp, by simp; omega⟩, hqt, trivial⟩ ?_; try cbv))
          all_goals
            refine op_ hN (load_arr ty_ok rfl hqt rfl wideT (Nat.le_of_ble_eq_true rfl) (by rw [hidx]; omega) ?_)
            intro x1 e1
            rw [hidx, hx2] at e1
            obtain rfl := Option.some.inj e1
            cbv
            refine cond_ hN ?_ ?_ <;> intro hr
            · subst hr
              have hK : PostR (fun _ => .tuple []) ocS K (OM.bind (OM.bind (secLeaves right n at_) (fun _ => OM.bind (secSays right (ev0 9) at_) fun _ => secSays right (ev0 7) at_)) (fun _ => secHead p) ⟨⟨ahead, line, chk, place, header, begun⟩, core⟩) := hK
              cbv
              refine op_ hN (op_close rfl (.sec ⟨ahead, line, chk, place, header, begun⟩ true) [0, 1] [3, 4, 5, 6] _ (secTm hv1 hv2 hv4 hl) rfl rfl (call_ (sec_leaves_spec hb ⟨⟨ahead, line, chk, place, header, begun⟩, core⟩ n at_ (by simp only; omega)) hG [0, 1] rfl rfl rfl rfl rfl ?_))
              simp only [OM.bind] at hK
              generalize secLeaves right n at_ ⟨⟨ahead, line, chk, place, header, begun⟩, core⟩ = y at hK ⊢
              obtain ⟨r, s2⟩ := y
              cases r with
              | err e a => cbv; exact hf _ _ (fin_ [] rfl rfl hK)
              | ovf => exact hK.elim
              | ok u =>
                simp only at hK
                cbv
                refine op_ hN (call_ (sec_says_spec hb s2 (ev0 9) at_ (okE0 9 (by decide) (by decide))) hG [0, 1] rfl rfl rfl rfl rfl ?_)
                generalize secSays right (ev0 9) at_ s2 = y at hK ⊢
                obtain ⟨r, s3⟩ := y
                cases r with
                | err e a => cbv; exact hf _ _ (fin_ [] rfl rfl hK)
                | ovf => exact hK.elim
                | ok u =>
                  simp only at hK
                  cbv
                  refine op_ hN (call_ (sec_says_spec hb s3 (ev0 7) at_ (okE0 7 (by decide) (by decide))) hG [0, 1] rfl rfl rfl rfl rfl ?_)
                  generalize secSays right (ev0 7) at_ s3 = y at hK ⊢
                  obtain ⟨r, s4⟩ := y
                  cases r with
                  | err e a => cbv; exact hf _ _ (fin_ [] rfl rfl hK)
                  | ovf => exact hK.elim
                  | ok u =>
                    simp only at hK
                    obtain ⟨⟨ahead, line, chk, place, header, begun⟩, core⟩ := s4
                    simp only [secHead] at hK
                    cbv
                    repeat' (first | exact True.intro | with_reducible refine dup ?_ | refine And.intro ?_ ?_)
                    all_goals
                      refine op_ hN (op_open rfl 0 4 rfl rfl rfl rfl ?_)
                      rintro _ ⟨p', lo, len, cap, xs, q, lo2, len2, cap2, ys, hq, lo4, len4, cap4, zs4, tl, hv1, hv2, hv4, hl, htl, -, rfl⟩
                      obtain rfl := htl rfl
                      simp only at hv1 hv2 hv4 hl
                      refine store_ ty_ok rfl ?_
                      cbv
                      exact hf _ _ (fin_close rfl (.sec ⟨ahead, line, chk, place, p, begun⟩ true) [0, 1] [7, 8, 2, 10] _ (secTm hv1 hv2 hv3 ⟨hl.1, hl.2.1, hpl⟩) rfl (fin_ [] rfl rfl hK))
            · subst hr
              have hK : PostR (fun _ => .tuple []) ocS K (OM.bind (OM.bind (secLeaves right m at_) (fun _ => secEntersL right true at_ (p.drop m))) (fun _ => secHead p) ⟨⟨ahead, line, chk, place, header, begun⟩, core⟩) := hK
              cbv
              simp only [hsub, hmin]
              refine op_ hN (op_close rfl (.sec ⟨ahead, line, chk, place, header, begun⟩ true) [0, 1] [3, 4, 5, 6] _ (secTm hv1 hv2 hv4 hl) rfl rfl (call_ (sec_leaves_spec hb ⟨⟨ahead, line, chk, place, header, begun⟩, core⟩ m at_ (by simp only; omega)) hG [0, 1] rfl rfl rfl rfl rfl ?_))
              simp only [OM.bind] at hK
              generalize secLeaves right m at_ ⟨⟨ahead, line, chk, place, header, begun⟩, core⟩ = y at hK ⊢
              obtain ⟨r, s2⟩ := y
              cases r with
              | err e a => cbv; exact hf _ _ (fin_ [] rfl rfl hK)
              | ovf => exact hK.elim
              | ok u =>
                simp only at hK
                obtain ⟨Z, hZ⟩ : ∃ Z, secEntersL right true at_ (p.drop m) s2 = Z := ⟨_, rfl⟩
                rw [hZ] at hK
                have hb1 : bo lo3 (Int.ofNat m) cap3 = lo6 := by rw [bo_ hN, ← hlo6]; rfl
                have hb2 : bg (Int.ofNat len3) (Int.ofNat m) = len6 := by rw [bg_ hN, ← hlen6]; rfl
                have hb3 : bl cap3 (Int.ofNat m) = cap6 := by rw [bl_ hN, ← hcap6]; rfl
                cbv
                refine ob_ hN ⟨⟨by simp, by first | (simp; done) | (simp; omega), by first | (simp; done) | (simp; omega)⟩, trivial⟩ ?_
                simp only [hb1, hb2, hb3]
                cbv
                refine loopN_ hN (loop_ hN ty_ok mixed (ι := Nat × OS Sec) (fun y => ⟨[(0, .ptr 0 0), (1, .vec true 2 1 lo3 len3 cap3), (2, .bool true), (3, .int .i64 at_), (8, .int .i64 (Int.ofNat m)), (63, .vec true 2 1 lo6 len6 cap6), (64, .int .i64 (Int.ofNat len6)), (65, .int .i64 (Int.ofNat y.1))], ocS y.2 ++ [.arr true true 2 9 encS zs], 7⟩)
                  (fun y => y.1 ≤ len6 ∧ secEntersL right true at_ (p.drop (m + y.1)) y.2 = Z) (fun y => len6 - y.1) (Leads.idx (0, s2) [] ⟨Nat.zero_le _, hZ⟩ ⟨⟨rfl, rfl, rfl, rfl, rfl, rfl, rfl, rfl, trivial⟩, rfl, Nat.le_of_ble_eq_true rfl⟩) ?_)
                rintro ⟨j, s3⟩ ⟨hj, hgo⟩ Nnext hn _
                simp only at hj hgo
                cbv
                refine cond_ hN (fun hlt => ?_) (fun hlt => ?_)
                · rw [clt hN] at hlt
                  simp only [decide_eq_true_eq, decide_eq_false_iff_not, Int.ofNat_eq_natCast, gt_iff_lt, ge_iff_le, Bool.not_eq_true', Bool.not_eq_false', Int.not_lt, Int.not_le] at hlt
                  have hlt : j < len6 := by have : (j : Int) < (len6 : Int) := hlt; omega
                  have hidx : bp lo6 (Int.ofNat j) = lo6 + j := by rw [bp_ hN]; simp
                  have hl3 : m + j < p.length := by omega
                  have hx3 : zs[lo6 + j]? = some (p[m + j]'hl3) := by
                    have h5 : ((zs.drop lo6).take len6)[j]? = some (p[m + j]'hl3) := by rw [hv6.eq, List.getElem?_drop]; exact List.getElem?_eq_getElem hl3
                    rw [List.getElem?_take, if_pos (by omega), List.getElem?_drop] at h5
                    exact h5
                  have hd3 := List.drop_eq_getElem_cons hl3
                  have hkm : p[m + j]'hl3 ∈ p := List.getElem_mem _
                  generalize (p[m + j]'hl3) = k at hx3 hd3 hkm
                  rw [hd3] at hgo
                  simp only [secEntersL, OM.bind] at hgo
                  have hnext : bi .add .i64 (Int.ofNat j) 1 = Int.ofNat (j + 1) := inext hN (by omega)
                  cbv
                  repeat' (first | exact True.intro | with_reducible refine dup ?_ | refine And.intro ?_ ?_ | (refine ob_ hN ⟨⟨by simp, by simp; omega⟩, rfl, trivial⟩ ?_; try cbv))
                  refine op_ hN (load_arr ty_ok rfl rfl rfl wideS (Nat.le_of_ble_eq_true rfl) (by rw [hidx]; omega) ?_)
                  intro x1 e1
                  rw [hidx, hx3] at e1
                  obtain rfl := Option.some.inj e1
                  rw [Bool.true_and] at hgo
                  have hsub1 : bi .sub .i64 (Int.ofNat len3) 1 = Int.ofNat (len3 - 1) := by rw [isub hN (by simp; omega) (by simp; omega)]; simp; omega
                  have hadd1 : bi .add .i64 (Int.ofNat m) (Int.ofNat j) = Int.ofNat (m + j) := by rw [iadd hN (by simp only [Int.ofNat_eq_natCast]; omega) (by simp only [Int.ofNat_eq_natCast]; omega)]; rfl
                  have hceq : bc .eql (Int.ofNat (m + j)) (Int.ofNat (len3 - 1)) = (p.drop (m + j + 1)).isEmpty := by
                    rw [ceq hN, Bool.eq_iff_iff]
                    simp only [decide_eq_true_eq, Int.ofNat_eq_natCast, List.isEmpty_iff, List.drop_eq_nil_iff]
                    omega
                  generalize (p.drop (m + j + 1)).isEmpty = bv at hgo hceq
                  cbv
                  repeat' (first | exact True.intro | with_reducible refine dup ?_ | refine And.intro ?_ ?_ | (refine cond_ hN ?_ (fun h => by cases h); intro _; try cbv))
                  all_goals
                    simp only [hsub1, hadd1, hceq]
                    cbv
                    refine op_ hN (op_vals (vals' := [.fn (.func 177) [] [], .ptr 0 0, .agg [.str k, .bool bv], .int .i64 at_]) (fun ρ F w _ => by simp [SV.denL, SV.den]) (call_ (sec_enters_spec hb s3 k bv at_ (hps k hkm)) hG [0, 1] rfl rfl rfl rfl rfl ?_))
                    generalize secEnters right k bv at_ s3 = y at hgo ⊢
                    obtain ⟨r, s4⟩ := y
                    cases r with
                    | err e a =>
                      simp only at hgo
                      subst hgo
                      cbv; exact hf _ _ (fin_ [] rfl rfl hK)
                    | ovf => simp only at hgo; subst hgo; exact hK.elim
                    | ok u =>
                      simp only at hgo
                      cbv
                      rw [hnext]
                      repeat' (first | exact True.intro | with_reducible refine dup ?_ | refine And.intro ?_ ?_)
                      all_goals exact hn _ (Leads.nxt (j + 1, s4) [] ⟨by omega, hgo⟩ (by simp only; omega) ⟨⟨rfl, rfl, rfl, rfl, rfl, rfl, rfl, rfl, trivial⟩, rfl, Nat.le_of_ble_eq_true rfl⟩)
                · rw [clt hN] at hlt
                  simp only [decide_eq_true_eq, decide_eq_false_iff_not, Int.ofNat_eq_natCast, gt_iff_lt, ge_iff_le, Bool.not_eq_true', Bool.not_eq_false', Int.not_lt, Int.not_le] at hlt
                  have hge : len6 ≤ j := by have : (len6 : Int) ≤ (j : Int) := hlt; omega
                  have hgo : Z = (.ok (), s3) := by rw [← hgo, List.drop_eq_nil_of_le (by omega)]; rfl
                  subst hgo
                  simp only at hK
                  obtain ⟨⟨ahead, line, chk, place, header, begun⟩, core⟩ := s3
                  simp only [secHead] at hK
                  cbv
                  repeat' (first | exact True.intro | with_reducible refine dup ?_ | refine And.intro ?_ ?_)
                  all_goals
                    refine op_ hN (op_open rfl 0 4 rfl rfl rfl rfl ?_)
                    rintro _ ⟨p', lo, len, cap, xs, q, lo2, len2, cap2, ys, hq, lo4, len4, cap4, zs4, tl, hv1, hv2, hv4, hl, htl, -, rfl⟩
                    obtain rfl := htl rfl
                    simp only at hv1 hv2 hv4 hl
                    refine store_ ty_ok rfl ?_
                    cbv
                    exact hf _ _ (fin_close rfl (.sec ⟨ahead, line, chk, place, p, begun⟩ true) [0, 1] [7, 8, 2, 10] _ (secTm hv1 hv2 hv3 ⟨hl.1, hl.2.1, hpl⟩) rfl (fin_ [] rfl rfl hK))
        · rw [ceq hN] at he
          simp only [decide_eq_true_eq, decide_eq_false_iff_not, Int.ofNat_eq_natCast, gt_iff_lt, ge_iff_le, Bool.not_eq_true', Bool.not_eq_false', Int.not_lt, Int.not_le] at he
          have he : ¬ n = len3 := by have : ¬ (n : Int) = (len3 : Int) := he; omega
          have hGo : secGoesT right p true at_ n = fun s => OM.bind (secLeaves right m at_) (fun _ => secEntersL right true at_ (p.drop m)) s := by
            funext s; unfold secGoesT; rw [hlen3, hm]; simp [he]
          rw [hGo] at hK
          cbv
          repeat' (first | exact True.intro | with_reducible refine dup ?_ | refine And.intro ?_ ?_ | (refine cond_ hN (fun h => by cases h) ?_; intro _; try cbv))
          all_goals
            have hK : PostR (fun _ => .tuple []) ocS K (OM.bind (OM.bind (secLeaves right m at_) (fun _ => secEntersL right true at_ (p.drop m))) (fun _ => secHead p) ⟨⟨ahead, line, chk, place, header, begun⟩, core⟩) := hK
            cbv
            simp only [hsub, hmin]
            refine op_ hN (op_close rfl (.sec ⟨ahead, line, chk, place, header, begun⟩ true) [0, 1] [3, 4, 5, 6] _ (secTm hv1 hv2 hv4 hl) rfl rfl (call_ (sec_leaves_spec hb ⟨⟨ahead, line, chk, place, header, begun⟩, core⟩ m at_ (by simp only; omega)) hG [0, 1] rfl rfl rfl rfl rfl ?_))
            simp only [OM.bind] at hK
            generalize secLeaves right m at_ ⟨⟨ahead, line, chk, place, header, begun⟩, core⟩ = y at hK ⊢
            obtain ⟨r, s2⟩ := y
            cases r with
            | err e a => cbv; exact hf _ _ (fin_ [] rfl rfl hK)
            | ovf => exact hK.elim
            | ok u =>
              simp only at hK
              obtain ⟨Z, hZ⟩ : ∃ Z, secEntersL right true at_ (p.drop m) s2 = Z := ⟨_, rfl⟩
              rw [hZ] at hK
              have hb1 : bo lo3 (Int.ofNat m) cap3 = lo6 := by rw [bo_ hN, ← hlo6]; rfl
              have hb2 : bg (Int.ofNat len3) (Int.ofNat m) = len6 := by rw [bg_ hN, ← hlen6]; rfl
              have hb3 : bl cap3 (Int.ofNat m) = cap6 := by rw [bl_ hN, ← hcap6]; rfl
              cbv
              refine ob_ hN ⟨⟨by simp, by first | (simp; done) | (simp; omega), by first | (simp; done) | (simp; omega)⟩, trivial⟩ ?_
              simp only [hb1, hb2, hb3]
              cbv
              refine loopN_ hN (loop_ hN ty_ok mixed (ι := Nat × OS Sec) (fun y => ⟨[(0, .ptr 0 0), (1, .vec true 2 1 lo3 len3 cap3), (2, .bool true), (3, .int .i64 at_), (8, .int .i64 (Int.ofNat m)), (63, .vec true 2 1 lo6 len6 cap6), (64, .int .i64 (Int.ofNat len6)), (65, .int .i64 (Int.ofNat y.1))], ocS y.2 ++ [.arr true true 2 9 encS zs], 7⟩)
                (fun y => y.1 ≤ len6 ∧ secEntersL right true at_ (p.drop (m + y.1)) y.2 = Z) (fun y => len6 - y.1) (Leads.idx (0, s2) [] ⟨Nat.zero_le _, hZ⟩ ⟨⟨rfl, rfl, rfl, rfl, rfl, rfl, rfl, rfl, trivial⟩, rfl, Nat.le_of_ble_eq_true rfl⟩) ?_)
              rintro ⟨j, s3⟩ ⟨hj, hgo⟩ Nnext hn _
              simp only at hj hgo
              cbv
              refine cond_ hN (fun hlt => ?_) (fun hlt => ?_)
              · rw [clt hN] at hlt
                simp only [decide_eq_true_eq, decide_eq_false_iff_not, Int.ofNat_eq_natCast, gt_iff_lt, ge_iff_le, Bool.not_eq_true', Bool.not_eq_false', Int.not_lt, Int.not_le] at hlt
                have hlt : j < len6 := by have : (j : Int) < (len6 : Int) := hlt; omega
                have hidx : bp lo6 (Int.ofNat j) = lo6 + j := by rw [bp_ hN]; simp
                have hl3 : m + j < p.length := by omega
                have hx3 : zs[lo6 + j]? = some (p[m + j]'hl3) := by
                  have h5 : ((zs.drop lo6).take len6)[j]? = some (p[m + j]'hl3) := by rw [hv6.eq, List.getElem?_drop]; exact List.getElem?_eq_getElem hl3
                  rw [List.getElem?_take, if_pos (by omega), List.getElem?_drop] at h5
                  exact h5
                have hd3 := List.drop_eq_getElem_cons hl3
                have hkm : p[m + j]'hl3 ∈ p := List.getElem_mem _
                generalize (p[m + j]'hl3) = k at hx3 hd3 hkm
                rw [hd3] at hgo
                simp only [secEntersL, OM.bind] at hgo
                have hnext : bi .add .i64 (Int.ofNat j) 1 = Int.ofNat (j + 1) := inext hN (by omega)
                cbv
                repeat' (first | exact True.intro | with_reducible refine dup ?_ | refine And.intro ?_ ?_ | (refine ob_ hN ⟨⟨by simp, by simp; omega⟩, rfl, trivial⟩ ?_; try cbv))
                refine op_ hN (load_arr ty_ok rfl rfl rfl wideS (Nat.le_of_ble_eq_true rfl) (by rw [hidx]; omega) ?_)
                intro x1 e1
                rw [hidx, hx3] at e1
                obtain rfl := Option.some.inj e1
                rw [Bool.true_and] at hgo
                have hsub1 : bi .sub .i64 (Int.ofNat len3) 1 = Int.ofNat (len3 - 1) := by rw [isub hN (by simp; omega) (by simp; omega)]; simp; omega
                have hadd1 : bi .add .i64 (Int.ofNat m) (Int.ofNat j) = Int.ofNat (m + j) := by rw [iadd hN (by simp only [Int.ofNat_eq_natCast]; omega) (by simp only [Int.ofNat_eq_natCast]; omega)]; rfl
                have hceq : bc .eql (Int.ofNat (m + j)) (Int.ofNat (len3 - 1)) = (p.drop (m + j + 1)).isEmpty := by
                  rw [ceq hN, Bool.eq_iff_iff]
                  simp only [decide_eq_true_eq, Int.ofNat_eq_natCast, List.isEmpty_iff, List.drop_eq_nil_iff]
                  omega
                generalize (p.drop (m + j + 1)).isEmpty = bv at hgo hceq
                cbv
                repeat' (first | exact True.intro | with_reducible refine dup ?_ | refine And.intro ?_ ?_ | (refine cond_ hN ?_ (fun h => by cases h); intro _; try cbv))
                all_goals
                  simp only [hsub1, hadd1, hceq]
                  cbv
                  refine op_ hN (op_vals (vals' := [.fn (.func 177) [] [], .ptr 0 0, .agg [.str k, .bool bv], .int .i64 at_]) (fun ρ F w _ => by simp [SV.denL, SV.den]) (call_ (sec_enters_spec hb s3 k bv at_ (hps k hkm)) hG [0, 1] rfl rfl rfl rfl rfl ?_))
                  generalize secEnters right k bv at_ s3 = y at hgo ⊢
                  obtain ⟨r, s4⟩ := y
                  cases r with
                  | err e a =>
                    simp only at hgo
                    subst hgo
                    cbv; exact hf _ _ (fin_ [] rfl rfl hK)
                  | ovf => simp only at hgo; subst hgo; exact hK.elim
                  | ok u =>
                    simp only at hgo
                    cbv
                    rw [hnext]
                    repeat' (first | exact True.intro | with_reducible refine dup ?_ | refine And.intro ?_ ?_)
                    all_goals exact hn _ (Leads.nxt (j + 1, s4) [] ⟨by omega, hgo⟩ (by simp only; omega) ⟨⟨rfl, rfl, rfl, rfl, rfl, rfl, rfl, rfl, trivial⟩, rfl, Nat.le_of_ble_eq_true rfl⟩)
              · rw [clt hN] at hlt
                simp only [decide_eq_true_eq, decide_eq_false_iff_not, Int.ofNat_eq_natCast, gt_iff_lt, ge_iff_le, Bool.not_eq_true', Bool.not_eq_false', Int.not_lt, Int.not_le] at hlt
                have hge : len6 ≤ j := by have : (len6 : Int) ≤ (j : Int) := hlt; omega
                have hgo : Z = (.ok (), s3) := by rw [← hgo, List.drop_eq_nil_of_le (by omega)]; rfl
                subst hgo
                simp only at hK
                obtain ⟨⟨ahead, line, chk, place, header, begun⟩, core⟩ := s3
                simp only [secHead] at hK
                cbv
                repeat' (first | exact True.intro | with_reducible refine dup ?_ | refine And.intro ?_ ?_)
                all_goals
                  refine op_ hN (op_open rfl 0 4 rfl rfl rfl rfl ?_)
                  rintro _ ⟨p', lo, len, cap, xs, q, lo2, len2, cap2, ys, hq, lo4, len4, cap4, zs4, tl, hv1, hv2, hv4, hl, htl, -, rfl⟩
                  obtain rfl := htl rfl
                  simp only at hv1 hv2 hv4 hl
                  refine store_ ty_ok rfl ?_
                  cbv
                  exact hf _ _ (fin_close rfl (.sec ⟨ahead, line, chk, place, p, begun⟩ true) [0, 1] [7, 8, 2, 10] _ (secTm hv1 hv2 hv3 ⟨hl.1, hl.2.1, hpl⟩) rfl (fin_ [] rfl rfl hK))
end Hx
