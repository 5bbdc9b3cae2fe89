/-
  Part of a proof.
-/
import Derived.Test.YtlmbbchfaoeebaaGreatDoorW16
import Derived.Test.YtlmbbchfaoeebaaGreatDoorW03
import Derived.Test.YtlmbbchfaoeebaaGreatDoorW02
set_option linter.unusedVariables false
set_option linter.unusedSimpArgs false
/- slices.Clone; sections.machine.assigns: the walk. -/
namespace Hx
open Go Sx Go.Proofs
set_option maxRecDepth 100000
set_option maxHeartbeats 4000000
set_option linter.unusedVariables false
set_option linter.unusedSimpArgs false
variable {GOk : Gl → Prop}
variable {right : Ev → Bool} {numRead : ByteArray → ByteArray × Int}
theorem clone_spec (q : Bool) (lo len cap : Nat) (zs l : List ByteArray) (hv : VecOk q lo len cap zs l) (hl : l.length ≤ 1000000) : Triple (BB Ip GOk) 174 1 2 [.vec q 0 1 lo len cap] [.arr q true 0 9 encS zs]
    (fun K => ∀ p lo' len' cap' xs, VecOk p lo' len' cap' xs l → K (.ret (.vec p 1 1 lo' len' cap')) [.arr q true 0 9 encS zs, .arr p true 1 9 encS xs]) := by
  have hlen := hv.length
  have hroom := hv.room
  have hfits := hv.fits
  refine triple_of BB_ok (tb := ty) rfl (n0 := 1) (fun _ : Unit => _) pl174 Tryz.call174 Tryz.func174 rfl (by kernel_rfl) (Nat.le_of_ble_eq_true rfl) (by decide) rfl pre_none ?_
  rintro G hG K hK W bi bc bs bk bu bb bo bg bl bp bn be Ncond Nob Nop Nloop Nscope hN Nfin hf _ _
  cbv
  refine op_ hN (eq_nil_slice ty_ok rfl rfl (by kernel_rfl) ?_)
  cases q with
  | false =>
    have hl0 : l = [] := List.eq_nil_of_length_eq_zero (by have := hv.pr rfl; omega)
    cbv
    refine cond_ hN ?_ (fun h => by cases h)
    intro _
    cbv
    refine hf _ _ (fin_noArr true 50 9 encS [] (fin_as (.vec false 50 1 0 0 0) (fun _ => rfl) (fin_ [50] rfl rfl (hK false 0 0 0 [] ⟨fun _ => rfl, Nat.le_refl _, Nat.le_refl _, by rw [hl0]; rfl⟩))))
  | true =>
    cbv
    refine cond_ hN (fun h => by cases h) ?_
    intro _
    cbv
    refine op_ hN (build0_ ty_ok encS rfl rfl rfl rfl rfl ?_)
    cbv
    refine op_ hN (append_vec (new := l) (z := ⟨#[]⟩) ty_ok rfl rfl rfl rfl (fun k => by simp) rfl rfl wideS rfl rfl (src_vec wideS rfl (by omega) (fun h => nomatch h) hv.eq) (fun h => nomatch h) (Nat.le_refl _) (Nat.le_refl _) (by simp; omega) (by decide) ?_)
    intro p' lo' m' cap' xs' hm' e1 e2 e3 e4
    cbv
    exact hf _ _ (fin_ [2] rfl rfl (hK p' lo' m' cap' xs' ⟨e1, e2, e3, by rw [e4]; rfl⟩))
theorem value_all (hb : RgtOk GOk right) (hr : ReadOk GOk numRead) : ∀ n, n < 4611686018427387904 → ∀ m, m ≤ n → ValueN GOk right numRead m := by
  intro n
  induction n with
  | zero =>
    intro _ m hm
    obtain rfl : m = 0 := by omega
    intro s t a g _ _
    exact ⟨Tryz.call178, fun G hG K hK => hK.elim⟩
  | succ n ih =>
    intro hn m hm
    by_cases h : m ≤ n
    · exact ih (by omega) m h
    · obtain rfl : m = n + 1 := by omega
      exact value_step hb hr n (row_step hb n (by omega) fun m hm => ih (by omega) m (by omega))
theorem assigns_spec (hb : RgtOk GOk right) (hr : ReadOk GOk numRead) (s : OS Sec) (t : ByteArray) (a g : Nat) (ht : t.size < 999000) (ha : a ≤ t.size) : Triple (BB Ip GOk) 165 3 3 [.ptr 0 0, .ptr 2 0] (rcS s t a g)
    (fun K => PostV t g K (secAssigns right numRead t a s)) := by
  refine triple_of BB_ok (tb := ty) rfl (n0 := 3) (fun _ : Unit => _) pl165 Tryz.call165 Tryz.func165 rfl (by kernel_rfl) (Nat.le_of_ble_eq_true rfl) (by decide) rfl pre_none ?_
  rintro G hG K hK W bi bc bs bk bu bb bo bg bl bp bn be Ncond Nob Nop Nloop Nscope hN Nfin hf _ _
  cbv
  refine op_ hN (call_ (path_spec t a (tvS g) (by omega) ha) hG [2] rfl rfl rfl rfl rfl ?_)
  have hpth := pathP_ok t a ha (by omega)
  simp only [secAssigns] at hK
  generalize pathP t a = z at hK hpth ⊢
  cases z with
  | err e x => simp only [OM.bind, liftR] at hK; cbv; exact hf _ _ (fin_ [] rfl rfl hK)
  | ovf => simp only [OM.bind, liftR] at hK; exact hK.elim
  | ok kp =>
    obtain ⟨k, l⟩ := kp
    simp only [OM.bind, liftR] at hK
    obtain ⟨hk, hl1, hl2, hl3⟩ := hpth k l rfl
    intro p lo len cap xs hv
    cbv
    refine op_ hN (call_ (blanks_spec t k (tvS g) (by omega)) hG [2] rfl rfl rfl rfl rfl ?_)
    intro b1 hb1
    have hb1l := blanks_le t k hk
    rw [← hb1] at hK hb1l
    cbv
    refine op_ hN (call_ (must_spec t b1 (tvS g) 61 (by omega)) hG [2] rfl rfl rfl rfl rfl ?_)
    refine ⟨fun hi => ?_, fun hi => ?_⟩
    · have hklt := isB_lt hi
      rw [show mustM t 61 b1 s = (.ok (b1 + 1), s) by simp only [mustM]; rw [if_pos hi]] at hK
      simp only at hK
      have hsub : bi .sub .i64 (Int.ofNat (b1 + 1)) 1 = Int.ofNat (b1 + 1) - 1 := by rw [isub hN (by simp only [Int.ofNat_eq_natCast]; omega) (by simp only [Int.ofNat_eq_natCast]; omega)]
      obtain ⟨kk, hkk⟩ : ∃ x, Int.ofNat (b1 + 1) - 1 = x := ⟨_, rfl⟩
      obtain ⟨b2, hb2⟩ : ∃ x, b1 + 1 = x := ⟨_, rfl⟩
      rw [hkk, hb2] at hK
      rw [hkk, hb2] at hsub
      clear hkk
      cbv
      rw [show b1.succ = b2 from hb2]
      simp only [hsub]
      refine op_ hN (call_ (sec_begins_spec hb s kk) hG [0, 1] rfl rfl rfl rfl rfl ?_)
      generalize secBegins right kk s = y at hK ⊢
      obtain ⟨r, s1⟩ := y
      cases r with
      | err e a => cbv; exact hf _ _ (fin_ [] rfl rfl hK)
      | ovf => exact hK.elim
      | ok u =>
        simp only at hK
        obtain ⟨⟨ahead, line, chk, place, header, begun⟩, core⟩ := s1
        simp only [secTo] at hK
        by_cases hbig : header.any (fun k => decide (k.size ≥ 1000000)) = true
        · rw [if_pos hbig] at hK; exact hK.elim
        rw [if_neg hbig] at hK
        have hhs : ∀ x ∈ header, x.size < 1000000 := by
          intro x hx
          rw [List.any_eq_true] at hbig
          refine Nat.lt_of_not_le fun h => hbig ⟨x, hx, decide_eq_true h⟩
        clear hbig
        cbv
        refine op_ hN (op_open rfl 0 4 rfl rfl rfl rfl ?_)
        rintro _ ⟨p', lo1, len1, cap1, xs1, q, lo2, len2, cap2, ys, hq, lo4, len4, cap4, zs4, tl, hv1, hv2, hv4, hl, htl, -, rfl⟩
        obtain rfl := htl rfl
        simp only at hv1 hv2 hv4 hl
        refine load_ ty_ok rfl ?_
        have hlen2 := hv2.length
        have hroom2 := hv2.room
        have hfits2 := hv2.fits
        have hlen := hv.length
        have hroom := hv.room
        have hfits := hv.fits
        cbv
        refine op_ hN (call_ (clone_spec hq lo4 len4 cap4 zs4 header hv4 hl.2.2) hG [6] rfl rfl rfl rfl rfl ?_)
        intro pc loc lenc capc xsc hvc
        have hlenc := hvc.length
        have hroomc := hvc.room
        have hfitsc := hvc.fits
        cbv
        refine op_ hN (append_vec (new := l) (z := ⟨#[]⟩) ty_ok rfl rfl rfl rfl (fun k => by simp) rfl rfl wideS rfl rfl (src_vec wideS rfl (by omega) (fun h => by have := hv.pr h; omega) hv.eq) hvc.pr hvc.room hvc.fits (by simp; omega) (by decide) ?_)
        intro p9 lo9 m9 cap9 xs9 hm9 e1 e2 e3 e4
        have hv9 : VecOk p9 lo9 m9 cap9 xs9 (header ++ l) := ⟨e1, e2, e3, by rw [e4, hvc.eq]⟩
        clear e1 e2 e3 e4
        have hall : ∀ x ∈ header ++ l, x.size < 1000000 := fun x hx => (List.mem_append.1 hx).elim (hhs x) (hl2 x)
        have hl0 : 0 < l.length := List.length_pos_iff.2 hl1
        have hal : (header ++ l).length = header.length + l.length := List.length_append
        generalize header ++ l = all at hv9 hall hK hal
        have hlen9 := hv9.length
        have hroom9 := hv9.room
        have hfits9 := hv9.fits
        have hp9 : p9 = true := by
          cases p9 with
          | true => rfl
          | false => have := hv9.pr rfl; omega
        subst hp9
        obtain ⟨last, hlast⟩ : ∃ x, m9 - 1 = x := ⟨_, rfl⟩
        have hsub9 : bi .sub .i64 (Int.ofNat m9) 1 = Int.ofNat last := by rw [isub hN (by simp only [Int.ofNat_eq_natCast]; omega) (by simp only [Int.ofNat_eq_natCast]; omega), ← hlast]; simp only [Int.ofNat_eq_natCast]; omega
        simp only [secAll] at hK
        rw [hlen9, hlast] at hK
        cbv
        simp only [hsub9]
        cbv
        repeat' (first | exact True.intro | with_reducible refine dup ?_ | refine And.intro ?_ ?_)
        all_goals
          refine op_ hN (call_ (common_spec q true lo2 len2 cap2 lo9 m9 cap9 ys place xs9 all hv2 hv9 last (by omega) (by omega) (by omega)) hG [5, 9] rfl rfl rfl rfl rfl ?_)
          intro n hn hn1 hn2 hn3
          rw [← hn] at hK
          cbv
          refine op_ hN (op_close rfl (.sec ⟨ahead, line, chk, place, header, begun⟩ true) [0, 1] [4, 5, 6, 7] _ (secTm hv1 hv2 hv4 hl) rfl rfl (call_ (sec_leaves_spec hb ⟨⟨ahead, line, chk, place, header, begun⟩, core⟩ n kk (by simp only; omega)) hG [0, 1] rfl rfl rfl rfl rfl ?_))
          simp only [OM.bind] at hK
          generalize secLeaves right n kk ⟨⟨ahead, line, chk, place, header, begun⟩, core⟩ = y at hK ⊢
          obtain ⟨r, s2⟩ := y
          cases r with
          | err e a => cbv; exact hf _ _ (fin_ [] rfl rfl hK)
          | ovf => exact hK.elim
          | ok u =>
            simp only at hK
            obtain ⟨lo6, hlo6⟩ : ∃ z, sloff lo9 n cap9 = z := ⟨_, rfl⟩
            obtain ⟨len6, hlen6⟩ : ∃ z, last - n = z := ⟨_, rfl⟩
            obtain ⟨cap6, hcap6⟩ : ∃ z, cap9 - n = z := ⟨_, rfl⟩
            have hvt : VecOk true lo9 last cap9 xs9 (all.take last) := ⟨hv9.pr, hv9.room, by omega, by rw [← hv9.eq, List.take_take, Nat.min_eq_left (by omega)]⟩
            have hv6 : VecOk true lo6 len6 cap6 xs9 ((all.take last).drop n) := hlo6 ▸ hlen6 ▸ hcap6 ▸ vec_drop hvt (by omega)
            have hLm : ∀ x ∈ (all.take last).drop n, x.size < 1000000 := fun x hx => hall x (List.mem_of_mem_take (List.mem_of_mem_drop hx))
            generalize (all.take last).drop n = L at hv6 hLm hK
            have hlen6' := hv6.length
            have hroom6 := hv6.room
            have hfits6 := hv6.fits
            obtain ⟨Z, hZ⟩ : ∃ Z, secEntersL right false kk L s2 = Z := ⟨_, rfl⟩
            rw [hZ] at hK
            have hb1 : bo lo9 (Int.ofNat n) cap9 = lo6 := by rw [bo_ hN, ← hlo6]; rfl
            have hb2 : bg (Int.ofNat last) (Int.ofNat n) = len6 := by rw [bg_ hN, ← hlen6]; rfl
            have hb3 : bl cap9 (Int.ofNat n) = cap6 := by rw [bl_ hN, ← hcap6]; rfl
            cbv
            refine ob_ hN ⟨⟨by simp, by simp only [Int.ofNat_eq_natCast]; omega, by simp only [Int.ofNat_eq_natCast]; omega⟩, trivial⟩ ?_
            simp only [hb1, hb2, hb3]
            cbv
            refine loopN_ hN (loop_ hN ty_ok mixed (ι := Nat × OS Sec) (fun y => ⟨[(0, .ptr 0 0), (1, .ptr 2 0), (5, .int .i64 kk), (6, .vec true 3 1 lo9 m9 cap9), (7, .int .i64 (Int.ofNat last)), (49, .vec true 3 1 lo6 len6 cap6), (50, .int .i64 (Int.ofNat len6)), (51, .int .i64 (Int.ofNat y.1))], ocS y.2 ++ [.arr true true 3 9 encS xs9, rowc 2 t b2 (tvS g), .at_ 0 g], 4⟩)
              (fun y => y.1 ≤ len6 ∧ secEntersL right false kk (L.drop y.1) y.2 = Z) (fun y => len6 - y.1) (Leads.idx (0, s2) [9] ⟨Nat.zero_le _, hZ⟩ ⟨⟨rfl, rfl, rfl, rfl, rfl, rfl, rfl, rfl, trivial⟩, rfl, Nat.le_of_ble_eq_true rfl⟩) ?_)
            rintro ⟨j, s3⟩ ⟨hj, hgo⟩ Nnext hnx _
            simp only at hj hgo
            cbv
            refine cond_ hN ?_ ?_ <;> intro hlt
            · rw [clt hN] at hlt
              simp only [decide_eq_true_eq, decide_eq_false_iff_not, Int.ofNat_eq_natCast, gt_iff_lt, ge_iff_le, Bool.not_eq_true', Bool.not_eq_false', Int.not_lt, Int.not_le] at hlt
              have hlt : j < len6 := by have : (j : Int) < (len6 : Int) := hlt; omega
              have hidx : bp lo6 (Int.ofNat j) = lo6 + j := by rw [bp_ hN]; simp
              have hl3 : j < L.length := by omega
              have hx3 : xs9[lo6 + j]? = some (L[j]'hl3) := by
                have h5 : ((xs9.drop lo6).take len6)[j]? = some (L[j]'hl3) := by rw [hv6.eq]; exact List.getElem?_eq_getElem hl3
                rw [List.getElem?_take, if_pos (by omega), List.getElem?_drop] at h5
                exact h5
              have hd3 := List.drop_eq_getElem_cons hl3
              have hkm := hLm _ (List.getElem_mem hl3)
              generalize (L[j]'hl3) = kx at hx3 hd3 hkm
              rw [hd3] at hgo
              simp only [secEntersL, OM.bind] at hgo
              rw [Bool.false_and] at hgo
              have hnext : bi .add .i64 (Int.ofNat j) 1 = Int.ofNat (j + 1) := inext hN (by omega)
              cbv
              repeat' (first | exact True.intro | with_reducible refine dup ?_ | refine And.intro ?_ ?_ | (refine ob_ hN ⟨⟨by simp, by simp; omega⟩, rfl, trivial⟩ ?_; try cbv))
              refine op_ hN (load_arr ty_ok rfl rfl rfl wideS (Nat.le_of_ble_eq_true rfl) (by rw [hidx]; omega) ?_)
              intro x1 e1
              rw [hidx, hx3] at e1
              obtain rfl := Option.some.inj e1
              cbv
              refine op_ hN (op_vals (vals' := [.fn (.func 177) [] [], .ptr 0 0, .agg [.str kx, .bool false], .int .i64 kk]) (fun ρ F w _ => by simp [SV.denL, SV.den]) (call_ (sec_enters_spec hb s3 kx false kk (by omega)) hG [0, 1] rfl rfl rfl rfl rfl ?_))
              generalize secEnters right kx false kk s3 = y at hgo ⊢
              obtain ⟨r, s4⟩ := y
              cases r with
              | err e a =>
                simp only at hgo
                subst hgo
                cbv; exact hf _ _ (fin_ [] rfl rfl hK)
              | ovf => simp only at hgo; subst hgo; exact hK.elim
              | ok u =>
                simp only at hgo
                cbv
                rw [hnext]
                repeat' (first | exact True.intro | with_reducible refine dup ?_ | refine And.intro ?_ ?_)
                all_goals exact hnx _ (Leads.nxt (j + 1, s4) [3] ⟨by omega, hgo⟩ (by simp only; omega) ⟨⟨rfl, rfl, rfl, rfl, rfl, rfl, rfl, rfl, trivial⟩, rfl, Nat.le_of_ble_eq_true rfl⟩)
            · rw [clt hN] at hlt
              simp only [decide_eq_true_eq, decide_eq_false_iff_not, Int.ofNat_eq_natCast, gt_iff_lt, ge_iff_le, Bool.not_eq_true', Bool.not_eq_false', Int.not_lt, Int.not_le] at hlt
              have hge : len6 ≤ j := by have : (len6 : Int) ≤ (j : Int) := hlt; omega
              have hgo : Z = (.ok (), s3) := by rw [← hgo, List.drop_eq_nil_of_le (by omega)]; rfl
              subst hgo
              simp only at hK
              have hidx : bp lo9 (Int.ofNat last) = lo9 + last := by rw [bp_ hN]; simp
              have hl9 : last < all.length := by omega
              have hx9 : xs9[lo9 + last]? = some (all[last]'hl9) := by
                have h5 : ((xs9.drop lo9).take m9)[last]? = some (all[last]'hl9) := by rw [hv9.eq]; exact List.getElem?_eq_getElem hl9
                rw [List.getElem?_take, if_pos (by omega), List.getElem?_drop] at h5
                exact h5
              have hkm := hall _ (List.getElem_mem hl9)
              have hgd : all.getD last ⟨#[]⟩ = all[last]'hl9 := by rw [List.getD_eq_getElem?_getD, List.getElem?_eq_getElem hl9]; rfl
              rw [hgd] at hK
              clear hgd
              generalize (all[last]'hl9) = kx at hx9 hkm hK
              cbv
              repeat' (first | exact True.intro | with_reducible refine dup ?_ | refine And.intro ?_ ?_ | (refine ob_ hN ⟨⟨by simp, by simp; omega⟩, rfl, trivial⟩ ?_; try cbv))
              refine op_ hN (load_arr ty_ok rfl rfl rfl wideS (Nat.le_of_ble_eq_true rfl) (by rw [hidx]; omega) ?_)
              intro x1 e1
              rw [hidx, hx9] at e1
              obtain rfl := Option.some.inj e1
              cbv
              refine op_ hN (call_ (sec_says_spec hb s3 ⟨8, kx, ⟨#[]⟩⟩ kk (okE8 kx (by omega))) hG [0, 1] rfl rfl rfl rfl rfl ?_)
              generalize secSays right ⟨8, kx, ⟨#[]⟩⟩ kk s3 = y at hK ⊢
              obtain ⟨r, s4⟩ := y
              cases r with
              | err e a => cbv; exact hf _ _ (fin_ [] rfl rfl hK)
              | ovf => exact hK.elim
              | ok u =>
                simp only at hK
                cbv
                refine op_ hN (call_ (blanks_spec t b2 (tvS g) (by omega)) hG [2] rfl rfl rfl rfl rfl ?_)
                intro b3 hb3
                have hb3l := blanks_le t b2 (by omega)
                rw [← hb3] at hK hb3l
                simp only [secValueA] at hK
                cbv
                refine op_ hN (call_ (value_all hb hr (4 * (t.size + 2 - b3)) (by omega) _ (Nat.le_refl _) s4 t b3 g (by omega) hb3l) hG [0, 1, 2] rfl rfl rfl rfl rfl ?_)
                generalize secValue right numRead t (4 * (t.size + 2 - b3)) b3 s4 = y at hK ⊢
                obtain ⟨r, s'⟩ := y
                cases r with
                | ok a => cbv; exact hf _ _ (fin_ [] rfl rfl hK)
                | err e a => cbv; exact hf _ _ (fin_ [] rfl rfl hK)
                | ovf => exact hK.elim
    · rw [show mustM t 61 b1 s = (.err 2 (Int.ofNat b1), s) by simp only [mustM]; rw [if_neg (fun h => by rw [hi] at h; cases h)]] at hK
      cbv
      exact hf _ _ (fin_ [] rfl rfl hK)
end Hx
