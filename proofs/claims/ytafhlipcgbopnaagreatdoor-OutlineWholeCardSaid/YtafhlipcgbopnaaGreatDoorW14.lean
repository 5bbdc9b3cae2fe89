/-
  Part of a proof.
-/
import Derived.Test.YtafhlipcgbopnaaGreatDoorW12
import Derived.Test.YtafhlipcgbopnaaGreatDoorW13
set_option linter.unusedVariables false
set_option linter.unusedSimpArgs false
/- outline.machine.flow, row: the walks. -/
namespace Hx
open Go Sx Go.Proofs
set_option maxRecDepth 100000
set_option maxHeartbeats 4000000
set_option linter.unusedVariables false
set_option linter.unusedSimpArgs false
variable {GOk : Gl → Prop}
variable {right : Ev → Bool} {numRead : ByteArray → ByteArray × Int}
theorem ancGet_len (a : Anc) (name : ByteArray) : (ancGet a name).1.1.length ≤ 40 := by
  unfold ancGet
  split
  · exact Nat.zero_le _
  · split
    · exact Nat.zero_le _
    · split
      · exact Nat.zero_le _
      · simp only; omega
/-- with fuel, the more the better -/
def FlowN (GOk : Gl → Prop) (right : Ev → Bool) (numRead : ByteArray → ByteArray × Int) (n : Nat) : Prop :=
  ∀ s t a g, t.size < 1000000 → a ≤ t.size → Triple (BB Ip GOk) 179 3 3 [.ptr 0 0, .ptr 2 0] (rc s t a g) (fun K => PostP t g K (flowM right numRead t n a s))
def RowN (GOk : Gl → Prop) (right : Ev → Bool) (numRead : ByteArray → ByteArray × Int) (n : Nat) : Prop :=
  ∀ s t a g kind last fin, t.size < 1000000 → a < t.size → (kind = 5 ∨ kind = 7) → (fin = 6 ∨ fin = 9) → Triple (BB Ip GOk) 187 3 3 [.ptr 0 0, .ptr 2 0, .int .i64 kind, .int .u8 last, .int .i64 fin] (rc s t a g) (fun K => PostP t g K (rowM right numRead t n a kind last fin s))
theorem flow_step (hb : Below GOk right) (hr : ReadOk GOk numRead) (n : Nat) (hrow : RowN GOk right numRead n) : FlowN GOk right numRead (n + 1) := by
  intro s t a g ht ha
  obtain ⟨⟨ahead, line, chk, anc, opn, waits⟩, core⟩ := s
  refine triple_of BB_ok (tb := ty) rfl (n0 := 7) (fun y : {cs' // Tm (.mch ⟨ahead, line, chk, anc, opn, waits⟩ true) cs'} => csRen (sg [0, 1] 3) y.1 ++ [.abs (.core core) [1, 0], rowc 2 t a (tellV g), .at_ 0 g]) pl179 Tryz.call179 Tryz.func179 rfl (by kernel_rfl) (Nat.le_of_ble_eq_true rfl) (by decide) rfl (pre_open rfl rfl rfl) ?_
  rintro G hG K hK W bi bc bs bk bu bb bo bg bl bp bn be Ncond Nob Nop Nloop Nscope hN Nfin hf _ ⟨cs', hT⟩
  obtain ⟨p, lo, len, cap, xs, q, lo2, len2, cap2, ys, tl, hv1, hv2, hl, htl, -, rfl⟩ := id hT
  obtain rfl := htl rfl
  simp only at hv1 hv2 hl
  have hmc : ∀ chk anc w, Tm (.mch ⟨ahead, line, chk, anc, opn, w⟩ true) [.cells 0 55 [.int .i64 (Int.ofNat ahead), .vec p 2 1 lo len cap, .ptr 4 0, .ptr 5 0, .vec q 3 2 lo2 len2 cap2, .bool w, .fn (.func 25) [.ptr 1 0] []], .arr p true 2 5 encB xs, .arr q true 3 224 encK ys, .abs (.chk chk) [4], .abs (.anc anc) [5]] :=
    fun chk anc w => ⟨p, lo, len, cap, xs, q, lo2, len2, cap2, ys, _, hv1, hv2, hl, fun _ => rfl, (fun h => nomatch h), rfl⟩
  cbv
  refine op_ hN (call_ (is_spec t a (tellV g) 42) hG [2] rfl rfl rfl rfl rfl ?_)
  intro m hm
  cases m with
  | true =>
    have hlt : a < t.size := isB_lt hm.symm
    cbv
    refine cond_ hN (fun _ => ?_) (fun h => by simp at h)
    have hadd : bi .add .i64 (Int.ofNat a) 1 = Int.ofNat (a + 1) := inext hN (by omega)
    have hM : flowM right numRead t (n + 1) a ⟨⟨ahead, line, chk, anc, opn, waits⟩, core⟩ = refM right t a ⟨⟨ahead, line, chk, anc, opn, waits⟩, core⟩ := by
      simp only [flowM]; rw [if_pos hm.symm]
    cbv
    simp only [hadd]
    cbv
    repeat' (first | exact True.intro | with_reducible refine dup ?_ | refine And.intro ?_ ?_)
    all_goals
      refine op_ hN (call_ (Name_spec t (a + 1) (tellV g) (by omega) hlt) hG [2] rfl rfl rfl rfl rfl ?_)
      intro k e hke
      have hke1 : (nameGo t (a + 1) true (a + 1)).1 = k := by rw [← hke]
      have hke2 : (nameGo t (a + 1) true (a + 1)).2 = e := by rw [← hke]
      have hkle := nameGo_le t (a + 1) true (a + 1) hlt
      rw [hke1] at hkle
      simp only [refM, hke1, hke2] at hM
      refine ⟨fun he => ?_, fun he => ?_⟩
      · rw [if_neg (by simpa using he)] at hM
        have hsub : bi .sub .i64 (Int.ofNat k) 1 = Int.ofNat k - 1 := by rw [isub hN (by simp; omega) (by simp; omega)]
        obtain ⟨kk, hkk⟩ : ∃ x, Int.ofNat k - 1 = x := ⟨_, rfl⟩
        rw [hkk] at hsub hM
        generalize subs t (Int.ofNat (a + 1)) (Int.ofNat k) = name at hM ⊢
        cbv
        repeat' (first | exact True.intro | with_reducible refine dup ?_ | refine And.intro ?_ ?_)
        all_goals
          refine op_ hN (call_ (hb.get anc name) hG [6] rfl rfl rfl rfl rfl ?_)
          intro l e2 anc1 he2 hok p2 lo3 len3 cap3 xs2 hv3
          rw [← he2] at hM
          simp only at hM
          cbv
          refine cond_ hN (fun h1 => ?_) (fun h1 => ?_)
          · rw [cne hN] at h1; simp at h1
            rw [if_pos h1] at hM
            rw [hM] at hK
            cbv
            simp only [hsub]
            refine op_ hN (call_ (fail_spec e2 kk) hG [] rfl rfl rfl rfl rfl ?_)
            cbv
            exact hf _ _ (fin_close rfl (.mch ⟨ahead, line, chk, anc1, opn, waits⟩ true) [0, 1] [3, 4, 5, 6] _ (hmc chk anc1 waits) rfl (fin_ [] rfl rfl hK))
          · rw [cne hN] at h1; simp at h1
            rw [if_neg (by simpa using h1)] at hM
            rw [hM] at hK
            have hlen3 := hv3.length
            have hl40 : l.length ≤ 40 := by have := ancGet_len anc name; rw [← he2] at this; exact this
            have hroom3 := hv3.room
            have hfits3 := hv3.fits
            cbv
            refine loopN_ hN (loop_ hN ty_ok mixed (ι := Nat × OS) (fun y => ⟨[(0, .ptr 0 0), (1, .ptr 2 0), (37, .vec p2 3 3 lo3 len3 cap3), (38, .int .i64 (Int.ofNat len3)), (39, .int .i64 (Int.ofNat y.1))],
                [.arr p2 true 3 44 encE xs2, .abs (.mch y.2.m true) [0, 1], .abs (.core y.2.c) [1, 0], rowc 2 t k (tellV g), .at_ 0 g], 4⟩)
              (fun y => y.1 ≤ len3 ∧ saysL right (l.drop y.1) kk y.2 = saysL right l kk ⟨⟨ahead, line, chk, anc1, opn, waits⟩, core⟩) (fun y => len3 - y.1) ?_ ?_)
            · refine leads_close rfl (.mch ⟨ahead, line, chk, anc1, opn, waits⟩ true) [0, 1] [3, 4, 5, 6] _ (hmc chk anc1 waits) rfl ?_
              exact Leads.idx (0, ⟨⟨ahead, line, chk, anc1, opn, waits⟩, core⟩) [19] ⟨Nat.zero_le _, rfl⟩ ⟨⟨rfl, rfl, rfl, rfl, rfl, trivial⟩, rfl, Nat.le_of_ble_eq_true rfl⟩
            rintro ⟨j, sj⟩ ⟨hj1, hj2⟩ Nnext hn _
            simp only at hj1 hj2
            cbv
            refine cond_ hN (fun h3 => ?_) (fun h3 => ?_)
            · rw [clt hN] at h3
              simp only [decide_eq_true_eq, decide_eq_false_iff_not, Int.ofNat_eq_natCast, gt_iff_lt, ge_iff_le, Bool.not_eq_true', Bool.not_eq_false', Int.not_lt, Int.not_le] at h3
              have h3' : j < len3 := by omega
              have hpt : p2 = true := by
                cases p2 with
                | true => rfl
                | false => have := hv3.pr rfl; omega
              have hidx : bp lo3 (Int.ofNat j) = lo3 + j := by rw [bp_ hN]; simp
              have hjl : j < l.length := by omega
              have hx : xs2[lo3 + j]? = some (l[j]'hjl) := by
                have h4 := hv3.eq
                have h5 : ((xs2.drop lo3).take len3)[j]? = some (l[j]'hjl) := by rw [h4]; exact List.getElem?_eq_getElem hjl
                rw [List.getElem?_take, if_pos h3', List.getElem?_drop] at h5
                exact h5
              have hdrop : l.drop j = (l[j]'hjl) :: l.drop (j + 1) := List.drop_eq_getElem_cons hjl
              have hokx := hok _ (List.getElem_mem hjl)
              generalize (l[j]'hjl) = x at hx hdrop hokx
              obtain ⟨kind, text, val⟩ := x
              cbv
              refine ob_ hN ⟨⟨by simp, by simpa using h3'⟩, hpt, trivial⟩ ?_
              cbv
              refine op_ hN (load_arr ty_ok rfl hpt rfl wideE (Nat.le_of_ble_eq_true rfl) (by rw [hidx]; omega) ?_)
              intro x2 hx2
              rw [hidx, hx] at hx2
              obtain rfl := (Option.some.inj hx2).symm
              cbv
              simp only [hsub]
              repeat' (first | exact True.intro | with_reducible refine dup ?_ | refine And.intro ?_ ?_)
              all_goals
                refine op_ hN (call_ (says_spec hb sj ⟨kind, text, val⟩ kk hokx) hG [0, 1] rfl rfl rfl rfl rfl ?_)
                rw [hdrop] at hj2
                simp only [saysL, OM.bind] at hj2
                generalize saysM right ⟨kind, text, val⟩ kk sj = y at hj2 ⊢
                obtain ⟨r, s'⟩ := y
                cases r with
                | err e a =>
                  simp only at hj2
                  simp only [OM.bind] at hK
                  rw [← hj2] at hK
                  cbv; exact hf _ _ (fin_ [] rfl rfl hK)
                | ovf =>
                  simp only at hj2
                  simp only [OM.bind] at hK
                  rw [← hj2] at hK
                  exact hK.elim
                | ok u =>
                  simp only at hj2
                  cbv
                  refine hn _ (Leads.nxt (j + 1, s') [3] ⟨h3', hj2⟩ (by simp only; omega) ⟨⟨rfl, rfl, rfl, rfl, ?_, trivial⟩, rfl, Nat.le_of_ble_eq_true rfl⟩)
                  exact congrArg (fun z => some (SV.int .i64 z)) (inext hN (by omega))
            · rw [clt hN] at h3
              simp only [decide_eq_true_eq, decide_eq_false_iff_not, Int.ofNat_eq_natCast, gt_iff_lt, ge_iff_le, Bool.not_eq_true', Bool.not_eq_false', Int.not_lt, Int.not_le] at h3
              have hje : j = len3 := by omega
              rw [hje, ← hlen3, List.drop_length] at hj2
              simp only [saysL, OM.ret] at hj2
              simp only [OM.bind, OM.ret] at hK
              rw [← hj2] at hK
              cbv
              exact hf _ _ (fin_ [] rfl rfl hK)
      · rw [if_pos he] at hM
        rw [hM] at hK
        cbv
        exact hf _ _ (fin_close rfl (.mch ⟨ahead, line, chk, anc, opn, waits⟩ true) [0, 1] [3, 4, 5, 6] _ (hmc chk anc waits) rfl (fin_ [] rfl rfl hK))
  | false =>
    cbv
    refine cond_ hN (fun h => by simp at h) (fun _ => ?_)
    cbv
    refine op_ hN (call_ (is_spec t a (tellV g) 91) hG [2] rfl rfl rfl rfl rfl ?_)
    intro m2 hm2
    cases m2 with
    | true =>
      have hM : flowM right numRead t (n + 1) a ⟨⟨ahead, line, chk, anc, opn, waits⟩, core⟩ = rowM right numRead t n a 5 93 6 ⟨⟨ahead, line, chk, anc, opn, waits⟩, core⟩ := by
        simp only [flowM]; rw [if_neg (by rw [← hm]; decide), if_pos hm2.symm]
      rw [hM] at hK
      cbv
      refine cond_ hN (fun _ => ?_) (fun h => by simp at h)
      cbv
      refine op_ hN (op_close rfl (.mch ⟨ahead, line, chk, anc, opn, waits⟩ true) [0, 1] [3, 4, 5, 6] _ (hmc chk anc waits) rfl rfl (call_ (hrow ⟨⟨ahead, line, chk, anc, opn, waits⟩, core⟩ t a g 5 93 6 ht (isB_lt hm2.symm) (.inl rfl) (.inl rfl)) hG [0, 1, 2] rfl rfl rfl rfl rfl ?_))
      generalize rowM right numRead t n a 5 93 6 ⟨⟨ahead, line, chk, anc, opn, waits⟩, core⟩ = y at hK ⊢
      obtain ⟨r, s'⟩ := y
      cases r with
      | ok a => cbv; exact hf _ _ (fin_ [] rfl rfl hK)
      | err e a => cbv; exact hf _ _ (fin_ [] rfl rfl hK)
      | ovf => exact hK.elim
    | false =>
      cbv
      refine cond_ hN (fun h => by simp at h) (fun _ => ?_)
      cbv
      refine op_ hN (call_ (is_spec t a (tellV g) 123) hG [2] rfl rfl rfl rfl rfl ?_)
      intro m3 hm3
      cases m3 with
      | true =>
        have hM : flowM right numRead t (n + 1) a ⟨⟨ahead, line, chk, anc, opn, waits⟩, core⟩ = rowM right numRead t n a 7 125 9 ⟨⟨ahead, line, chk, anc, opn, waits⟩, core⟩ := by
          simp only [flowM]; rw [if_neg (by rw [← hm]; decide), if_neg (by rw [← hm2]; decide), if_pos hm3.symm]
        rw [hM] at hK
        cbv
        refine cond_ hN (fun _ => ?_) (fun h => by simp at h)
        cbv
        refine op_ hN (op_close rfl (.mch ⟨ahead, line, chk, anc, opn, waits⟩ true) [0, 1] [3, 4, 5, 6] _ (hmc chk anc waits) rfl rfl (call_ (hrow ⟨⟨ahead, line, chk, anc, opn, waits⟩, core⟩ t a g 7 125 9 ht (isB_lt hm3.symm) (.inr rfl) (.inr rfl)) hG [0, 1, 2] rfl rfl rfl rfl rfl ?_))
        generalize rowM right numRead t n a 7 125 9 ⟨⟨ahead, line, chk, anc, opn, waits⟩, core⟩ = y at hK ⊢
        obtain ⟨r, s'⟩ := y
        cases r with
        | ok a => cbv; exact hf _ _ (fin_ [] rfl rfl hK)
        | err e a => cbv; exact hf _ _ (fin_ [] rfl rfl hK)
        | ovf => exact hK.elim
      | false =>
        have hM : flowM right numRead t (n + 1) a ⟨⟨ahead, line, chk, anc, opn, waits⟩, core⟩ = (match scalM right numRead t a ⟨⟨ahead, line, chk, anc, opn, waits⟩, core⟩ with
            | (.ok (some k), s) => (.ok k, s)
            | (.ok none, s) => (.err 2 (Int.ofNat a), s)
            | (.err e a, s) => (.err e a, s)
            | (.ovf, s) => (.ovf, s)) := by
          simp only [flowM]; rw [if_neg (by rw [← hm]; decide), if_neg (by rw [← hm2]; decide), if_neg (by rw [← hm3]; decide)]
          simp only [scalM]
          cases scalarR numRead t a true with
          | none => rfl
          | some y =>
            obtain ⟨k, e, x⟩ := y
            simp only
            split
            · rfl
            · simp only [OM.bind]
              generalize saysM right x (Int.ofNat k - 1) ⟨⟨ahead, line, chk, anc, opn, waits⟩, core⟩ = z
              obtain ⟨r, s'⟩ := z
              cases r <;> rfl
        rw [hM] at hK
        cbv
        refine cond_ hN (fun h => by simp at h) (fun _ => ?_)
        cbv
        refine op_ hN (op_close rfl (.mch ⟨ahead, line, chk, anc, opn, waits⟩ true) [0, 1] [3, 4, 5, 6] _ (hmc chk anc waits) rfl rfl (op_vals (vals' := [.fn (.func 188) [] [], .ptr 2 0, .bool true]) (fun _ _ _ _ => rfl) (call_ (scalar_spec hb hr ⟨⟨ahead, line, chk, anc, opn, waits⟩, core⟩ t a g ht ha) hG [0, 1, 2] rfl rfl rfl rfl rfl ?_)))
        generalize scalM right numRead t a ⟨⟨ahead, line, chk, anc, opn, waits⟩, core⟩ = y at hK ⊢
        obtain ⟨r, s'⟩ := y
        cases r with
        | err e a => cbv; exact hf _ _ (fin_ [] rfl rfl hK)
        | ovf => exact hK.elim
        | ok o =>
          cases o with
          | some k =>
            cbv
            refine cond_ hN (fun h => by simp at h) (fun _ => ?_)
            cbv
            exact hf _ _ (fin_ [] rfl rfl hK)
          | none =>
            cbv
            refine cond_ hN (fun _ => ?_) (fun h => by simp at h)
            cbv
            refine op_ hN (call_ (bad_spec t a (tellV g)) hG [2] rfl rfl rfl rfl rfl ?_)
            cbv
            exact hf _ _ (fin_ [] rfl rfl hK)
end Hx
