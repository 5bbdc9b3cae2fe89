/-
  Part of a proof.
-/
import Derived.Test.YtafhlipcgbopnaaGreatDoorW08
import Derived.Test.YtafhlipcgbopnaaGreatDoorW10
set_option linter.unusedVariables false
set_option linter.unusedSimpArgs false
/- outline.machine.item, behind, part, field: the walks. -/
namespace Hx
open Go Sx Go.Proofs
set_option maxRecDepth 100000
set_option maxHeartbeats 4000000
set_option linter.unusedVariables false
set_option linter.unusedSimpArgs false
variable {GOk : Gl → Prop}
def tellV (g : Nat) : Value := .func (.func 156) #[.pointer (some ⟨g, 0, none⟩)] #[]
abbrev rc (s : OS) (t : ByteArray) (a g : Nat) : List (Chunk Pd) := [.abs (.mch s.m true) [0, 1], .abs (.core s.c) [1, 0], rowc 2 t a (tellV g), .at_ 0 g]
/-- behind a function that goes on on a row -/
def PostP (t : ByteArray) (g : Nat) (K : Out → List (Chunk Pd) → Prop) : Res Nat × OS → Prop
  | (.ok a, s) => K (.ret (.tuple [])) (rc s t a g)
  | (.err e at_, s) => K (.pan (flt e at_)) (oc s)
  | (.ovf, _) => False
variable {right : Ev → Bool} {numRead : ByteArray → ByteArray × Int}
def FlowOk (GOk : Gl → Prop) (right : Ev → Bool) (numRead : ByteArray → ByteArray × Int) : Prop :=
  ∀ s t a g, t.size < 1000000 → a ≤ t.size → Triple (BB Ip GOk) 179 3 3 [.ptr 0 0, .ptr 2 0] (rc s t a g) (fun K => PostP t g K (flowA right numRead t a s))
theorem subs_size (t : ByteArray) (a k : Int) : (subs t a k).size ≤ t.size := by
  simp only [subs, ByteArray.size_extract]; omega
theorem part_spec (hb : Below GOk right) (hfl : FlowOk GOk right numRead) (s : OS) (t : ByteArray) (a g : Nat) (must : Bool) (ht : t.size < 1000000) (ha : a ≤ t.size) : Triple (BB Ip GOk) 166 3 3 [.ptr 0 0, .ptr 2 0, .bool must] (rc s t a g)
    (fun K => PostP t g K (partM right numRead t a must s)) := by
  obtain ⟨⟨ahead, line, chk, anc, opn, waits⟩, core⟩ := s
  refine triple_of BB_ok (tb := ty) rfl (n0 := 7) (fun y : {cs' // Tm (.mch ⟨ahead, line, chk, anc, opn, waits⟩ true) cs'} => csRen (sg [0, 1] 3) y.1 ++ [.abs (.core core) [1, 0], rowc 2 t a (tellV g), .at_ 0 g]) pl166 Tryz.call166 Tryz.func166 rfl (by kernel_rfl) (Nat.le_of_ble_eq_true rfl) (by decide) rfl (pre_open rfl rfl rfl) ?_
  rintro G hG K hK W bi bc bs bk bu bb bo bg bl bp bn be Ncond Nob Nop Nloop Nscope hN Nfin hf _ ⟨cs', hT⟩
  obtain ⟨p, lo, len, cap, xs, q, lo2, len2, cap2, ys, tl, hv1, hv2, hl, htl, -, rfl⟩ := id hT
  obtain rfl := htl rfl
  simp only at hv1 hv2 hl
  have hmc : ∀ chk anc w, Tm (.mch ⟨ahead, line, chk, anc, opn, w⟩ true) [.cells 0 55 [.int .i64 (Int.ofNat ahead), .vec p 2 1 lo len cap, .ptr 4 0, .ptr 5 0, .vec q 3 2 lo2 len2 cap2, .bool w, .fn (.func 25) [.ptr 1 0] []], .arr p true 2 5 encB xs, .arr q true 3 224 encK ys, .abs (.chk chk) [4], .abs (.anc anc) [5]] :=
    fun chk anc w => ⟨p, lo, len, cap, xs, q, lo2, len2, cap2, ys, _, hv1, hv2, hl, fun _ => rfl, (fun h => nomatch h), rfl⟩
  cbv
  refine op_ hN (call_ (blanks_spec t a (tellV g) (by omega)) hG [2] rfl rfl rfl rfl rfl ?_)
  intro b hbl
  have hbs : b ≤ t.size := hbl ▸ blanks_le t a ha
  cbv
  refine op_ hN (call_ (is_spec t b (tellV g) 38) hG [2] rfl rfl rfl rfl rfl ?_)
  intro m hm
  cases m with
  | false =>
    have hM : partM right numRead t a must ⟨⟨ahead, line, chk, anc, opn, waits⟩, core⟩ = partT right numRead t must b ⟨⟨ahead, line, chk, anc, opn, waits⟩, core⟩ := by
      simp only [partM, OM.bind]; rw [← hbl, ← hm]; rfl
    cbv
    refine cond_ hN (fun h => by simp at h) (fun _ => ?_)
    cbv
    obtain ⟨b1, hb1⟩ : ∃ b1, b1 = b := ⟨_, rfl⟩
    obtain ⟨anc1, ha1⟩ : ∃ x, x = anc := ⟨_, rfl⟩
    rw [← hb1, ← ha1] at hM
    rw [← hb1] at hbs
    subst hb1 ha1
    rw [hM] at hK
    refine op_ hN (call_ (more_spec t b1 (tellV g)) hG [2] rfl rfl rfl rfl rfl ?_)
    intro m1 hm1
    cases m1 with
    | true =>
      have hlt1 : b1 < t.size := by simpa using hm1.symm
      have hP : partT right numRead t must b1 = OM.bind (flowA right numRead t b1) fun a2 => if blanks t a2 < t.size then OM.fail 2 (Int.ofNat (blanks t a2)) else OM.ret (blanks t a2) := by
        simp only [partT]; rw [if_pos hlt1]
      rw [hP] at hK
      cbv
      refine cond_ hN (fun h => by simp at h) (fun _ => ?_)
      cbv
      refine op_ hN (op_close rfl (.mch ⟨ahead, line, chk, anc1, opn, waits⟩ true) [0, 1] [3, 4, 5, 6] _ (hmc chk anc1 waits) rfl rfl (call_ (hfl ⟨⟨ahead, line, chk, anc1, opn, waits⟩, core⟩ t b1 g ht hbs) hG [0, 1, 2] rfl rfl rfl rfl rfl ?_))
      simp only [OM.bind] at hK
      generalize flowA right numRead t b1 ⟨⟨ahead, line, chk, anc1, opn, waits⟩, core⟩ = y at hK ⊢
      obtain ⟨r, s'⟩ := y
      cases r with
      | err e a => cbv; exact hf _ _ (fin_ [] rfl rfl hK)
      | ovf => exact hK.elim
      | ok a2 =>
        simp only at hK
        cbv
        refine op_ hN (call_ (blanks_spec t a2 (tellV g) (by omega)) hG [2] rfl rfl rfl rfl rfl ?_)
        intro b2 hb2
        rw [← hb2] at hK
        cbv
        refine op_ hN (call_ (more_spec t b2 (tellV g)) hG [2] rfl rfl rfl rfl rfl ?_)
        intro m2 hm2
        cases m2 with
        | true =>
          rw [if_pos (by simpa using hm2.symm)] at hK
          cbv
          refine cond_ hN (fun _ => ?_) (fun h => by simp at h)
          cbv
          refine op_ hN (call_ (bad_spec t b2 (tellV g)) hG [2] rfl rfl rfl rfl rfl ?_)
          cbv
          exact hf _ _ (fin_ [] rfl rfl hK)
        | false =>
          rw [if_neg (by simpa using hm2.symm)] at hK
          cbv
          refine cond_ hN (fun h => by simp at h) (fun _ => ?_)
          cbv
          exact hf _ _ (fin_ [] rfl rfl hK)
    | false =>
      have hlt1 : ¬ b1 < t.size := by simpa using hm1.symm
      simp only [partT] at hK
      rw [if_neg hlt1] at hK
      cbv
      refine cond_ hN (fun _ => ?_) (fun h => by simp at h)
      cbv
      cases must with
      | true =>
        refine cond_ hN (fun _ => ?_) (fun h => by simp at h)
        cbv
        refine op_ hN (call_ (bad_spec t b1 (tellV g)) hG [2] rfl rfl rfl rfl rfl ?_)
        cbv
        exact hf _ _ (fin_close rfl (.mch ⟨ahead, line, chk, anc1, opn, waits⟩ true) [0, 1] [3, 4, 5, 6] _ (hmc chk anc1 waits) rfl (fin_ [] rfl rfl hK))
      | false =>
        refine cond_ hN (fun h => by simp at h) (fun _ => ?_)
        cbv
        refine hf _ _ (fin_cput 0 [.int .i64 (Int.ofNat ahead), .vec p 3 1 lo len cap, .ptr 5 0, .ptr 6 0, .vec q 4 2 lo2 len2 cap2, .bool true, .fn (.func 25) [.ptr 1 0] []] rfl (fun _ => rfl) ?_)
        exact fin_close rfl (.mch ⟨ahead, line, chk, anc1, opn, true⟩ true) [0, 1] [3, 4, 5, 6] _ (hmc chk anc1 true) rfl (fin_ [] rfl rfl hK)
  | true =>
    have hlt : b < t.size := isB_lt hm.symm
    have hadd : bi .add .i64 (Int.ofNat b) 1 = Int.ofNat (b + 1) := inext hN (by omega)
    cbv
    refine cond_ hN (fun _ => ?_) (fun h => by simp at h)
    cbv
    simp only [hadd]
    cbv
    repeat' (first | exact True.intro | with_reducible refine dup ?_ | refine And.intro ?_ ?_)
    all_goals
      refine op_ hN (call_ (Name_spec t (b + 1) (tellV g) (by omega) hlt) hG [2] rfl rfl rfl rfl rfl ?_)
      intro k e hke
      have hke1 : (nameGo t (b + 1) true (b + 1)).1 = k := by rw [← hke]
      have hke2 : (nameGo t (b + 1) true (b + 1)).2 = e := by rw [← hke]
      have hkle := nameGo_le t (b + 1) true (b + 1) hlt
      rw [hke1] at hkle
      have hM : partM right numRead t a must ⟨⟨ahead, line, chk, anc, opn, waits⟩, core⟩ = OM.bind (anchorM t b) (partT right numRead t must) ⟨⟨ahead, line, chk, anc, opn, waits⟩, core⟩ := by
        simp only [partM]; rw [← hbl, ← hm]; rfl
      refine ⟨fun he => ?_, fun he => ?_⟩
      · have hsz := subs_size t (Int.ofNat (b + 1)) (Int.ofNat k)
        simp only [OM.bind, anchorM, hke1, hke2] at hM
        rw [if_neg (by simpa using he)] at hM
        have hsub : bi .sub .i64 (Int.ofNat k) 1 = Int.ofNat k - 1 := by rw [isub hN (by simp; omega) (by simp; omega)]
        obtain ⟨kk, hkk⟩ : ∃ x, Int.ofNat k - 1 = x := ⟨_, rfl⟩
        rw [hkk] at hsub hM
        generalize subs t (Int.ofNat (b + 1)) (Int.ofNat k) = name at hM hsz ⊢
        cbv
        repeat' (first | exact True.intro | with_reducible refine dup ?_ | refine And.intro ?_ ?_)
        all_goals
          refine op_ hN (call_ (hb.opn anc name (by omega)) hG [6] rfl rfl rfl rfl rfl ?_)
          intro e2 anc1 he2
          rw [← he2] at hM
          simp only at hM
          cbv
          refine cond_ hN (fun h1 => ?_) (fun h1 => ?_)
          · rw [cne hN] at h1; simp at h1
            rw [if_pos h1] at hM
            rw [hM] at hK
            cbv
            simp only [hsub]
            refine op_ hN (call_ (fail_spec e2 kk) hG [] rfl rfl rfl rfl rfl ?_)
            cbv
            exact hf _ _ (fin_close rfl (.mch ⟨ahead, line, chk, anc1, opn, waits⟩ true) [0, 1] [3, 4, 5, 6] _ (hmc chk anc1 waits) rfl (fin_ [] rfl rfl hK))
          · rw [cne hN] at h1; simp at h1
            rw [if_neg (by simpa using h1)] at hM
            cbv
            refine op_ hN (call_ (more_spec t k (tellV g)) hG [2] rfl rfl rfl rfl rfl ?_)
            intro m3 hm3
            cases m3 with
            | false =>
              rw [if_neg (by simpa using hm3.symm)] at hM
              simp only [OM.ret] at hM
              rw [hM] at hK
              cbv
              refine cond_ hN (fun h => by simp at h) (fun _ => ?_)
              cbv
              obtain ⟨b1, hb1⟩ : ∃ b1, b1 = k := ⟨_, rfl⟩
              rw [← hb1] at hK
              have hbs : b1 ≤ t.size := hb1 ▸ hkle.1
              rw [← hb1]
              refine op_ hN (call_ (more_spec t b1 (tellV g)) hG [2] rfl rfl rfl rfl rfl ?_)
              intro m1 hm1
              cases m1 with
              | true =>
                have hlt1 : b1 < t.size := by simpa using hm1.symm
                have hP : partT right numRead t must b1 = OM.bind (flowA right numRead t b1) fun a2 => if blanks t a2 < t.size then OM.fail 2 (Int.ofNat (blanks t a2)) else OM.ret (blanks t a2) := by
                  simp only [partT]; rw [if_pos hlt1]
                rw [hP] at hK
                cbv
                refine cond_ hN (fun h => by simp at h) (fun _ => ?_)
                cbv
                refine op_ hN (op_close rfl (.mch ⟨ahead, line, chk, anc1, opn, waits⟩ true) [0, 1] [3, 4, 5, 6] _ (hmc chk anc1 waits) rfl rfl (call_ (hfl ⟨⟨ahead, line, chk, anc1, opn, waits⟩, core⟩ t b1 g ht hbs) hG [0, 1, 2] rfl rfl rfl rfl rfl ?_))
                simp only [OM.bind] at hK
                generalize flowA right numRead t b1 ⟨⟨ahead, line, chk, anc1, opn, waits⟩, core⟩ = y at hK ⊢
                obtain ⟨r, s'⟩ := y
                cases r with
                | err e a => cbv; exact hf _ _ (fin_ [] rfl rfl hK)
                | ovf => exact hK.elim
                | ok a2 =>
                  simp only at hK
                  cbv
                  refine op_ hN (call_ (blanks_spec t a2 (tellV g) (by omega)) hG [2] rfl rfl rfl rfl rfl ?_)
                  intro b2 hb2
                  rw [← hb2] at hK
                  cbv
                  refine op_ hN (call_ (more_spec t b2 (tellV g)) hG [2] rfl rfl rfl rfl rfl ?_)
                  intro m2 hm2
                  cases m2 with
                  | true =>
                    rw [if_pos (by simpa using hm2.symm)] at hK
                    cbv
                    refine cond_ hN (fun _ => ?_) (fun h => by simp at h)
                    cbv
                    refine op_ hN (call_ (bad_spec t b2 (tellV g)) hG [2] rfl rfl rfl rfl rfl ?_)
                    cbv
                    exact hf _ _ (fin_ [] rfl rfl hK)
                  | false =>
                    rw [if_neg (by simpa using hm2.symm)] at hK
                    cbv
                    refine cond_ hN (fun h => by simp at h) (fun _ => ?_)
                    cbv
                    exact hf _ _ (fin_ [] rfl rfl hK)
              | false =>
                have hlt1 : ¬ b1 < t.size := by simpa using hm1.symm
                simp only [partT] at hK
                rw [if_neg hlt1] at hK
                cbv
                refine cond_ hN (fun _ => ?_) (fun h => by simp at h)
                cbv
                cases must with
                | true =>
                  refine cond_ hN (fun _ => ?_) (fun h => by simp at h)
                  cbv
                  refine op_ hN (call_ (bad_spec t b1 (tellV g)) hG [2] rfl rfl rfl rfl rfl ?_)
                  cbv
                  exact hf _ _ (fin_close rfl (.mch ⟨ahead, line, chk, anc1, opn, waits⟩ true) [0, 1] [3, 4, 5, 6] _ (hmc chk anc1 waits) rfl (fin_ [] rfl rfl hK))
                | false =>
                  refine cond_ hN (fun h => by simp at h) (fun _ => ?_)
                  cbv
                  refine hf _ _ (fin_cput 0 [.int .i64 (Int.ofNat ahead), .vec p 3 1 lo len cap, .ptr 5 0, .ptr 6 0, .vec q 4 2 lo2 len2 cap2, .bool true, .fn (.func 25) [.ptr 1 0] []] rfl (fun _ => rfl) ?_)
                  exact fin_close rfl (.mch ⟨ahead, line, chk, anc1, opn, true⟩ true) [0, 1] [3, 4, 5, 6] _ (hmc chk anc1 true) rfl (fin_ [] rfl rfl hK)
            | true =>
              rw [if_pos (by simpa using hm3.symm)] at hM
              cbv
              refine cond_ hN (fun _ => ?_) (fun h => by simp at h)
              cbv
              refine op_ hN (call_ (must_spec t k (tellV g) 32 (by omega)) hG [2] rfl rfl rfl rfl rfl ?_)
              refine ⟨fun hi => ?_, fun hi => ?_⟩
              · simp only [OM.bind, mustM, OM.ret] at hM
                rw [if_pos hi] at hM
                simp only at hM
                cbv
                refine op_ hN (call_ (blanks_spec t (k + 1) (tellV g) (by omega)) hG [2] rfl rfl rfl rfl rfl ?_)
                intro b1 hb1
                rw [← hb1] at hM
                rw [hM] at hK
                have hbs : b1 ≤ t.size := hb1 ▸ blanks_le t (k + 1) (isB_lt hi)
                cbv
                refine op_ hN (call_ (more_spec t b1 (tellV g)) hG [2] rfl rfl rfl rfl rfl ?_)
                intro m1 hm1
                cases m1 with
                | true =>
                  have hlt1 : b1 < t.size := by simpa using hm1.symm
                  have hP : partT right numRead t must b1 = OM.bind (flowA right numRead t b1) fun a2 => if blanks t a2 < t.size then OM.fail 2 (Int.ofNat (blanks t a2)) else OM.ret (blanks t a2) := by
                    simp only [partT]; rw [if_pos hlt1]
                  rw [hP] at hK
                  cbv
                  refine cond_ hN (fun h => by simp at h) (fun _ => ?_)
                  cbv
                  refine op_ hN (op_close rfl (.mch ⟨ahead, line, chk, anc1, opn, waits⟩ true) [0, 1] [3, 4, 5, 6] _ (hmc chk anc1 waits) rfl rfl (call_ (hfl ⟨⟨ahead, line, chk, anc1, opn, waits⟩, core⟩ t b1 g ht hbs) hG [0, 1, 2] rfl rfl rfl rfl rfl ?_))
                  simp only [OM.bind] at hK
                  generalize flowA right numRead t b1 ⟨⟨ahead, line, chk, anc1, opn, waits⟩, core⟩ = y at hK ⊢
                  obtain ⟨r, s'⟩ := y
                  cases r with
                  | err e a => cbv; exact hf _ _ (fin_ [] rfl rfl hK)
                  | ovf => exact hK.elim
                  | ok a2 =>
                    simp only at hK
                    cbv
                    refine op_ hN (call_ (blanks_spec t a2 (tellV g) (by omega)) hG [2] rfl rfl rfl rfl rfl ?_)
                    intro b2 hb2
                    rw [← hb2] at hK
                    cbv
                    refine op_ hN (call_ (more_spec t b2 (tellV g)) hG [2] rfl rfl rfl rfl rfl ?_)
                    intro m2 hm2
                    cases m2 with
                    | true =>
                      rw [if_pos (by simpa using hm2.symm)] at hK
                      cbv
                      refine cond_ hN (fun _ => ?_) (fun h => by simp at h)
                      cbv
                      refine op_ hN (call_ (bad_spec t b2 (tellV g)) hG [2] rfl rfl rfl rfl rfl ?_)
                      cbv
                      exact hf _ _ (fin_ [] rfl rfl hK)
                    | false =>
                      rw [if_neg (by simpa using hm2.symm)] at hK
                      cbv
                      refine cond_ hN (fun h => by simp at h) (fun _ => ?_)
                      cbv
                      exact hf _ _ (fin_ [] rfl rfl hK)
                | false =>
                  have hlt1 : ¬ b1 < t.size := by simpa using hm1.symm
                  simp only [partT] at hK
                  rw [if_neg hlt1] at hK
                  cbv
                  refine cond_ hN (fun _ => ?_) (fun h => by simp at h)
                  cbv
                  cases must with
                  | true =>
                    refine cond_ hN (fun _ => ?_) (fun h => by simp at h)
                    cbv
                    refine op_ hN (call_ (bad_spec t b1 (tellV g)) hG [2] rfl rfl rfl rfl rfl ?_)
                    cbv
                    exact hf _ _ (fin_close rfl (.mch ⟨ahead, line, chk, anc1, opn, waits⟩ true) [0, 1] [3, 4, 5, 6] _ (hmc chk anc1 waits) rfl (fin_ [] rfl rfl hK))
                  | false =>
                    refine cond_ hN (fun h => by simp at h) (fun _ => ?_)
                    cbv
                    refine hf _ _ (fin_cput 0 [.int .i64 (Int.ofNat ahead), .vec p 3 1 lo len cap, .ptr 5 0, .ptr 6 0, .vec q 4 2 lo2 len2 cap2, .bool true, .fn (.func 25) [.ptr 1 0] []] rfl (fun _ => rfl) ?_)
                    exact fin_close rfl (.mch ⟨ahead, line, chk, anc1, opn, true⟩ true) [0, 1] [3, 4, 5, 6] _ (hmc chk anc1 true) rfl (fin_ [] rfl rfl hK)
              · simp only [OM.bind, mustM, OM.ret] at hM
                rw [if_neg (fun h => by rw [hi] at h; cases h)] at hM
                rw [hM] at hK
                cbv
                exact hf _ _ (fin_close rfl (.mch ⟨ahead, line, chk, anc1, opn, waits⟩ true) [0, 1] [3, 4, 5, 6] _ (hmc chk anc1 waits) rfl (fin_ [] rfl rfl hK))
      · simp only [OM.bind, anchorM, hke1, hke2] at hM
        rw [if_pos he] at hM
        rw [hM] at hK
        cbv
        exact hf _ _ (fin_close rfl (.mch ⟨ahead, line, chk, anc, opn, waits⟩ true) [0, 1] [3, 4, 5, 6] _ (hmc chk anc waits) rfl (fin_ [] rfl rfl hK))
theorem behind_spec (hb : Below GOk right) (hfl : FlowOk GOk right numRead) (s : OS) (t : ByteArray) (a g : Nat) (ht : t.size < 1000000) : Triple (BB Ip GOk) 168 3 3 [.ptr 0 0, .ptr 2 0] (rc s t a g)
    (fun K => PostP t g K (behindM right numRead t a s)) := by
  obtain ⟨⟨ahead, line, chk, anc, opn, waits⟩, core⟩ := s
  refine triple_of BB_ok (tb := ty) rfl (n0 := 3) (fun _ : Unit => _) pl168 Tryz.call168 Tryz.func168 rfl (by kernel_rfl) (Nat.le_of_ble_eq_true rfl) (by decide) rfl pre_none ?_
  rintro G hG K hK W bi bc bs bk bu bb bo bg bl bp bn be Ncond Nob Nop Nloop Nscope hN Nfin hf _ _
  cbv
  refine op_ hN (call_ (more_spec t a (tellV g)) hG [2] rfl rfl rfl rfl rfl ?_)
  intro m hm
  cases m with
  | false =>
    have hm1 : behindM right numRead t a ⟨⟨ahead, line, chk, anc, opn, waits⟩, core⟩ = (.ok a, ⟨⟨ahead, line, chk, anc, opn, true⟩, core⟩) := by
      simp only [behindM]; rw [if_neg (by simpa using hm.symm)]; rfl
    rw [hm1] at hK
    cbv
    refine cond_ hN (fun _ => ?_) (fun h => by simp at h)
    cbv
    refine op_ hN (op_open rfl 0 4 rfl rfl rfl rfl ?_)
    rintro _ ⟨p, lo, len, cap, xs, q, lo2, len2, cap2, ys, tl, hv1, hv2, hl, htl, -, rfl⟩
    obtain rfl := htl rfl
    simp only at hv1 hv2 hl
    have hmc : ∀ chk anc w, Tm (.mch ⟨ahead, line, chk, anc, opn, w⟩ true) [.cells 0 55 [.int .i64 (Int.ofNat ahead), .vec p 2 1 lo len cap, .ptr 4 0, .ptr 5 0, .vec q 3 2 lo2 len2 cap2, .bool w, .fn (.func 25) [.ptr 1 0] []], .arr p true 2 5 encB xs, .arr q true 3 224 encK ys, .abs (.chk chk) [4], .abs (.anc anc) [5]] :=
      fun chk anc w => ⟨p, lo, len, cap, xs, q, lo2, len2, cap2, ys, _, hv1, hv2, hl, fun _ => rfl, (fun h => nomatch h), rfl⟩
    refine store_ ty_ok rfl ?_
    cbv
    refine hf _ _ (fin_cput 0 [.int .i64 (Int.ofNat ahead), .vec p 3 1 lo len cap, .ptr 5 0, .ptr 6 0, .vec q 4 2 lo2 len2 cap2, .bool true, .fn (.func 25) [.ptr 1 0] []] rfl (fun _ => rfl) ?_)
    exact fin_close rfl (.mch ⟨ahead, line, chk, anc, opn, true⟩ true) [0, 1] [3, 4, 5, 6] _ (hmc chk anc true) rfl (fin_ [] rfl rfl hK)
  | true =>
    cbv
    refine cond_ hN (fun h => by simp at h) (fun _ => ?_)
    cbv
    refine op_ hN (call_ (must_spec t a (tellV g) 32 (by omega)) hG [2] rfl rfl rfl rfl rfl ?_)
    have hlt : a < t.size := by simpa using hm.symm
    refine ⟨fun hi => ?_, fun hi => ?_⟩
    · cbv
      refine op_ hN (op_vals (vals' := [.fn (.func 166) [] [], .ptr 0 0, .ptr 2 0, .bool false]) (fun _ _ _ _ => rfl) (call_ (part_spec hb hfl ⟨⟨ahead, line, chk, anc, opn, waits⟩, core⟩ t (a + 1) g false ht hlt) hG [0, 1, 2] rfl rfl rfl rfl rfl ?_))
      have hm1 : behindM right numRead t a ⟨⟨ahead, line, chk, anc, opn, waits⟩, core⟩ = partM right numRead t (a + 1) false ⟨⟨ahead, line, chk, anc, opn, waits⟩, core⟩ := by
        simp only [behindM]; rw [if_pos hlt]; simp only [OM.bind, mustM]; rw [if_pos hi]
      rw [hm1] at hK
      generalize partM right numRead t (a + 1) false ⟨⟨ahead, line, chk, anc, opn, waits⟩, core⟩ = y at hK ⊢
      obtain ⟨r, s'⟩ := y
      cases r with
      | ok a => cbv; exact hf _ _ (fin_ [] rfl rfl hK)
      | err e a => cbv; exact hf _ _ (fin_ [] rfl rfl hK)
      | ovf => exact hK.elim
    · cbv
      have hm1 : behindM right numRead t a ⟨⟨ahead, line, chk, anc, opn, waits⟩, core⟩ = (.err 2 (Int.ofNat a), ⟨⟨ahead, line, chk, anc, opn, waits⟩, core⟩) := by
        simp only [behindM]; rw [if_pos hlt]; simp only [OM.bind, mustM]; rw [if_neg (fun h => by rw [hi] at h; cases h)]
      rw [hm1] at hK
      exact hf _ _ (fin_ [] rfl rfl hK)
theorem item_spec (hb : Below GOk right) (hfl : FlowOk GOk right numRead) (s : OS) (t : ByteArray) (a g : Nat) (ht : t.size < 1000000) : Triple (BB Ip GOk) 159 3 3 [.ptr 0 0, .ptr 2 0] (rc s t a g)
    (fun K => PostP t g K (itemM right numRead t a s)) := by
  refine triple_of BB_ok (tb := ty) rfl (n0 := 3) (fun _ : Unit => _) pl159 Tryz.call159 Tryz.func159 rfl (by kernel_rfl) (Nat.le_of_ble_eq_true rfl) (by decide) rfl pre_none ?_
  rintro G hG K hK W bi bc bs bk bu bb bo bg bl bp bn be Ncond Nob Nop Nloop Nscope hN Nfin hf _ _
  cbv
  refine op_ hN (call_ (must_spec t a (tellV g) 45 (by omega)) hG [2] rfl rfl rfl rfl rfl ?_)
  refine ⟨fun hi => ?_, fun hi => ?_⟩
  · cbv
    refine op_ hN (call_ (behind_spec hb hfl s t (a + 1) g ht) hG [0, 1, 2] rfl rfl rfl rfl rfl ?_)
    have hm : itemM right numRead t a s = behindM right numRead t (a + 1) s := by simp only [itemM, OM.bind, mustM]; rw [if_pos hi]
    rw [hm] at hK
    generalize behindM right numRead t (a + 1) s = y at hK ⊢
    obtain ⟨r, s'⟩ := y
    cases r with
    | ok a => cbv; exact hf _ _ (fin_ [] rfl rfl hK)
    | err e a => cbv; exact hf _ _ (fin_ [] rfl rfl hK)
    | ovf => exact hK.elim
  · cbv
    have hm : itemM right numRead t a s = (.err 2 (Int.ofNat a), s) := by
      simp only [itemM, OM.bind, mustM]; rw [if_neg (fun h => by rw [hi] at h; cases h)]
    rw [hm] at hK
    exact hf _ _ (fin_ [] rfl rfl hK)
end Hx
