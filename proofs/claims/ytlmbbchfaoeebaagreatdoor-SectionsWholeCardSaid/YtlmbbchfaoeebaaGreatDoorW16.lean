/-
  Part of a proof.
-/
import Derived.Test.YtlmbbchfaoeebaaGreatDoorW15
set_option linter.unusedVariables false
set_option linter.unusedSimpArgs false
/- sections.machine.section: the walk. -/
namespace Hx
open Go Sx Go.Proofs
set_option maxRecDepth 100000
set_option maxHeartbeats 4000000
set_option linter.unusedVariables false
set_option linter.unusedSimpArgs false
variable {GOk : Gl → Prop}
variable {right : Ev → Bool} {numRead : ByteArray → ByteArray × Int}
theorem keyP_ok {t : ByteArray} {a k : Nat} {key : ByteArray} (ha : a ≤ t.size) (ht : t.size < 1000000) (h : keyP t a = .ok (k, key)) : k ≤ t.size ∧ key.size < 1000000 := by
  unfold keyP at h
  split at h
  · simp only [Res.ok.injEq, Prod.mk.injEq] at h
    obtain ⟨rfl, rfl⟩ := h
    exact ⟨keyR_pos t a ha, keyR_size t a ht⟩
  · exact nomatch h
theorem pathGo_ok (t : ByteArray) (ht : t.size < 1000000) : ∀ (n a : Nat) (l : List ByteArray) (k : Nat) (l' : List ByteArray), a ≤ t.size → (∀ x ∈ l, x.size < 1000000) → l ≠ [] → pathGo t n a l = .ok (k, l') →
    k ≤ t.size ∧ l' ≠ [] ∧ (∀ x ∈ l', x.size < 1000000) ∧ l'.length ≤ l.length + n := by
  intro n
  induction n with
  | zero => intro a l k l' _ _ _ h; rw [pathGo] at h; exact nomatch h
  | succ n ih =>
    intro a l k l' ha hl hne h
    rw [pathGo] at h
    split at h
    · rename_i hi
      have hlt := isB_lt hi
      cases hkp : keyP t (a + 1) with
      | ok kl =>
        obtain ⟨k1, key⟩ := kl
        rw [hkp] at h
        simp only at h
        obtain ⟨h1, h2⟩ := keyP_ok hlt ht hkp
        obtain ⟨h3, h4, h5, h6⟩ := ih k1 (l ++ [key]) k l' h1 (fun x hx => by
          rcases List.mem_append.1 hx with hx | hx
          · exact hl x hx
          · rw [List.mem_singleton.1 hx]; exact h2) (by simp) h
        refine ⟨h3, h4, h5, ?_⟩
        simp only [List.length_append, List.length_singleton] at h6; omega
      | err e x => rw [hkp] at h; exact nomatch h
      | ovf => rw [hkp] at h; exact nomatch h
    · simp only [Res.ok.injEq, Prod.mk.injEq] at h
      obtain ⟨rfl, rfl⟩ := h
      exact ⟨ha, hne, hl, by omega⟩
theorem pathP_ok (t : ByteArray) (a : Nat) (ha : a ≤ t.size) (ht : t.size < 1000000) : ∀ k l, pathP t a = .ok (k, l) → k ≤ t.size ∧ l ≠ [] ∧ (∀ x ∈ l, x.size < 1000000) ∧ l.length ≤ t.size + 3 := by
  intro k l h
  unfold pathP at h
  cases hkp : keyP t a with
  | ok kl =>
    obtain ⟨k1, key⟩ := kl
    rw [hkp] at h
    simp only at h
    obtain ⟨h1, h2⟩ := keyP_ok ha ht hkp
    obtain ⟨h3, h4, h5, h6⟩ := pathGo_ok t ht _ k1 [key] k l h1 (fun x hx => by rw [List.mem_singleton.1 hx]; exact h2) (by simp) h
    refine ⟨h3, h4, h5, ?_⟩
    simp only [List.length_singleton] at h6; omega
  | err e x => rw [hkp] at h; exact nomatch h
  | ovf => rw [hkp] at h; exact nomatch h
theorem section_spec (hb : RgtOk GOk right) (s : OS Sec) (t : ByteArray) (a g : Nat) (ht : t.size < 999000) (ha : a < t.size) : Triple (BB Ip GOk) 164 3 3 [.ptr 0 0, .ptr 2 0] (rcS s t a g)
    (fun K => PostV t g K (secSection right t a s)) := by
  refine triple_of BB_ok (tb := ty) rfl (n0 := 3) (fun _ : Unit => _) pl164 Tryz.call164 Tryz.func164 rfl (by kernel_rfl) (Nat.le_of_ble_eq_true rfl) (by decide) rfl pre_none ?_
  rintro G hG K hK W bi bc bs bk bu bb bo bg bl bp bn be Ncond Nob Nop Nloop Nscope hN Nfin hf _ _
  have hadd : bi .add .i64 (Int.ofNat a) 1 = Int.ofNat (a + 1) := inext hN (by omega)
  have hadd2 : bi .add .i64 (Int.ofNat (a + 1)) 1 = Int.ofNat (a + 2) := inext hN (by omega)
  obtain ⟨a1, ha1⟩ : ∃ a1, a + 1 = a1 := ⟨_, rfl⟩
  obtain ⟨a2, ha2⟩ : ∃ a2, a + 2 = a2 := ⟨_, rfl⟩
  simp only [secSection] at hK
  rw [ha1, ha2] at hK
  rw [ha1] at hadd
  rw [ha1, ha2] at hadd2
  cbv
  simp only [hadd]
  cbv
  refine op_ hN (call_ (is_spec t a1 (tvS g) 91) hG [2] rfl rfl rfl rfl rfl ?_)
  intro rows hrows
  rw [← hrows] at hK
  cases rows with
  | true =>
    rw [if_pos rfl] at hK
    have hA : a2 ≤ t.size := by have := isB_lt hrows.symm; omega
    cbv
    refine cond_ hN ?_ (fun h => by cases h)
    intro _
    cbv
    simp only [hadd2]
    cbv
    refine op_ hN (call_ (path_spec t (a2) (tvS g) (by omega) hA) hG [2] rfl rfl rfl rfl rfl ?_)
    have hpth := pathP_ok t (a2) hA (by omega)
    generalize pathP t (a2) = z at hK hpth ⊢
    cases z with
    | err e x => simp only [OM.bind, liftR] at hK; cbv; exact hf _ _ (fin_ [] rfl rfl hK)
    | ovf => simp only [OM.bind, liftR] at hK; exact hK.elim
    | ok kp =>
      obtain ⟨k, l⟩ := kp
      simp only [OM.bind, liftR] at hK
      obtain ⟨hk, hl1, hl2, hl3⟩ := hpth k l rfl
      intro p lo len cap xs hv
      cbv
      refine op_ hN (call_ (must_spec t k (tvS g) 93 (by omega)) hG [2] rfl rfl rfl rfl rfl ?_)
      refine ⟨fun hi => ?_, fun hi => ?_⟩
      · have hklt := isB_lt hi
        rw [show mustM t 93 k s = (.ok (k + 1), s) by simp only [mustM]; rw [if_pos hi]] at hK
        simp only at hK
        have hsub : bi .sub .i64 (Int.ofNat (k + 1)) 1 = Int.ofNat (k + 1) - 1 := by rw [isub hN (by simp only [Int.ofNat_eq_natCast]; omega) (by simp only [Int.ofNat_eq_natCast]; omega)]
        obtain ⟨kk, hkk⟩ : ∃ x, Int.ofNat (k + 1) - 1 = x := ⟨_, rfl⟩
        rw [hkk] at hsub hK
        cbv
        simp only [hsub]
        refine op_ hN (op_vals (vals' := [.fn (.func 173) [] [], .ptr 0 0, .vec p 3 1 lo len cap, .bool true, .int .i64 kk]) (fun _ _ _ _ => rfl) (call_ (sec_goes_spec hb s p lo len cap xs l hv true kk hl1 (fun x hx => by have := hl2 x hx; omega) (by omega)) hG [0, 1, 3] rfl rfl rfl rfl rfl ?_))
        generalize secGoes right l true kk s = y at hK ⊢
        obtain ⟨r, s2⟩ := y
        cases r with
        | err e a => cbv; exact hf _ _ (fin_ [] rfl rfl hK)
        | ovf => exact hK.elim
        | ok u =>
          simp only at hK
          cbv
          refine cond_ hN ?_ (fun h => by cases h)
          intro _
          cbv
          refine op_ hN (call_ (must_spec t (k + 1) (tvS g) 93 (by omega)) hG [2] rfl rfl rfl rfl rfl ?_)
          refine ⟨fun hi2 => ?_, fun hi2 => ?_⟩
          · simp only [if_true, mustM] at hK
            rw [if_pos hi2] at hK
            cbv
            exact hf _ _ (fin_ [] rfl rfl hK)
          · simp only [if_true, mustM] at hK
            rw [if_neg (fun h => by rw [hi2] at h; cases h)] at hK
            cbv
            exact hf _ _ (fin_ [] rfl rfl hK)
      · rw [show mustM t 93 k s = (.err 2 (Int.ofNat k), s) by simp only [mustM]; rw [if_neg (fun h => by rw [hi] at h; cases h)]] at hK
        cbv
        exact hf _ _ (fin_ [] rfl rfl hK)
  | false =>
    rw [if_neg (by decide)] at hK
    have hA : a1 ≤ t.size := by omega
    cbv
    refine cond_ hN (fun h => by cases h) ?_
    intro _
    cbv
    refine op_ hN (call_ (path_spec t (a1) (tvS g) (by omega) hA) hG [2] rfl rfl rfl rfl rfl ?_)
    have hpth := pathP_ok t (a1) hA (by omega)
    generalize pathP t (a1) = z at hK hpth ⊢
    cases z with
    | err e x => simp only [OM.bind, liftR] at hK; cbv; exact hf _ _ (fin_ [] rfl rfl hK)
    | ovf => simp only [OM.bind, liftR] at hK; exact hK.elim
    | ok kp =>
      obtain ⟨k, l⟩ := kp
      simp only [OM.bind, liftR] at hK
      obtain ⟨hk, hl1, hl2, hl3⟩ := hpth k l rfl
      intro p lo len cap xs hv
      cbv
      refine op_ hN (call_ (must_spec t k (tvS g) 93 (by omega)) hG [2] rfl rfl rfl rfl rfl ?_)
      refine ⟨fun hi => ?_, fun hi => ?_⟩
      · have hklt := isB_lt hi
        rw [show mustM t 93 k s = (.ok (k + 1), s) by simp only [mustM]; rw [if_pos hi]] at hK
        simp only at hK
        have hsub : bi .sub .i64 (Int.ofNat (k + 1)) 1 = Int.ofNat (k + 1) - 1 := by rw [isub hN (by simp only [Int.ofNat_eq_natCast]; omega) (by simp only [Int.ofNat_eq_natCast]; omega)]
        obtain ⟨kk, hkk⟩ : ∃ x, Int.ofNat (k + 1) - 1 = x := ⟨_, rfl⟩
        rw [hkk] at hsub hK
        cbv
        simp only [hsub]
        refine op_ hN (op_vals (vals' := [.fn (.func 173) [] [], .ptr 0 0, .vec p 3 1 lo len cap, .bool false, .int .i64 kk]) (fun _ _ _ _ => rfl) (call_ (sec_goes_spec hb s p lo len cap xs l hv false kk hl1 (fun x hx => by have := hl2 x hx; omega) (by omega)) hG [0, 1, 3] rfl rfl rfl rfl rfl ?_))
        generalize secGoes right l false kk s = y at hK ⊢
        obtain ⟨r, s2⟩ := y
        cases r with
        | err e a => cbv; exact hf _ _ (fin_ [] rfl rfl hK)
        | ovf => exact hK.elim
        | ok u =>
          simp only at hK
          simp only [if_false, Bool.false_eq_true, OM.ret] at hK
          cbv
          refine cond_ hN (fun h => by cases h) ?_
          intro _
          cbv
          exact hf _ _ (fin_ [] rfl rfl hK)
      · rw [show mustM t 93 k s = (.err 2 (Int.ofNat k), s) by simp only [mustM]; rw [if_neg (fun h => by rw [hi] at h; cases h)]] at hK
        cbv
        exact hf _ _ (fin_ [] rfl rfl hK)
end Hx
