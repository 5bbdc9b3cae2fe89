/-
  Part of a proof.
-/
import Derived.Test.YtkkifbjdbhjhaaaGreatDoorV19
set_option linter.unusedVariables false
set_option linter.unusedSimpArgs false
/- delim.machine.Step, End: the walks. -/
namespace Hx
open Go Sx Go.Proofs
set_option maxRecDepth 100000
set_option maxHeartbeats 4000000
set_option linter.unusedVariables false
set_option linter.unusedSimpArgs false
variable {GOk : Gl → Prop}
theorem step_d (m : Dlm) (c : Core) (x : UInt8) (b : Int) (hb : ((x.toNat : Nat) : Int) = b) : Triple (BB Ip GOk) 225 2 2 [.ptr 0 0, .int .u8 b, .fn (.func 55) [.ptr 1 0] []] [.abs (.dlm m) [0, 1], .abs (.core c 68 51) [1, 0]]
    (fun K => PostD K c (dStep x (m, c.queue))) := by
  obtain ⟨state, started, row, header, named, cell, cells⟩ := m
  refine triple_of BB_ok (tb := ty) rfl (n0 := 4) (fun y : {cs' // Tm (.dlm ⟨state, started, row, header, named, cell, cells⟩) cs'} => csRen (sg [0, 1] 2) y.1 ++ [.abs (.core c 68 51) [1, 0]]) pl225 Tryz.call225 Tryz.func225 rfl (by kernel_rfl) (Nat.le_of_ble_eq_true rfl) (by decide) rfl (pre_open rfl rfl rfl) ?_
  rintro G hG K hK W bi bc bs bk bu bb bo bg bl bp bn be Ncond Nob Nop Nloop Nscope hN Nfin hf _ ⟨cs', hT⟩
  obtain ⟨p, lo, len, cap, xs, q, lo2, len2, cap2, ys, hv1, hv2, hok, rfl⟩ := id hT
  simp only at hv1 hv2 hok
  have hxe : ∀ k : UInt8, bc .eql b ((k.toNat : Nat) : Int) = decide (x = k) := fun k => by
    rw [ceq hN, ← hb]
    by_cases h : x = k
    · subst h; simp
    · have h2 : ¬ x.toNat = k.toNat := fun e => h (UInt8.toNat_inj.1 e)
      have h3 : ¬ ((x.toNat : Nat) : Int) = ((k.toNat : Nat) : Int) := by omega
      rw [decide_eq_false h, decide_eq_false h3]
  have hx34 : bc .eql b 34 = decide (x = 34) := hxe 34
  have hx44 : bc .eql b 44 = decide (x = 44) := hxe 44
  have hx10 : bc .eql b 10 = decide (x = 10) := hxe 10
  have hx32 : bc .lss b 32 = decide (x < 32) := by
    rw [clt hN, ← hb]
    have : x < 32 ↔ x.toNat < 32 := UInt8.lt_iff_toNat_lt
    by_cases h : x.toNat < 32
    · have h3 : ((x.toNat : Nat) : Int) < 32 := by omega
      rw [decide_eq_true (this.2 h), decide_eq_true h3]
    · have h3 : ¬ ((x.toNat : Nat) : Int) < 32 := by omega
      rw [decide_eq_false (fun e => h (this.1 e)), decide_eq_false h3]
  unfold dStep dStart at hK
  simp only at hK
  cases started with
  | true =>
    have hK1 : PostD K c (dByte x (⟨state, true, true, header, named, cell, cells⟩, c.queue)) := hK
    clear hK
    cbv
    refine cond_F hN rfl ?_
    unfold dByte at hK1
    simp only at hK1
    cbv
    refine cond_ hN ?_ ?_ <;> intro h1 <;> rw [ceq hN] at h1
    · have h1 : state = 2 := of_decide_eq_true h1
      cbv
      refine cond_ hN ?_ ?_ <;> intro h2 <;> rw [hx34] at h2
      · rw [if_pos ⟨h1, of_decide_eq_true h2⟩] at hK1
        have hKf := hK1 c rfl
        cbv
        exact hf _ _ (fin_cput 0 [.int .i64 3, .bool true, .bool true, .vec p 2 1 lo len cap, .bool named, .vec q 3 1 lo2 len2 cap2, .int .i64 (Int.ofNat cells)] rfl (fun _ => rfl) (fin_close rfl (.dlm ⟨3, true, true, header, named, cell, cells⟩) [0, 1] [2, 3] _ (dlmTm hv1 hv2 hok) rfl (fin_ [] rfl rfl hKf)))
      · have h2 := of_decide_eq_false h2
        rw [if_neg (fun h => h2 h.2), if_pos h1] at hK1
        cbv
        refine cond_T hN (by rw [ceq hN]; exact decide_eq_true h1) ?_
        cbv
        refine op_ hN (op_cput 0 [.int .i64 state, .bool true, .bool true, .vec p 2 1 lo len cap, .bool named, .vec q 3 1 lo2 len2 cap2, .int .i64 (Int.ofNat cells)] rfl (fun _ => rfl) (op_close rfl (.dlm ⟨state, true, true, header, named, cell, cells⟩) [0, 1] [2, 3] _ (dlmTm hv1 hv2 hok) rfl rfl ?_))
        refine call_ (says_d ⟨state, true, true, header, named, cell, cells⟩ x b hb) hG [0, 1] rfl rfl rfl rfl rfl ?_
        intro e m' h
        rw [h c.queue] at hK1
        cbv
        exact hf _ _ (fin_ [] rfl rfl (hK1 c rfl))
    have h1 : ¬ state = 2 := of_decide_eq_false h1
    rw [if_neg (fun h => h1 h.1), if_neg h1] at hK1
    cbv
    refine cond_F hN (by rw [ceq hN]; exact decide_eq_false h1) ?_
    cbv
    refine cond_ hN ?_ ?_ <;> intro h3 <;> rw [hx44] at h3
    · rw [if_pos (of_decide_eq_true h3)] at hK1
      cbv
      refine op_ hN (op_cput 0 [.int .i64 state, .bool true, .bool true, .vec p 2 1 lo len cap, .bool named, .vec q 3 1 lo2 len2 cap2, .int .i64 (Int.ofNat cells)] rfl (fun _ => rfl) (op_close rfl (.dlm ⟨state, true, true, header, named, cell, cells⟩) [0, 1] [2, 3] _ (dlmTm hv1 hv2 hok) rfl rfl (op_vals (vals' := [.fn (.func 227) [] [], .ptr 0 0, .bool true, .fn (.func 55) [.ptr 1 0] []]) (fun ρ F w h => by simp [SV.denL, SV.den]) ?_)))
      refine call_ (ends_d ⟨state, true, true, header, named, cell, cells⟩ c true) hG [0, 1] rfl rfl rfl rfl rfl ?_
      generalize dEnds true (⟨state, true, true, header, named, cell, cells⟩, c.queue) = y at hK1 ⊢
      cases y with
      | none => exact hK1.elim
      | some y =>
        obtain ⟨e, m2, q2⟩ := y
        intro c2 hc2
        cbv
        exact hf _ _ (fin_ [] rfl rfl (hK1 c2 hc2))
    have h3 := of_decide_eq_false h3
    rw [if_neg h3] at hK1
    cbv
    refine cond_ hN ?_ ?_ <;> intro h4 <;> rw [hx10] at h4
    · rw [if_pos (of_decide_eq_true h4)] at hK1
      cbv
      refine op_ hN (op_cput 0 [.int .i64 state, .bool true, .bool true, .vec p 2 1 lo len cap, .bool named, .vec q 3 1 lo2 len2 cap2, .int .i64 (Int.ofNat cells)] rfl (fun _ => rfl) (op_close rfl (.dlm ⟨state, true, true, header, named, cell, cells⟩) [0, 1] [2, 3] _ (dlmTm hv1 hv2 hok) rfl rfl (op_vals (vals' := [.fn (.func 227) [] [], .ptr 0 0, .bool false, .fn (.func 55) [.ptr 1 0] []]) (fun ρ F w h => by simp [SV.denL, SV.den]) ?_)))
      refine call_ (ends_d ⟨state, true, true, header, named, cell, cells⟩ c false) hG [0, 1] rfl rfl rfl rfl rfl ?_
      generalize dEnds false (⟨state, true, true, header, named, cell, cells⟩, c.queue) = y at hK1 ⊢
      cases y with
      | none => exact hK1.elim
      | some y =>
        obtain ⟨e, m2, q2⟩ := y
        intro c2 hc2
        cbv
        exact hf _ _ (fin_ [] rfl rfl (hK1 c2 hc2))
    have h4 := of_decide_eq_false h4
    rw [if_neg h4] at hK1
    cbv
    refine cond_ hN ?_ ?_ <;> intro h5 <;> rw [ceq hN] at h5
    · have h5 : state = 3 := of_decide_eq_true h5
      cbv
      refine cond_ hN ?_ ?_ <;> intro h6 <;> rw [hx34] at h6
      · rw [if_pos ⟨h5, of_decide_eq_true h6⟩] at hK1
        cbv
        refine op_ hN (op_cput 0 [.int .i64 2, .bool true, .bool true, .vec p 2 1 lo len cap, .bool named, .vec q 3 1 lo2 len2 cap2, .int .i64 (Int.ofNat cells)] rfl (fun _ => rfl) (op_close rfl (.dlm ⟨2, true, true, header, named, cell, cells⟩) [0, 1] [2, 3] _ (dlmTm hv1 hv2 hok) rfl rfl ?_))
        refine call_ (says_d ⟨2, true, true, header, named, cell, cells⟩ x b hb) hG [0, 1] rfl rfl rfl rfl rfl ?_
        intro e m' h
        rw [h c.queue] at hK1
        cbv
        exact hf _ _ (fin_ [] rfl rfl (hK1 c rfl))
      · have h6 := of_decide_eq_false h6
        rw [if_neg (fun h => h6 h.2), if_pos (.inl h5)] at hK1
        have hKf := hK1 c rfl
        cbv
        refine cond_T hN (by rw [ceq hN]; exact decide_eq_true h5) ?_
        cbv
        exact hf _ _ (fin_cput 0 [.int .i64 state, .bool true, .bool true, .vec p 2 1 lo len cap, .bool named, .vec q 3 1 lo2 len2 cap2, .int .i64 (Int.ofNat cells)] rfl (fun _ => rfl) (fin_close rfl (.dlm ⟨state, true, true, header, named, cell, cells⟩) [0, 1] [2, 3] _ (dlmTm hv1 hv2 hok) rfl (fin_ [] rfl rfl hKf)))
    have h5 : ¬ state = 3 := of_decide_eq_false h5
    rw [if_neg (fun h => h5 h.1)] at hK1
    cbv
    refine cond_F hN (by rw [ceq hN]; exact decide_eq_false h5) ?_
    cbv
    refine cond_ hN ?_ ?_ <;> intro h7 <;> rw [hx32] at h7
    · rw [if_pos (.inr (.inl (of_decide_eq_true h7)))] at hK1
      have hKf := hK1 c rfl
      cbv
      exact hf _ _ (fin_cput 0 [.int .i64 state, .bool true, .bool true, .vec p 2 1 lo len cap, .bool named, .vec q 3 1 lo2 len2 cap2, .int .i64 (Int.ofNat cells)] rfl (fun _ => rfl) (fin_close rfl (.dlm ⟨state, true, true, header, named, cell, cells⟩) [0, 1] [2, 3] _ (dlmTm hv1 hv2 hok) rfl (fin_ [] rfl rfl hKf)))
    have h7 := of_decide_eq_false h7
    cbv
    refine cond_ hN ?_ ?_ <;> intro h8 <;> rw [ceq hN] at h8
    · have h8 : state = 1 := of_decide_eq_true h8
      cbv
      refine cond_ hN ?_ ?_ <;> intro h9 <;> rw [hx34] at h9
      · rw [if_pos (.inr (.inr ⟨h8, of_decide_eq_true h9⟩))] at hK1
        have hKf := hK1 c rfl
        cbv
        exact hf _ _ (fin_cput 0 [.int .i64 state, .bool true, .bool true, .vec p 2 1 lo len cap, .bool named, .vec q 3 1 lo2 len2 cap2, .int .i64 (Int.ofNat cells)] rfl (fun _ => rfl) (fin_close rfl (.dlm ⟨state, true, true, header, named, cell, cells⟩) [0, 1] [2, 3] _ (dlmTm hv1 hv2 hok) rfl (fin_ [] rfl rfl hKf)))
      · have h9 := of_decide_eq_false h9
        rw [if_neg (fun h => h.elim h5 (fun h => h.elim h7 (fun h => h9 h.2))), if_neg h9] at hK1
        cbv
        refine cond_F hN (by rw [hx34]; exact decide_eq_false h9) ?_
        cbv
        refine op_ hN (op_cput 0 [.int .i64 1, .bool true, .bool true, .vec p 2 1 lo len cap, .bool named, .vec q 3 1 lo2 len2 cap2, .int .i64 (Int.ofNat cells)] rfl (fun _ => rfl) (op_close rfl (.dlm ⟨1, true, true, header, named, cell, cells⟩) [0, 1] [2, 3] _ (dlmTm hv1 hv2 hok) rfl rfl ?_))
        refine call_ (says_d ⟨1, true, true, header, named, cell, cells⟩ x b hb) hG [0, 1] rfl rfl rfl rfl rfl ?_
        intro e m' h
        rw [h c.queue] at hK1
        cbv
        exact hf _ _ (fin_ [] rfl rfl (hK1 c rfl))
    have h8 : ¬ state = 1 := of_decide_eq_false h8
    rw [if_neg (fun h => h.elim h5 (fun h => h.elim h7 (fun h => h8 h.1)))] at hK1
    cbv
    refine cond_ hN ?_ ?_ <;> intro h9 <;> rw [hx34] at h9
    · rw [if_pos (of_decide_eq_true h9)] at hK1
      have hKf := hK1 c rfl
      cbv
      exact hf _ _ (fin_cput 0 [.int .i64 2, .bool true, .bool true, .vec p 2 1 lo len cap, .bool named, .vec q 3 1 lo2 len2 cap2, .int .i64 (Int.ofNat cells)] rfl (fun _ => rfl) (fin_close rfl (.dlm ⟨2, true, true, header, named, cell, cells⟩) [0, 1] [2, 3] _ (dlmTm hv1 hv2 hok) rfl (fin_ [] rfl rfl hKf)))
    · rw [if_neg (of_decide_eq_false h9)] at hK1
      cbv
      refine op_ hN (op_cput 0 [.int .i64 1, .bool true, .bool true, .vec p 2 1 lo len cap, .bool named, .vec q 3 1 lo2 len2 cap2, .int .i64 (Int.ofNat cells)] rfl (fun _ => rfl) (op_close rfl (.dlm ⟨1, true, true, header, named, cell, cells⟩) [0, 1] [2, 3] _ (dlmTm hv1 hv2 hok) rfl rfl ?_))
      refine call_ (says_d ⟨1, true, true, header, named, cell, cells⟩ x b hb) hG [0, 1] rfl rfl rfl rfl rfl ?_
      intro e m' h
      rw [h c.queue] at hK1
      cbv
      exact hf _ _ (fin_ [] rfl rfl (hK1 c rfl))
  | false =>
    have hK : PostD K c (match dTell (ev0 5) (⟨state, true, row, header, named, cell, cells⟩, c.queue) with
      | none => none
      | some s1 => dByte x ({ s1.1 with row := true }, s1.2)) := hK
    rcases dTell_cases (ev0 5) ⟨state, true, row, header, named, cell, cells⟩ c.queue with ⟨h1, _⟩ | ⟨h1, hq⟩
    · rw [h1] at hK; exact hK.elim
    rw [h1] at hK
    have hK : PostD K c (dByte x (⟨state, true, true, header, named, cell, cells⟩, c.queue ++ [ev0 5])) := hK
    cbv
    refine cond_T hN rfl ?_
    cbv
    refine op_ hN (call_ (told_d _ _ c (ev0 5) hq) hG [1, 0] rfl rfl rfl rfl rfl ?_)
    intro c1 hc1
    have hK1 : PostD K c1 (dByte x (⟨state, true, true, header, named, cell, cells⟩, c1.queue)) := by
      have := PostD.same hK ⟨_, hc1⟩
      rw [hc1] at this ⊢
      exact this
    clear hK hc1 h1 hq
    unfold dByte at hK1
    simp only at hK1
    cbv
    refine cond_ hN ?_ ?_ <;> intro h1 <;> rw [ceq hN] at h1
    · have h1 : state = 2 := of_decide_eq_true h1
      cbv
      refine cond_ hN ?_ ?_ <;> intro h2 <;> rw [hx34] at h2
      · rw [if_pos ⟨h1, of_decide_eq_true h2⟩] at hK1
        have hKf := hK1 c1 rfl
        cbv
        exact hf _ _ (fin_cput 0 [.int .i64 3, .bool true, .bool true, .vec p 2 1 lo len cap, .bool named, .vec q 3 1 lo2 len2 cap2, .int .i64 (Int.ofNat cells)] rfl (fun _ => rfl) (fin_close rfl (.dlm ⟨3, true, true, header, named, cell, cells⟩) [0, 1] [2, 3] _ (dlmTm hv1 hv2 hok) rfl (fin_ [] rfl rfl hKf)))
      · have h2 := of_decide_eq_false h2
        rw [if_neg (fun h => h2 h.2), if_pos h1] at hK1
        cbv
        refine cond_T hN (by rw [ceq hN]; exact decide_eq_true h1) ?_
        cbv
        refine op_ hN (op_cput 0 [.int .i64 state, .bool true, .bool true, .vec p 2 1 lo len cap, .bool named, .vec q 3 1 lo2 len2 cap2, .int .i64 (Int.ofNat cells)] rfl (fun _ => rfl) (op_close rfl (.dlm ⟨state, true, true, header, named, cell, cells⟩) [0, 1] [2, 3] _ (dlmTm hv1 hv2 hok) rfl rfl ?_))
        refine call_ (says_d ⟨state, true, true, header, named, cell, cells⟩ x b hb) hG [0, 1] rfl rfl rfl rfl rfl ?_
        intro e m' h
        rw [h c1.queue] at hK1
        cbv
        exact hf _ _ (fin_ [] rfl rfl (hK1 c1 rfl))
    have h1 : ¬ state = 2 := of_decide_eq_false h1
    rw [if_neg (fun h => h1 h.1), if_neg h1] at hK1
    cbv
    refine cond_F hN (by rw [ceq hN]; exact decide_eq_false h1) ?_
    cbv
    refine cond_ hN ?_ ?_ <;> intro h3 <;> rw [hx44] at h3
    · rw [if_pos (of_decide_eq_true h3)] at hK1
      cbv
      refine op_ hN (op_cput 0 [.int .i64 state, .bool true, .bool true, .vec p 2 1 lo len cap, .bool named, .vec q 3 1 lo2 len2 cap2, .int .i64 (Int.ofNat cells)] rfl (fun _ => rfl) (op_close rfl (.dlm ⟨state, true, true, header, named, cell, cells⟩) [0, 1] [2, 3] _ (dlmTm hv1 hv2 hok) rfl rfl (op_vals (vals' := [.fn (.func 227) [] [], .ptr 0 0, .bool true, .fn (.func 55) [.ptr 1 0] []]) (fun ρ F w h => by simp [SV.denL, SV.den]) ?_)))
      refine call_ (ends_d ⟨state, true, true, header, named, cell, cells⟩ c1 true) hG [0, 1] rfl rfl rfl rfl rfl ?_
      generalize dEnds true (⟨state, true, true, header, named, cell, cells⟩, c1.queue) = y at hK1 ⊢
      cases y with
      | none => exact hK1.elim
      | some y =>
        obtain ⟨e, m2, q2⟩ := y
        intro c2 hc2
        cbv
        exact hf _ _ (fin_ [] rfl rfl (hK1 c2 hc2))
    have h3 := of_decide_eq_false h3
    rw [if_neg h3] at hK1
    cbv
    refine cond_ hN ?_ ?_ <;> intro h4 <;> rw [hx10] at h4
    · rw [if_pos (of_decide_eq_true h4)] at hK1
      cbv
      refine op_ hN (op_cput 0 [.int .i64 state, .bool true, .bool true, .vec p 2 1 lo len cap, .bool named, .vec q 3 1 lo2 len2 cap2, .int .i64 (Int.ofNat cells)] rfl (fun _ => rfl) (op_close rfl (.dlm ⟨state, true, true, header, named, cell, cells⟩) [0, 1] [2, 3] _ (dlmTm hv1 hv2 hok) rfl rfl (op_vals (vals' := [.fn (.func 227) [] [], .ptr 0 0, .bool false, .fn (.func 55) [.ptr 1 0] []]) (fun ρ F w h => by simp [SV.denL, SV.den]) ?_)))
      refine call_ (ends_d ⟨state, true, true, header, named, cell, cells⟩ c1 false) hG [0, 1] rfl rfl rfl rfl rfl ?_
      generalize dEnds false (⟨state, true, true, header, named, cell, cells⟩, c1.queue) = y at hK1 ⊢
      cases y with
      | none => exact hK1.elim
      | some y =>
        obtain ⟨e, m2, q2⟩ := y
        intro c2 hc2
        cbv
        exact hf _ _ (fin_ [] rfl rfl (hK1 c2 hc2))
    have h4 := of_decide_eq_false h4
    rw [if_neg h4] at hK1
    cbv
    refine cond_ hN ?_ ?_ <;> intro h5 <;> rw [ceq hN] at h5
    · have h5 : state = 3 := of_decide_eq_true h5
      cbv
      refine cond_ hN ?_ ?_ <;> intro h6 <;> rw [hx34] at h6
      · rw [if_pos ⟨h5, of_decide_eq_true h6⟩] at hK1
        cbv
        refine op_ hN (op_cput 0 [.int .i64 2, .bool true, .bool true, .vec p 2 1 lo len cap, .bool named, .vec q 3 1 lo2 len2 cap2, .int .i64 (Int.ofNat cells)] rfl (fun _ => rfl) (op_close rfl (.dlm ⟨2, true, true, header, named, cell, cells⟩) [0, 1] [2, 3] _ (dlmTm hv1 hv2 hok) rfl rfl ?_))
        refine call_ (says_d ⟨2, true, true, header, named, cell, cells⟩ x b hb) hG [0, 1] rfl rfl rfl rfl rfl ?_
        intro e m' h
        rw [h c1.queue] at hK1
        cbv
        exact hf _ _ (fin_ [] rfl rfl (hK1 c1 rfl))
      · have h6 := of_decide_eq_false h6
        rw [if_neg (fun h => h6 h.2), if_pos (.inl h5)] at hK1
        have hKf := hK1 c1 rfl
        cbv
        refine cond_T hN (by rw [ceq hN]; exact decide_eq_true h5) ?_
        cbv
        exact hf _ _ (fin_cput 0 [.int .i64 state, .bool true, .bool true, .vec p 2 1 lo len cap, .bool named, .vec q 3 1 lo2 len2 cap2, .int .i64 (Int.ofNat cells)] rfl (fun _ => rfl) (fin_close rfl (.dlm ⟨state, true, true, header, named, cell, cells⟩) [0, 1] [2, 3] _ (dlmTm hv1 hv2 hok) rfl (fin_ [] rfl rfl hKf)))
    have h5 : ¬ state = 3 := of_decide_eq_false h5
    rw [if_neg (fun h => h5 h.1)] at hK1
    cbv
    refine cond_F hN (by rw [ceq hN]; exact decide_eq_false h5) ?_
    cbv
    refine cond_ hN ?_ ?_ <;> intro h7 <;> rw [hx32] at h7
    · rw [if_pos (.inr (.inl (of_decide_eq_true h7)))] at hK1
      have hKf := hK1 c1 rfl
      cbv
      exact hf _ _ (fin_cput 0 [.int .i64 state, .bool true, .bool true, .vec p 2 1 lo len cap, .bool named, .vec q 3 1 lo2 len2 cap2, .int .i64 (Int.ofNat cells)] rfl (fun _ => rfl) (fin_close rfl (.dlm ⟨state, true, true, header, named, cell, cells⟩) [0, 1] [2, 3] _ (dlmTm hv1 hv2 hok) rfl (fin_ [] rfl rfl hKf)))
    have h7 := of_decide_eq_false h7
    cbv
    refine cond_ hN ?_ ?_ <;> intro h8 <;> rw [ceq hN] at h8
    · have h8 : state = 1 := of_decide_eq_true h8
      cbv
      refine cond_ hN ?_ ?_ <;> intro h9 <;> rw [hx34] at h9
      · rw [if_pos (.inr (.inr ⟨h8, of_decide_eq_true h9⟩))] at hK1
        have hKf := hK1 c1 rfl
        cbv
        exact hf _ _ (fin_cput 0 [.int .i64 state, .bool true, .bool true, .vec p 2 1 lo len cap, .bool named, .vec q 3 1 lo2 len2 cap2, .int .i64 (Int.ofNat cells)] rfl (fun _ => rfl) (fin_close rfl (.dlm ⟨state, true, true, header, named, cell, cells⟩) [0, 1] [2, 3] _ (dlmTm hv1 hv2 hok) rfl (fin_ [] rfl rfl hKf)))
      · have h9 := of_decide_eq_false h9
        rw [if_neg (fun h => h.elim h5 (fun h => h.elim h7 (fun h => h9 h.2))), if_neg h9] at hK1
        cbv
        refine cond_F hN (by rw [hx34]; exact decide_eq_false h9) ?_
        cbv
        refine op_ hN (op_cput 0 [.int .i64 1, .bool true, .bool true, .vec p 2 1 lo len cap, .bool named, .vec q 3 1 lo2 len2 cap2, .int .i64 (Int.ofNat cells)] rfl (fun _ => rfl) (op_close rfl (.dlm ⟨1, true, true, header, named, cell, cells⟩) [0, 1] [2, 3] _ (dlmTm hv1 hv2 hok) rfl rfl ?_))
        refine call_ (says_d ⟨1, true, true, header, named, cell, cells⟩ x b hb) hG [0, 1] rfl rfl rfl rfl rfl ?_
        intro e m' h
        rw [h c1.queue] at hK1
        cbv
        exact hf _ _ (fin_ [] rfl rfl (hK1 c1 rfl))
    have h8 : ¬ state = 1 := of_decide_eq_false h8
    rw [if_neg (fun h => h.elim h5 (fun h => h.elim h7 (fun h => h8 h.1)))] at hK1
    cbv
    refine cond_ hN ?_ ?_ <;> intro h9 <;> rw [hx34] at h9
    · rw [if_pos (of_decide_eq_true h9)] at hK1
      have hKf := hK1 c1 rfl
      cbv
      exact hf _ _ (fin_cput 0 [.int .i64 2, .bool true, .bool true, .vec p 2 1 lo len cap, .bool named, .vec q 3 1 lo2 len2 cap2, .int .i64 (Int.ofNat cells)] rfl (fun _ => rfl) (fin_close rfl (.dlm ⟨2, true, true, header, named, cell, cells⟩) [0, 1] [2, 3] _ (dlmTm hv1 hv2 hok) rfl (fin_ [] rfl rfl hKf)))
    · rw [if_neg (of_decide_eq_false h9)] at hK1
      cbv
      refine op_ hN (op_cput 0 [.int .i64 1, .bool true, .bool true, .vec p 2 1 lo len cap, .bool named, .vec q 3 1 lo2 len2 cap2, .int .i64 (Int.ofNat cells)] rfl (fun _ => rfl) (op_close rfl (.dlm ⟨1, true, true, header, named, cell, cells⟩) [0, 1] [2, 3] _ (dlmTm hv1 hv2 hok) rfl rfl ?_))
      refine call_ (says_d ⟨1, true, true, header, named, cell, cells⟩ x b hb) hG [0, 1] rfl rfl rfl rfl rfl ?_
      intro e m' h
      rw [h c1.queue] at hK1
      cbv
      exact hf _ _ (fin_ [] rfl rfl (hK1 c1 rfl))
end Hx
