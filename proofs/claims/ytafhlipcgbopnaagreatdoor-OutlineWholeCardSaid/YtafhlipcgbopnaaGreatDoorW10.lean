/-
  Part of a proof.
-/
import Derived.Test.YtafhlipcgbopnaaGreatDoorW09
set_option linter.unusedVariables false
set_option linter.unusedSimpArgs false
/- row.Row.Name: the walk. -/
namespace Hx
open Go Sx Go.Proofs
set_option maxRecDepth 100000
set_option maxHeartbeats 4000000
set_option linter.unusedVariables false
set_option linter.unusedSimpArgs false
variable {GOk : Gl → Prop}
theorem Name_spec (s : ByteArray) (a : Nat) (tv : Value) (hs : s.size < 4611686018427387904) (ha : a ≤ s.size) : Triple (BB Ip GOk) 171 1 1 [.ptr 0 0] [rowc 0 s a tv]
    (fun K => ∀ k e, (k, e) = nameGo s a true a → (e = 0 → K (.ret (.str (subs s (Int.ofNat a) (Int.ofNat k)))) [rowc 0 s k tv]) ∧ (e ≠ 0 → K (.pan (flt e (Int.ofNat k))) [rowc 0 s k tv])) := by
  refine triple_of BB_ok (tb := ty) rfl (n0 := 1) (fun _ : Unit => _) pl171 Tryz.call171 Tryz.func171 rfl (by kernel_rfl) (Nat.le_of_ble_eq_true rfl) (by decide) rfl pre_none ?_
  rintro G hG K hK W bi bc bs bk bu bb bo bg bl bp bn be Ncond Nob Nop Nloop Nscope hN Nfin hf _ _
  cbv
  refine op_ hN (op_vals (vals' := [.fn (.func 183) [] [], .ptr 0 0, .bool true]) (fun _ _ _ _ => rfl) (call_ (name_spec s a tv true hs ha) hG [0] rfl rfl rfl rfl rfl ?_))
  intro k e hke
  refine ⟨fun h0 => ?_, fun h0 => ?_⟩
  · have h1 := (hK k e hke).1 h0
    generalize subs s (Int.ofNat a) (Int.ofNat k) = n at h1 ⊢
    cbv
    exact hf _ _ (fin_ [] rfl rfl h1)
  · cbv
    exact hf _ _ (fin_ [] rfl rfl ((hK k e hke).2 h0))
end Hx
