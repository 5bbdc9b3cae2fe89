/-
  Part of a proof.
-/
import Derived.Test.YtafhlipcgbopnaaGreatDoorW20
import Derived.Test.YtafhlipcgbopnaaGreatDoorW08
set_option linter.unusedVariables false
set_option linter.unusedSimpArgs false
/- outline.machine.looks. -/
namespace Hx
open Go Sx Go.Proofs
set_option maxRecDepth 100000
set_option maxHeartbeats 4000000
set_option linter.unusedVariables false
set_option linter.unusedSimpArgs false
variable {GOk : Gl → Prop}
variable {right : Ev → Bool} {numRead : ByteArray → ByteArray × Int}
def PostL (K : Out → List (Chunk Pd) → Prop) : Option (Int × OS) → Prop
  | none => False
  | some (e, s') => K (.ret (.int .i64 e)) (oc s')
def LineOk (GOk : Gl → Prop) (right : Ev → Bool) (numRead : ByteArray → ByteArray × Int) : Prop :=
  ∀ (s : OS) (t : ByteArray), t.size < 1000000 → Triple (BB Ip GOk) 150 2 2 [.ptr 0 0, .str t] (oc s) (fun K => PostR (fun _ => .tuple []) oc K (lineM right numRead t s))
theorem looks_spec (hln : LineOk GOk right numRead) (s : OS) (t : Bool) (nl : Nat) (hnl : nl ≤ 1) : Triple (BB Ip GOk) 145 2 2 [.ptr 0 0, .int .i64 (Int.ofNat nl), .fn (.func 25) [.ptr 1 0] []] [.abs (.mch s.m t) [0, 1], .abs (.core s.c) [1, 0]]
    (fun K => PostL K (looksM right numRead nl s)) := by
  obtain ⟨⟨ahead, line, chk, anc, opn, waits⟩, core⟩ := s
  refine triple_defer BB_ok (tb := ty) rfl (rs := [_, _, _]) (n0 := 6) (fun y : {cs' // Tm (.mch ⟨ahead, line, chk, anc, opn, waits⟩ t) cs'} => csRen (sg [0, 1] 2) y.1 ++ [.abs (.core core) [1, 0]]) pl145 Tryz.call145 Tryz.call148 Tryz.func145 rfl (by kernel_rfl) (by kernel_rfl) rfl rfl rfl rfl rfl rfl rfl rfl rfl rfl rfl rfl rfl rfl (pre_open rfl rfl rfl) ?_
  rintro G hG K hK W bi bc bs bk bu bb bo bg bl bp bn be Ncond Nob Nop Nloop Nscope hN ⟨cs', hT⟩
  obtain ⟨p, lo, len, cap, xs, q, lo2, len2, cap2, ys, tl, hv1, hv2, hl, htl, htl2, rfl⟩ := id hT
  simp only at hv1 hv2 hl
  have htl3 : tl = .fn (.func 25) [.ptr 1 0] [] ∨ tl = .nilfn := by cases t with
    | true => exact .inl (htl rfl)
    | false => exact .inr (htl2 rfl)
  clear htl htl2
  rcases htl3 with rfl | rfl
  all_goals
    cbv
    refine ⟨[.ptr 7 0, .ptr 8 0, .ptr 6 0], 7, rfl, rfl, rfl, rfl, ?_⟩
    clear hN
    intro D kv W bi bc bs bk bu bb bo bg bl bp bn be Ncond Nob Nop Nloop Nscope hN
    cbv
    repeat' (first | exact True.intro | with_reducible refine dup ?_ | refine And.intro ?_ ?_)
    all_goals
      have hlen := hv1.length
      have hroom := hv1.room
      have hfits := hv1.fits
      by_cases hA : ahead > 1000000
      · simp only [looksM] at hK; rw [if_pos hA] at hK; exact hK.elim
      simp only [looksM] at hK
      rw [if_neg hA] at hK
      refine op_ hN (nodeD (inline_ BB_ok (tb := ty) rfl pl151 Tryz.call151 Tryz.func151 rfl (by kernel_rfl) (Nat.le_of_ble_eq_true rfl) ?_))
      intro W2 bi2 bc2 bs2 bk2 bu2 bb2 bo2 bg2 bl2 bp2 bn2 be2 Ncond2 Nob2 Nop2 Nloop2 Nscope2 hN2
      have hb1 : bo2 lo 0 cap = lo := by rw [bo_ hN2]; simp [sloff]
      have hb2 : bg2 0 0 = 0 := by rw [bg_ hN2]; simp
      have hb3 : bl2 cap 0 = cap := by rw [bl_ hN2]; simp
      cbv
      refine op_ hN2 (bytes_str ty_ok rfl rfl rfl rfl rfl rfl rfl (by omega) (fun h => by have := hv1.pr h; omega) ?_)
      intro t1 ht1
      rw [hv1.eq] at ht1
      have hob : obsP [.le3 0 0 (Int.ofNat cap)] := ⟨⟨by simp, by simp, by simp⟩, trivial⟩
      obtain rfl : t1 = bytesOf line := by cases t1; simp only [bytesOf] at ht1 ⊢; rw [← ht1]
      have hsz : (bytesOf line).size = line.length := by simp [bytesOf, ByteArray.size]
      obtain ⟨A2, hA2⟩ : ∃ x, x = ahead + line.length + nl := ⟨_, rfl⟩
      have ha1 : bi2 .add .i64 (bn2 (bytesOf line)) (Int.ofNat nl) = Int.ofNat (line.length + nl) := by rw [len_eq hN2, hsz, iadd hN2 (by simp; omega) (by simp; omega)]; simp
      have ha2 : bi2 .add .i64 (Int.ofNat ahead) (Int.ofNat (line.length + nl)) = Int.ofNat A2 := by rw [iadd hN2 (by simp; omega) (by simp; omega), hA2]; simp; omega
      obtain ⟨B2, hB2⟩ : ∃ x, x = line.length + nl := ⟨_, rfl⟩
      rw [← hB2] at ha1 ha2
      rw [← hA2] at hK
      have hs1 : (bytesOf line).size < 1000000 := by omega
      have ht2 := hln ⟨⟨A2, [], chk, anc, opn, waits⟩, core⟩ (bytesOf line) hs1
      have hmc : Tm (.mch ⟨A2, [], chk, anc, opn, waits⟩ true) [.cells 0 55 [.int .i64 (Int.ofNat A2), .vec p 2 1 lo 0 cap, .ptr 4 0, .ptr 5 0, .vec q 3 2 lo2 len2 cap2, .bool waits, .fn (.func 25) [.ptr 1 0] []], .arr p true 2 5 encB xs, .arr q true 3 224 encK ys, .abs (.chk chk) [4], .abs (.anc anc) [5]] :=
        ⟨p, lo, 0, cap, xs, q, lo2, len2, cap2, ys, _, ⟨hv1.pr, hv1.room, Nat.zero_le _, rfl⟩, hv2, ⟨Nat.zero_le _, hl.2⟩, fun _ => rfl, (fun h => nomatch h), rfl⟩
      generalize bytesOf line = t1 at hK ha1 ht2 ⊢
      clear ht1 hsz hs1
      cbv
      refine ob_ hN2 hob ?_
      simp only [hb1, hb2, hb3]
      cbv
      simp only [ha1, ha2]
      repeat' (first | exact True.intro | with_reducible refine dup ?_ | refine And.intro ?_ ?_)
      all_goals
        refine op_ hN (op_close rfl (.mch ⟨A2, [], chk, anc, opn, waits⟩ true) [0, 1] [2, 3, 4, 5] _ hmc rfl rfl (nodeD ?_))
        refine call_ ht2 hG [0, 1] rfl rfl rfl rfl rfl ?_
        generalize lineM right numRead t1 { m := { ahead := A2, line := [], chk := chk, anc := anc, opn := opn, waits := waits }, c := core } = y at hK ⊢
        obtain ⟨r, s'⟩ := y
        cases r with
        | ok a =>
          cbv
          exact dend_ (looks_cl_ret ahead) hG [7, 8, 6, 0, 1] rfl rfl rfl rfl rfl rfl ⟨_, rfl, fin_ [] rfl rfl hK⟩
        | err e a =>
          simp only at hK
          by_cases hea : e ≤ 0 ∨ a < 0 ∨ a > 1000000
          · rw [if_pos hea] at hK; exact hK.elim
          rw [if_neg hea] at hK
          cbv
          exact ⟨(flt e a).den id, fun _ => rfl, dend_ (looks_cl_pan ahead e a s'.m (by omega) (by omega) (by omega) (by omega)) hG [7, 8, 6, 0, 1] rfl rfl rfl rfl rfl rfl ⟨_, rfl, fin_ [] rfl rfl hK⟩⟩
        | ovf => exact hK.elim
end Hx
