/-
  Part of a proof.
-/
import Derived.Test.YtlmbbchfaoeebaaGreatDoorW09
import Derived.Test.YtlmbbchfaoeebaaGreatDoorW08
import Derived.Test.YtlmbbchfaoeebaaGreatDoorW03
set_option linter.unusedVariables false
set_option linter.unusedSimpArgs false
/- The closures of looks and finish. -/
namespace Hx
open Go Sx Go.Proofs
set_option maxRecDepth 100000
set_option maxHeartbeats 4000000
set_option linter.unusedVariables false
set_option linter.unusedSimpArgs false
variable {GOk : Gl → Prop}
variable {right : Ev → Bool} {numRead : ByteArray → ByteArray × Int}
theorem caught_nil : Triple (BB Ip GOk) 155 0 0 [.niliface] [] (fun K => K (.ret (.agg [.int .i64 0, .int .i64 0])) []) := by
  refine triple_of BB_ok (tb := ty) rfl (n0 := 0) (fun _ : Unit => _) pl155 Tryz.call155 Tryz.func155 rfl (by kernel_rfl) (Nat.le_of_ble_eq_true rfl) (by decide) rfl pre_none ?_
  rintro G hG K hK W bi bc bs bk bu bb bo bg bl bp bn be Ncond Nob Nop Nloop Nscope hN Nfin hf _ _
  cbv
  exact hf _ _ (fin_ [] rfl rfl hK)
theorem caught_flt (e a : Int) : Triple (BB Ip GOk) 155 0 0 [flt e a] [] (fun K => K (.ret (.agg [.int .i64 e, .int .i64 a])) []) := by
  refine triple_of BB_ok (tb := ty) rfl (n0 := 0) (fun _ : Unit => _) pl155 Tryz.call155 Tryz.func155 rfl (by kernel_rfl) (Nat.le_of_ble_eq_true rfl) (by decide) rfl pre_none ?_
  rintro G hG K hK W bi bc bs bk bu bb bo bg bl bp bn be Ncond Nob Nop Nloop Nscope hN Nfin hf _ _
  cbv
  exact hf _ _ (fin_ [] rfl rfl hK)
theorem looks_cl_ret (A : Nat) : DTriple (BB Ip GOk) 154 5 [.ptr 0 0, .ptr 1 0, .ptr 2 0] [.cells 0 25 [.int .i64 0], .cells 1 3 [.int .i64 (Int.ofNat A)], .cells 2 50 [.ptr 3 0]] .returning
    (fun K => K [.cells 0 25 [.int .i64 0], .cells 1 3 [.int .i64 (Int.ofNat A)], .cells 2 50 [.ptr 3 0]]) := by
  refine dcall_first BB_ok (tb := ty) rfl pl154 Tryz.func154 rfl (by kernel_rfl) rfl rfl rfl rfl rfl rfl rfl rfl .niliface (fun _ => rfl) ?_
  rintro G hG K hK W bi bc bs bk bu bb bo bg bl bp bn be Ncond Nob Nop Nloop Nscope hN Nfin hf _
  cbv
  refine op_ hN (call_ (caught_nil) hG [] rfl rfl rfl rfl rfl ?_)
  cbv
  refine cond_F hN (by rw [cne hN]; rfl) ?_
  cbv
  exact hf _ (FinD.of [] rfl hK)
theorem looks_cl_pan (A : Nat) (e a : Int) (m : Sec) (he : e ≠ 0) (ha : 0 ≤ a) (ha2 : a ≤ 1000000) (hA : A ≤ 1000000) : DTriple (BB Ip GOk) 154 5 [.ptr 0 0, .ptr 1 0, .ptr 2 0] [.cells 0 25 [.int .i64 0], .cells 1 3 [.int .i64 (Int.ofNat A)], .cells 2 50 [.ptr 3 0], .abs (.sec m true) [3, 4]] (.panicking [{ v := (flt e a).den id, recovered := false }])
    (fun K => K [.cells 0 25 [.int .i64 e], .cells 1 3 [.int .i64 (Int.ofNat A)], .cells 2 50 [.ptr 3 0], .abs (.sec { m with ahead := A + a.toNat } true) [3, 4]]) := by
  refine dcall_first BB_ok (tb := ty) rfl pl154 Tryz.func154 rfl (by kernel_rfl) rfl rfl rfl rfl rfl rfl rfl rfl (flt e a) (fun _ => rfl) ?_
  rintro G hG K hK W bi bc bs bk bu bb bo bg bl bp bn be Ncond Nob Nop Nloop Nscope hN Nfin hf _
  cbv
  refine op_ hN (call_ (caught_flt e a) hG [] rfl rfl rfl rfl rfl ?_)
  cbv
  refine cond_T hN (by rw [cne hN]; simpa using he) ?_
  cbv
  refine op_ hN (op_open rfl 3 4 rfl rfl rfl rfl ?_)
  rintro _ ⟨p, lo, len, cap, xs, q, lo2, len2, cap2, ys, hp, lo3, len3, cap3, zs, tl, hv1, hv2, hv3, hl, htl, -, rfl⟩
  obtain rfl := htl rfl
  have hadd : bi .add .i64 (Int.ofNat A) a = Int.ofNat (A + a.toNat) := by rw [iadd hN (by simp; omega) (by simp; omega)]; simp only [Int.ofNat_eq_natCast]; omega
  obtain ⟨A', hA'⟩ : ∃ x, x = A + a.toNat := ⟨_, rfl⟩
  rw [← hA'] at hadd hK
  simp only [hadd]
  refine store_ ty_ok rfl ?_
  cbv
  exact hf _ (finD_close rfl (.sec { m with ahead := A' } true) [3, 4] [6, 7, 8, 9] _ (secTm hv1 hv2 hv3 hl) rfl (FinD.of [] rfl hK))
theorem field0 (xs : Array Value) (u : Value) (w : World) (h : xs[0]? = some u) : (Instr.field 224 (.agg xs) 0).run P w = .ok u w := by
  have : (Instr.field 224 (.agg xs) 0).run P w = (match xs[0]? with | some v => (pure v : Sem Value) | none => stuck "part: no such cell").run P w := by kernel_rfl
  rw [this, h]; rfl
theorem finish_cl_ret (v : Int) (hv : 0 ≤ v) : DTriple (BB Ip GOk) 158 1 [.ptr 0 0] [.cells 0 25 [.int .i64 v]] .returning (fun K => K [.cells 0 25 [.int .i64 v]]) := by
  refine dcall_any BB_ok (tb := ty) rfl (.all [(0, (.all [(2, (.all [(3, (tk [4] (.all [(5, .done)])))]))])), (2, (.all [(0, (.all [(3, (tk [4] (.all [(5, .done)])))])), (3, (.all [(0, (tk [4] (.all [(5, .done)])))]))]))]) (.all [(2, (.all [(3, (tk [4] (.all [(5, .done)])))]))]) Tryz.func158 rfl (i0 := 0) (ir := 1) (m := 4) rfl rfl rfl rfl rfl rfl rfl rfl rfl rfl (by kernel_rfl) (by kernel_rfl) (by kernel_rfl) (by kernel_rfl) (by kernel_rfl) rfl .niliface (fun _ => rfl) ?_
  rintro G hG K hK W bi bc bs bk bu bb bo bg bl bp bn be Ncond Nob Nop Nloop Nscope hN Nfin hf _
  have hmax : bi .gtr .i64 v 0 = v := by rw [bi_ hN]; simp only [bitI, imax]; split <;> omega
  have hend : Nfin [.cells 0 25 [.int .i64 v]] := hf _ (FinD.of [] rfl hK)
  cbv
  repeat' (first | exact True.intro | with_reducible refine dup ?_ | refine And.intro ?_ ?_)
  all_goals
    refine op_ hN (call_ (caught_nil) hG [] rfl rfl rfl rfl rfl ?_)
    cbv
    repeat' (first | exact True.intro | with_reducible refine dup ?_ | refine And.intro ?_ ?_)
    all_goals
      refine op_ hN (field_ field0 rfl ?_)
      cbv
      repeat' (first | exact True.intro | with_reducible refine dup ?_ | refine And.intro ?_ ?_)
    all_goals
      simp only [hmax]
      exact hend
theorem finish_cl_pan (e a : Int) (he : 0 < e) : DTriple (BB Ip GOk) 158 1 [.ptr 0 0] [.cells 0 25 [.int .i64 0]] (.panicking [{ v := (flt e a).den id, recovered := false }]) (fun K => K [.cells 0 25 [.int .i64 e]]) := by
  refine dcall_any BB_ok (tb := ty) rfl (.all [(0, (.all [(2, (.all [(3, (tk [4] (.all [(5, .done)])))]))])), (2, (.all [(0, (.all [(3, (tk [4] (.all [(5, .done)])))])), (3, (.all [(0, (tk [4] (.all [(5, .done)])))]))]))]) (.all [(2, (.all [(3, (tk [4] (.all [(5, .done)])))]))]) Tryz.func158 rfl (i0 := 0) (ir := 1) (m := 4) rfl rfl rfl rfl rfl rfl rfl rfl rfl rfl (by kernel_rfl) (by kernel_rfl) (by kernel_rfl) (by kernel_rfl) (by kernel_rfl) rfl (flt e a) (fun _ => rfl) ?_
  rintro G hG K hK W bi bc bs bk bu bb bo bg bl bp bn be Ncond Nob Nop Nloop Nscope hN Nfin hf _
  have hmax : bi .gtr .i64 0 e = e := by rw [bi_ hN]; simp only [bitI, imax]; split <;> omega
  have hend : Nfin [.cells 0 25 [.int .i64 e]] := hf _ (FinD.of [] rfl hK)
  cbv
  repeat' (first | exact True.intro | with_reducible refine dup ?_ | refine And.intro ?_ ?_)
  all_goals
    refine op_ hN (call_ (caught_flt e a) hG [] rfl rfl rfl rfl rfl ?_)
    cbv
    repeat' (first | exact True.intro | with_reducible refine dup ?_ | refine And.intro ?_ ?_)
    all_goals
      refine op_ hN (field_ field0 rfl ?_)
      cbv
      repeat' (first | exact True.intro | with_reducible refine dup ?_ | refine And.intro ?_ ?_)
    all_goals
      simp only [hmax]
      exact hend
end Hx
/- sections.machine.looks: the walk. -/
namespace Hx
open Go Sx Go.Proofs
set_option maxRecDepth 100000
set_option maxHeartbeats 4000000
set_option linter.unusedVariables false
set_option linter.unusedSimpArgs false
variable {GOk : Gl → Prop}
variable {right : Ev → Bool} {numRead : ByteArray → ByteArray × Int}
def PostLS (K : Out → List (Chunk Pd) → Prop) : Option (Int × OS Sec) → Prop
  | none => False
  | some (e, s') => K (.ret (.int .i64 e)) (ocS s')
def LineOk (GOk : Gl → Prop) (right : Ev → Bool) (numRead : ByteArray → ByteArray × Int) : Prop :=
  ∀ (s : OS Sec) (t : ByteArray), t.size < 999000 → Triple (BB Ip GOk) 156 2 2 [.ptr 0 0, .str t] (ocS s) (fun K => PostR (fun _ => .tuple []) ocS K (secLine right numRead t s))
theorem looks_spec (hln : LineOk GOk right numRead) (s : OS Sec) (t : Bool) (nl : Nat) (hnl : nl ≤ 1) : Triple (BB Ip GOk) 151 2 2 [.ptr 0 0, .int .i64 (Int.ofNat nl), .fn (.func 31) [.ptr 1 0] []] [.abs (.sec s.m t) [0, 1], .abs (.core s.c 50 40) [1, 0]]
    (fun K => PostLS K (secLooks right numRead nl s)) := by
  obtain ⟨⟨ahead, line, chk, place, header, begun⟩, core⟩ := s
  refine triple_defer BB_ok (tb := ty) rfl (rs := [_, _, _]) (n0 := 6) (fun y : {cs' // Tm (.sec ⟨ahead, line, chk, place, header, begun⟩ t) cs'} => csRen (sg [0, 1] 2) y.1 ++ [.abs (.core core 50 40) [1, 0]]) pl151 Tryz.call151 Tryz.call154 Tryz.func151 rfl (by kernel_rfl) (by kernel_rfl) rfl rfl rfl rfl rfl rfl rfl rfl rfl rfl rfl rfl rfl rfl (pre_open rfl rfl rfl) ?_
  rintro G hG K hK W bi bc bs bk bu bb bo bg bl bp bn be Ncond Nob Nop Nloop Nscope hN ⟨cs', hT⟩
  obtain ⟨p, lo, len, cap, xs, q, lo2, len2, cap2, ys, hp, lo3, len3, cap3, zs, tl, hv1, hv2, hv3, hl, htl, htl2, rfl⟩ := id hT
  simp only at hv1 hv2 hv3 hl
  have htl3 : tl = .fn (.func 31) [.ptr 1 0] [] ∨ tl = .nilfn := by cases t with
    | true => exact .inl (htl rfl)
    | false => exact .inr (htl2 rfl)
  clear htl htl2
  rcases htl3 with rfl | rfl
  all_goals
    cbv
    refine ⟨[.ptr 7 0, .ptr 8 0, .ptr 6 0], 7, rfl, rfl, rfl, rfl, ?_⟩
    clear hN
    intro D kv W bi bc bs bk bu bb bo bg bl bp bn be Ncond Nob Nop Nloop Nscope hN
    cbv
    repeat' (first | exact True.intro | with_reducible refine dup ?_ | refine And.intro ?_ ?_)
    all_goals
      have hlen := hv1.length
      have hroom := hv1.room
      have hfits := hv1.fits
      by_cases hA : ahead > 1000000
      · simp only [secLooks] at hK; rw [if_pos hA] at hK; exact hK.elim
      simp only [secLooks] at hK
      rw [if_neg hA] at hK
      refine op_ hN (nodeD (inline_ BB_ok (tb := ty) rfl pl157 Tryz.call157 Tryz.func157 rfl (by kernel_rfl) (Nat.le_of_ble_eq_true rfl) ?_))
      intro W2 bi2 bc2 bs2 bk2 bu2 bb2 bo2 bg2 bl2 bp2 bn2 be2 Ncond2 Nob2 Nop2 Nloop2 Nscope2 hN2
      have hb1 : bo2 lo 0 cap = lo := by rw [bo_ hN2]; simp [sloff]
      have hb2 : bg2 0 0 = 0 := by rw [bg_ hN2]; simp
      have hb3 : bl2 cap 0 = cap := by rw [bl_ hN2]; simp
      cbv
      refine op_ hN2 (bytes_str ty_ok rfl rfl rfl rfl rfl rfl rfl (by omega) (fun h => by have := hv1.pr h; omega) ?_)
      intro t1 ht1
      rw [hv1.eq] at ht1
      have hob : obsP [.le3 0 0 (Int.ofNat cap)] := ⟨⟨by simp, by simp, by simp⟩, trivial⟩
      obtain rfl : t1 = bytesOf line := by cases t1; simp only [bytesOf] at ht1 ⊢; rw [← ht1]
      have hsz : (bytesOf line).size = line.length := by simp [bytesOf, ByteArray.size]
      obtain ⟨A2, hA2⟩ : ∃ x, x = ahead + line.length + nl := ⟨_, rfl⟩
      have ha1 : bi2 .add .i64 (bn2 (bytesOf line)) (Int.ofNat nl) = Int.ofNat (line.length + nl) := by rw [len_eq hN2, hsz, iadd hN2 (by simp; omega) (by simp; omega)]; simp
      have ha2 : bi2 .add .i64 (Int.ofNat ahead) (Int.ofNat (line.length + nl)) = Int.ofNat A2 := by rw [iadd hN2 (by simp; omega) (by simp; omega), hA2]; simp; omega
      obtain ⟨B2, hB2⟩ : ∃ x, x = line.length + nl := ⟨_, rfl⟩
      rw [← hB2] at ha1 ha2
      rw [← hA2] at hK
      have hs1 : (bytesOf line).size < 999000 := by omega
      have ht2 := hln ⟨⟨A2, [], chk, place, header, begun⟩, core⟩ (bytesOf line) hs1
      have hv1' : VecOk p lo 0 cap xs ([] : List UInt8) := ⟨hv1.pr, hv1.room, Nat.zero_le _, rfl⟩
      have hl' : ([] : List UInt8).length ≤ 160 ∧ place.length ≤ 1000 ∧ header.length ≤ 1000000 := ⟨Nat.zero_le _, hl.2⟩
      generalize bytesOf line = t1 at hK ha1 ht2 ⊢
      clear ht1 hsz hs1
      cbv
      refine ob_ hN2 hob ?_
      simp only [hb1, hb2, hb3]
      cbv
      simp only [ha1, ha2]
      repeat' (first | exact True.intro | with_reducible refine dup ?_ | refine And.intro ?_ ?_)
      all_goals
        refine op_ hN (op_close rfl (.sec ⟨A2, [], chk, place, header, begun⟩ true) [0, 1] [2, 3, 4, 5] _ (secTm hv1' hv2 hv3 hl') rfl rfl (nodeD ?_))
        refine call_ ht2 hG [0, 1] rfl rfl rfl rfl rfl ?_
        generalize secLine right numRead t1 { m := { ahead := A2, line := [], chk := chk, place := place, header := header, begun := begun }, c := core } = y at hK ⊢
        obtain ⟨r, s'⟩ := y
        cases r with
        | ok a =>
          cbv
          exact dend_ (looks_cl_ret ahead) hG [7, 8, 6, 0, 1] rfl rfl rfl rfl rfl rfl ⟨_, rfl, fin_ [] rfl rfl hK⟩
        | err e a =>
          simp only at hK
          by_cases hea : e ≤ 0 ∨ a < 0 ∨ a > 1000000
          · rw [if_pos hea] at hK; exact hK.elim
          rw [if_neg hea] at hK
          cbv
          exact ⟨(flt e a).den id, fun _ => rfl, dend_ (looks_cl_pan ahead e a s'.m (by omega) (by omega) (by omega) (by omega)) hG [7, 8, 6, 0, 1] rfl rfl rfl rfl rfl rfl ⟨_, rfl, fin_ [] rfl rfl hK⟩⟩
        | ovf => exact hK.elim

end Hx
