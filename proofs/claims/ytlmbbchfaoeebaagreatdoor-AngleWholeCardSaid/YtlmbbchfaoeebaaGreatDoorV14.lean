/-
  Part of a proof.
-/
import Derived.Test.YtlmbbchfaoeebaaGreatDoorV11
import Derived.Test.YtlmbbchfaoeebaaGreatDoorV09
import Derived.Test.YtlmbbchfaoeebaaGreatDoorV03
import Derived.Lib.ItoaLen
set_option linter.unusedVariables false
set_option linter.unusedSimpArgs false
/- num.read, form, may, Read. -/
namespace Hx
open Go Sx Go.Proofs
set_option maxRecDepth 100000
set_option maxHeartbeats 4000000
set_option linter.unusedVariables false
set_option linter.unusedSimpArgs false
variable {GOk : Gl → Prop}
/-- a number: is it below 0, its digits, the power of ten -/
structure NV where
  below : Bool
  digits : ByteArray
  power : Int
def nv0 : NV := ⟨false, ⟨#[]⟩, 0⟩
def bL (l : List UInt8) : ByteArray := ⟨l.toArray⟩
def tailP (tail : List UInt8) : Int := if tail = [] then 0 else match atoiV tail with
  | some v => v
  | none => if tail.head? = some 45 then IntKind.i64.wrap (0 - 1099511627776) else 1099511627776
def numRead0 (t : ByteArray) : Option NV :=
  if !mayIs t || decide (t.size > 30) then none else
  let l := Lib.trimPrefix t.data.toList [45]
  let ht := Lib.cut (Lib.toLowerA l) [101]
  let wp := Lib.cut ht.1 [46]
  let all := Lib.trimLeftB (wp.1 ++ wp.2.1) 48
  let dg := Lib.trimRightB all 48
  some (if dg = [] then nv0 else ⟨Lib.hasPrefix t.data.toList [45], bL dg, bitI .add .i64 (tailP ht.2.1) ((all.length : Int) - dg.length - wp.2.1.length)⟩)
def numForm (v : NV) : ByteArray :=
  if v.digits = ⟨#[]⟩ then ⟨#[48]⟩ else
  let s := if v.below then ⟨#[45]⟩ ++ v.digits else v.digits
  if v.power ≠ 0 then s ++ (⟨#[101]⟩ ++ bL (Lib.itoa v.power)) else s
def numMay (t : ByteArray) : NV × Int := match numRead0 t with
  | none => (nv0, 8)
  | some v => if decide (v.power > 999) || (decide (v.power < -999) || decide ((numForm v).size > 30)) then (nv0, 8) else (v, 0)
def numReadM (t : ByteArray) : ByteArray × Int := if (numMay t).2 ≠ 0 then (⟨#[]⟩, (numMay t).2) else (numForm (numMay t).1, 0)
def nvA (v : NV) : SV := .agg [.bool v.below, .str v.digits, .int .i64 v.power]
theorem cat_ok {x y : ByteArray} (h : x.size + y.size < 1000000) : ((x.size + y.size : Nat) : Int) ≤ IntKind.i64.max := by
  rw [show IntKind.i64.max = 9223372036854775807 from rfl]; omega
theorem itoa_len (n : Int) (h0 : -1000 ≤ n) (h1 : n ≤ 1000) : (Lib.itoa n).length ≤ 100 := Nat.le_trans (Lib.itoa_length_le n (by omega) (by omega)) (by decide)
theorem form_spec (hT : GTab GOk) (v : NV) (hp : -1000 ≤ v.power ∧ v.power ≤ 1000) (hz : v.digits.size ≤ 1000) : Triple (BB Ip GOk) 43 0 0 [nvA v] [] (fun K => ∀ s, s = numForm v → K (.ret (.str s)) []) := by
  obtain ⟨below, digits, power⟩ := v
  simp only at hp
  refine triple_of BB_ok (tb := ty) rfl (n0 := 0) (fun _ : Unit => _) pl43 Tryz.call43 Tryz.func43 rfl (by kernel_rfl) (Nat.le_of_ble_eq_true rfl) (by decide) rfl pre_none ?_
  rintro G hG K hK W bi bc bs bk bu bb bo bg bl bp bn be Ncond Nob Nop Nloop Nscope hN Nfin hf _ _
  cbv
  refine cond_ hN (fun h => ?_) (fun h => ?_)
  · rw [seq_eq hN] at h
    have hd : digits = ⟨#[]⟩ := by simpa using h
    cbv
    exact hf _ _ (fin_ [] rfl rfl (hK ⟨#[48]⟩ (by simp only [numForm]; rw [if_pos hd])))
  · rw [seq_eq hN] at h
    have hd : ¬ digits = ⟨#[]⟩ := by simpa using h
    cbv
    simp only at hz
    have hbk : ∀ x y, bk x y = x ++ y := fun x y => by rw [bk_ hN]
    have fin : ∀ (s1 : ByteArray) (cs : List (Chunk Pd)), s1 = (if below then ⟨#[45]⟩ ++ digits else digits) → power = 0 → Nfin (.ret (.str s1)) cs := fun s1 cs h1 h2 =>
      hf _ _ (fin_ [] (out' := .ret (.str s1)) (cs' := []) rfl rfl (hK s1 (by simp only [numForm]; rw [if_neg hd, if_neg (by simpa using h2), h1])))
    have fin2 : ∀ (s1 r : ByteArray) (cs : List (Chunk Pd)), s1 = (if below then ⟨#[45]⟩ ++ digits else digits) → power ≠ 0 → r.data.toList = Lib.itoa power → Nfin (.ret (.str (s1 ++ (⟨#[101]⟩ ++ r)))) cs := fun s1 r cs h1 h2 h3 =>
      hf _ _ (fin_ [] (out' := .ret (.str (s1 ++ (⟨#[101]⟩ ++ r)))) (cs' := []) rfl rfl (hK _ (by
        simp only [numForm]; rw [if_neg hd, if_pos h2, h1]
        have : r = bL (Lib.itoa power) := by rw [← h3]; rfl
        rw [this])))
    cases below with
    | true =>
      refine cond_T hN rfl ?_
      cbv
      refine ob_ hN ⟨cat_ok (by show 1 + digits.size < 1000000; omega), trivial⟩ ?_
      generalize hs1 : bk { data := { toList := [45] } } digits = s1
      rw [hbk] at hs1
      have hl1 : s1.size = 1 + digits.size := by rw [← hs1, ByteArray.size_append]; rfl
      cbv
      refine cond_ hN (fun h2 => ?_) (fun h2 => ?_)
      · rw [cne hN] at h2
        have h2 : power ≠ 0 := by simpa using h2
        cbv
        refine op_ hN (call_ (itoa_spec hT power hp.1 hp.2) hG [] rfl rfl rfl rfl rfl ?_)
        intro r hr
        have hrl : r.size ≤ 100 := by rw [Lib.size_eq, hr]; exact itoa_len power hp.1 hp.2
        cbv
        refine ob_ hN ⟨cat_ok (by show 1 + r.size < 1000000; omega), trivial⟩ ?_
        generalize hs2 : bk { data := { toList := [101] } } r = s2
        rw [hbk] at hs2
        have hl2 : s2.size = 1 + r.size := by rw [← hs2, ByteArray.size_append]; rfl
        cbv
        refine ob_ hN ⟨cat_ok (by omega), trivial⟩ ?_
        generalize hs3 : bk s1 s2 = s3
        rw [hbk] at hs3
        cbv
        have h9 := fun cs => fin2 s1 r cs (by rw [if_pos rfl]; exact hs1.symm) h2 hr
        rw [show (⟨#[101]⟩ : ByteArray) ++ r = s2 from hs2, hs3] at h9
        exact h9 _
      · rw [cne hN] at h2
        cbv
        exact fin s1 _ (by rw [if_pos rfl]; exact hs1.symm) (by simpa using h2)
    | false =>
      refine cond_F hN rfl ?_
      cbv
      refine cond_ hN (fun h2 => ?_) (fun h2 => ?_)
      · rw [cne hN] at h2
        have h2 : power ≠ 0 := by simpa using h2
        cbv
        refine op_ hN (call_ (itoa_spec hT power hp.1 hp.2) hG [] rfl rfl rfl rfl rfl ?_)
        intro r hr
        have hrl : r.size ≤ 100 := by rw [Lib.size_eq, hr]; exact itoa_len power hp.1 hp.2
        cbv
        refine ob_ hN ⟨cat_ok (by show 1 + r.size < 1000000; omega), trivial⟩ ?_
        generalize hs2 : bk { data := { toList := [101] } } r = s2
        rw [hbk] at hs2
        have hl2 : s2.size = 1 + r.size := by rw [← hs2, ByteArray.size_append]; rfl
        cbv
        refine ob_ hN ⟨cat_ok (by omega), trivial⟩ ?_
        generalize hs3 : bk digits s2 = s3
        rw [hbk] at hs3
        cbv
        have h9 := fun cs => fin2 digits r cs (by rw [if_neg (by simp)]) h2 hr
        rw [show (⟨#[101]⟩ : ByteArray) ++ r = s2 from hs2, hs3] at h9
        exact h9 _
      · rw [cne hN] at h2
        cbv
        exact fin digits _ (by rw [if_neg (by simp)]) (by simpa using h2)
theorem toList_nil {s : ByteArray} (h : s.data.toList = []) : s = ⟨#[]⟩ := by
  cases s; simp only [ByteArray.mk.injEq]; exact Array.toList_inj.1 (by simpa using h)
theorem trimL_len (l : List UInt8) (c : UInt8) : (Lib.trimLeftB l c).length ≤ l.length := by
  unfold Lib.trimLeftB
  induction l with
  | nil => exact Nat.le_refl _
  | cons x r ih => rw [List.dropWhile_cons]; split
                   · exact Nat.le_succ_of_le ih
                   · exact Nat.le_refl _
theorem trimR_len (l : List UInt8) (c : UInt8) : (Lib.trimRightB l c).length ≤ l.length := by
  unfold Lib.trimRightB
  rw [List.length_reverse]
  have h := trimL_len l.reverse c
  rw [List.length_reverse] at h
  exact h
theorem numState_nine : ∀ l : List UInt8, numState 9 l = 9
  | [] => rfl
  | b :: r => by
    show numState (numStep 9 (b.toNat : Nat)) r = 9
    have : numStep 9 (b.toNat : Nat) = 9 := by simp [numStep]
    rw [this]; exact numState_nine r
theorem numStep_high (st : Int) (b : UInt8) (h : ¬ b.toNat < 128) : numStep st (b.toNat : Nat) = 9 := by
  have h1 : (128 : Int) ≤ ((b.toNat : Nat) : Int) := by omega
  generalize ((b.toNat : Nat) : Int) = c at h1
  have f : ∀ k : Int, k < 128 → (c == k) = false := fun k hk => by
    rw [beq_eq_false_iff_ne]; omega
  have g : decide (c ≤ 57) = false := decide_eq_false (by omega)
  unfold numStep
  simp only [f 45 (by decide), f 48 (by decide), f 46 (by decide), f 101 (by decide), f 69 (by decide), f 43 (by decide), g, Bool.and_false, Bool.or_false, Bool.false_eq_true, if_false, ite_self]
theorem numState_ascii : ∀ (l : List UInt8) (st : Int), numState st l ≠ 9 → ∀ b ∈ l, b.toNat < 128
  | [], st, _, b, hb => nomatch hb
  | x :: r, st, h, b, hb => by
    have h2 : numState (numStep st (x.toNat : Nat)) r ≠ 9 := h
    by_cases hx : x.toNat < 128
    · rcases List.mem_cons.1 hb with rfl | hb
      · exact hx
      · exact numState_ascii r _ h2 b hb
    · rw [numStep_high st x hx, numState_nine] at h2; exact absurd rfl h2
theorem mayIs_ascii {t : ByteArray} (h : mayIs t = true) : ∀ b ∈ t.data.toList, b.toNat < 128 := by
  refine numState_ascii _ 0 fun h9 => ?_
  unfold mayIs at h
  rw [h9] at h
  exact absurd h (by decide)
theorem cut_len (l s : List UInt8) : (Lib.cut l s).1.length ≤ l.length ∧ (Lib.cut l s).2.1.length ≤ l.length := by
  unfold Lib.cut; split
  · simp only [List.length_take, List.length_drop]; omega
  · simp
theorem trimP_mem {l p : List UInt8} {b : UInt8} (h : b ∈ Lib.trimPrefix l p) : b ∈ l := by
  unfold Lib.trimPrefix at h; split at h
  · exact List.mem_of_mem_drop h
  · exact h
theorem trimP_len (l p : List UInt8) : (Lib.trimPrefix l p).length ≤ l.length := by
  unfold Lib.trimPrefix; split
  · simp
  · exact Nat.le_refl _
theorem read_spec0 (hT : GTab GOk) (t : ByteArray) (ht : t.size < 1099511627776) : Triple (BB Ip GOk) 50 0 0 [.str t] [] (fun K => match numRead0 t with
    | none => K (.ret (.tuple [nvA nv0, .bool false])) []
    | some v => K (.ret (.tuple [nvA v, .bool true])) []) := by
  refine triple_of BB_ok (tb := ty) rfl (n0 := 0) (fun _ : Unit => _) pl50 Tryz.call50 Tryz.func50 rfl (by kernel_rfl) (Nat.le_of_ble_eq_true rfl) (by decide) rfl pre_none ?_
  rintro G hG K hK W bi bc bs bk bu bb bo bg bl bp bn be Ncond Nob Nop Nloop Nscope hN Nfin hf _ _
  have hbk : ∀ x y, bk x y = x ++ y := fun x y => by rw [bk_ hN]
  cbv
  refine op_ hN (call_ (num_May_spec t (by omega)) hG [] rfl rfl rfl rfl rfl ?_)
  intro r q _ hq
  cases q with
  | false =>
    have hM : numRead0 t = none := by simp only [numRead0]; rw [if_pos (by rw [← hq]; rfl)]
    rw [hM] at hK
    cbv
    refine cond_T hN rfl ?_
    cbv
    exact hf _ _ (fin_as (.tuple [nvA nv0, .bool false]) (fun _ => rfl) (fin_ [] rfl rfl hK))
  | true =>
    cbv
    refine cond_F hN rfl ?_
    cbv
    refine cond_ hN (fun h => ?_) (fun h => ?_)
    · rw [cgt hN, len_eq hN] at h
      have h30 : t.size > 30 := by have : (30 : Int) < (t.size : Int) := by simpa using h
                                   omega
      have hM : numRead0 t = none := by simp only [numRead0]; rw [if_pos (by simp [h30])]
      rw [hM] at hK
      cbv
      exact hf _ _ (fin_as (.tuple [nvA nv0, .bool false]) (fun _ => rfl) (fin_ [] rfl rfl hK))
    · rw [cgt hN, len_eq hN] at h
      have h30 : t.size ≤ 30 := by have : ¬ (30 : Int) < (t.size : Int) := by simpa using h
                                   omega
      have hq : mayIs t = true := hq.symm
      have hasc := mayIs_ascii hq
      cbv
      refine op_ hN (call_ (cut_prefix_spec t ⟨#[45]⟩) hG [] rfl rfl rfl rfl rfl ?_)
      intro r1 neg hr1 hbl
      have hr1 : r1.data.toList = Lib.trimPrefix t.data.toList [45] := hr1
      have hbl : neg = Lib.hasPrefix t.data.toList [45] := hbl
      have hr1z : r1.size ≤ 30 := by rw [Lib.size_eq, hr1]; exact Nat.le_trans (trimP_len _ _) (by rw [← Lib.size_eq]; exact h30)
      cbv
      refine op_ hN (call_ (to_lower_spec r1 (by omega) (fun b hb => hasc b (trimP_mem (hr1 ▸ hb)))) hG [] rfl rfl rfl rfl rfl ?_)
      intro lo hlo
      have hloz : lo.size ≤ 30 := by rw [Lib.size_eq, hlo, Lib.toLowerA, List.length_map, ← Lib.size_eq]; exact hr1z
      cbv
      refine op_ hN (call_ (scut_spec hT lo ⟨#[101]⟩ (by omega)) hG [] rfl rfl rfl rfl rfl ?_)
      intro a b c hc1
      have hc1 : (a.data.toList, b.data.toList, c) = Lib.cut lo.data.toList [101] := hc1
      have hab : a.size ≤ 30 ∧ b.size ≤ 30 := by
        have := cut_len lo.data.toList [101]
        rw [← hc1, ← Lib.size_eq, ← Lib.size_eq, ← Lib.size_eq] at this
        omega
      cbv
      refine op_ hN (call_ (scut_spec hT a ⟨#[46]⟩ (by omega)) hG [] rfl rfl rfl rfl rfl ?_)
      intro w p c2 hc2
      have hc2 : (w.data.toList, p.data.toList, c2) = Lib.cut a.data.toList [46] := hc2
      have hwp : w.size ≤ 30 ∧ p.size ≤ 30 := by
        have := cut_len a.data.toList [46]
        rw [← hc2, ← Lib.size_eq, ← Lib.size_eq, ← Lib.size_eq] at this
        omega
      cbv
      refine cond_ hN (fun h3 => ?_) (fun h3 => ?_)
      · rw [sne_eq hN] at h3
        have hbne : b ≠ ⟨#[]⟩ := by simpa using h3
        cbv
        refine op_ hN (call_ (atoi_spec hT b (by omega)) hG [] rfl rfl rfl rfl rfl ?_)
        refine ⟨fun v hv => ?_, fun hv n u => ?_⟩
        · cbv
          obtain ⟨P, hPv⟩ : ∃ P, P = v := ⟨_, rfl⟩
          have hP : tailP b.data.toList = P := by unfold tailP; rw [if_neg (fun h => hbne (toList_nil h)), hv, hPv]
          rw [← hPv]
          refine ob_ hN ⟨cat_ok (by omega), trivial⟩ ?_
          generalize hs1 : bk w p = s1
          rw [hbk] at hs1
          have hs1l : s1.data.toList = w.data.toList ++ p.data.toList := by rw [← hs1, ByteArray.data_append, Array.toList_append]
          have hs1z : s1.size ≤ 60 := by rw [← hs1, ByteArray.size_append]; omega
          cbv
          refine op_ hN (call_ (trim_left0_spec s1) hG [] rfl rfl rfl rfl rfl ?_)
          intro al hal
          have halz : al.size ≤ 60 := by rw [Lib.size_eq, hal]; exact Nat.le_trans (trimL_len _ _) (by rw [← Lib.size_eq]; exact hs1z)
          cbv
          refine op_ hN (call_ (trim_right0_spec al (by omega)) hG [] rfl rfl rfl rfl rfl ?_)
          intro dg hdg
          have hdgz : dg.size ≤ 60 := by rw [Lib.size_eq, hdg]; exact Nat.le_trans (trimR_len _ _) (by rw [← Lib.size_eq]; exact halz)
          have hM : numRead0 t = some (if dg.data.toList = [] then nv0 else ⟨neg, dg, bitI .add .i64 P ((al.size : Int) - dg.size - p.size)⟩) := by
            simp only [numRead0]
            rw [if_neg (by rw [hq]; simpa using h30), ← hr1, ← hlo, ← hc1, ← hc2, ← hs1l, ← hal, ← hdg, hP, ← hbl, show bL dg.data.toList = dg from rfl, ← Lib.size_eq, ← Lib.size_eq, ← Lib.size_eq]
          rw [hM] at hK
          simp only at hK
          cbv
          obtain ⟨D, hD⟩ : ∃ x : Int, x = (al.size : Int) - dg.size - p.size := ⟨_, rfl⟩
          have ha1 : bi .sub .i64 (bn al) (bn dg) = (al.size : Int) - dg.size := by rw [len_eq hN, len_eq hN, isub hN (by omega) (by omega)]
          have ha2 : bi .sub .i64 ((al.size : Int) - dg.size) (bn p) = D := by rw [len_eq hN, isub hN (by omega) (by omega), hD]
          obtain ⟨D1, hD1⟩ : ∃ x : Int, x = (al.size : Int) - dg.size := ⟨_, rfl⟩
          rw [← hD1] at ha1 ha2
          rw [← hD, ← bi_ hN] at hK
          simp only [ha1, ha2]
          refine cond_ hN (fun h5 => ?_) (fun h5 => ?_)
          · rw [seq_eq hN] at h5
            have hd : dg = ⟨#[]⟩ := by simpa using h5
            rw [if_pos (by rw [hd])] at hK
            cbv
            exact hf _ _ (fin_as (.tuple [nvA nv0, .bool true]) (fun _ => rfl) (fin_ [] rfl rfl hK))
          · rw [seq_eq hN] at h5
            have hd : ¬ dg = ⟨#[]⟩ := by simpa using h5
            rw [if_neg (fun h => hd (toList_nil h))] at hK
            cbv
            exact hf _ _ (fin_as (.tuple [nvA ⟨neg, dg, bi .add .i64 P D⟩, .bool true]) (fun _ => rfl) (fin_ [] rfl rfl hK))
        · have hpos : 0 < b.size := by
            refine Nat.pos_of_ne_zero fun h0 => hbne (toList_nil ?_)
            exact List.eq_nil_of_length_eq_zero (by rw [← Lib.size_eq]; exact h0)
          have hlt : 0 < b.data.toList.length := by rw [← Lib.size_eq]; exact hpos
          have hhead : b.data.toList.head? = some (b.data.toList[0]'hlt) := by rw [List.head?_eq_getElem?, List.getElem?_eq_getElem hlt]
          have hbt : bb b 0 = (((b.data.toList[0]'hlt).toNat : Nat) : Int) := by rw [bb_ hN, show (0 : Int) = Int.ofNat 0 from rfl, bt_get b 0 hlt]
          generalize (b.data.toList[0]'hlt) = x at hhead hbt
          cbv
          refine ob_ hN ⟨⟨by simp, by rw [len_eq hN]; simp; omega⟩, trivial⟩ ?_
          cbv
          refine cond_ hN (fun h4 => ?_) (fun h4 => ?_)
          · rw [ceq hN, hbt] at h4
            have hx : x = 45 := UInt8.toNat_inj.1 (by have : ((x.toNat : Nat) : Int) = 45 := by simpa using h4
                                                      have : x.toNat = 45 := by omega
                                                      rw [this]; rfl)
            cbv
            obtain ⟨P, hPv⟩ : ∃ P : Int, P = W .i64 (0 - 1099511627776) := ⟨_, rfl⟩
            have hP : tailP b.data.toList = P := by unfold tailP; rw [if_neg (fun h => hbne (toList_nil h)), hv]; simp only; rw [if_pos (by rw [hhead, hx]), hPv, hN.W]
            rw [← hPv]
            refine ob_ hN ⟨cat_ok (by omega), trivial⟩ ?_
            generalize hs1 : bk w p = s1
            rw [hbk] at hs1
            have hs1l : s1.data.toList = w.data.toList ++ p.data.toList := by rw [← hs1, ByteArray.data_append, Array.toList_append]
            have hs1z : s1.size ≤ 60 := by rw [← hs1, ByteArray.size_append]; omega
            cbv
            refine op_ hN (call_ (trim_left0_spec s1) hG [] rfl rfl rfl rfl rfl ?_)
            intro al hal
            have halz : al.size ≤ 60 := by rw [Lib.size_eq, hal]; exact Nat.le_trans (trimL_len _ _) (by rw [← Lib.size_eq]; exact hs1z)
            cbv
            refine op_ hN (call_ (trim_right0_spec al (by omega)) hG [] rfl rfl rfl rfl rfl ?_)
            intro dg hdg
            have hdgz : dg.size ≤ 60 := by rw [Lib.size_eq, hdg]; exact Nat.le_trans (trimR_len _ _) (by rw [← Lib.size_eq]; exact halz)
            have hM : numRead0 t = some (if dg.data.toList = [] then nv0 else ⟨neg, dg, bitI .add .i64 P ((al.size : Int) - dg.size - p.size)⟩) := by
              simp only [numRead0]
              rw [if_neg (by rw [hq]; simpa using h30), ← hr1, ← hlo, ← hc1, ← hc2, ← hs1l, ← hal, ← hdg, hP, ← hbl, show bL dg.data.toList = dg from rfl, ← Lib.size_eq, ← Lib.size_eq, ← Lib.size_eq]
            rw [hM] at hK
            simp only at hK
            cbv
            obtain ⟨D, hD⟩ : ∃ x : Int, x = (al.size : Int) - dg.size - p.size := ⟨_, rfl⟩
            have ha1 : bi .sub .i64 (bn al) (bn dg) = (al.size : Int) - dg.size := by rw [len_eq hN, len_eq hN, isub hN (by omega) (by omega)]
            have ha2 : bi .sub .i64 ((al.size : Int) - dg.size) (bn p) = D := by rw [len_eq hN, isub hN (by omega) (by omega), hD]
            obtain ⟨D1, hD1⟩ : ∃ x : Int, x = (al.size : Int) - dg.size := ⟨_, rfl⟩
            rw [← hD1] at ha1 ha2
            rw [← hD, ← bi_ hN] at hK
            simp only [ha1, ha2]
            refine cond_ hN (fun h5 => ?_) (fun h5 => ?_)
            · rw [seq_eq hN] at h5
              have hd : dg = ⟨#[]⟩ := by simpa using h5
              rw [if_pos (by rw [hd])] at hK
              cbv
              exact hf _ _ (fin_as (.tuple [nvA nv0, .bool true]) (fun _ => rfl) (fin_ [] rfl rfl hK))
            · rw [seq_eq hN] at h5
              have hd : ¬ dg = ⟨#[]⟩ := by simpa using h5
              rw [if_neg (fun h => hd (toList_nil h))] at hK
              cbv
              exact hf _ _ (fin_as (.tuple [nvA ⟨neg, dg, bi .add .i64 P D⟩, .bool true]) (fun _ => rfl) (fin_ [] rfl rfl hK))
          · rw [ceq hN, hbt] at h4
            have hx : x ≠ 45 := fun hx => by rw [hx] at h4; exact absurd h4 (by decide)
            cbv
            obtain ⟨P, hPv⟩ : ∃ P : Int, P = 1099511627776 := ⟨_, rfl⟩
            have hP : tailP b.data.toList = P := by unfold tailP; rw [if_neg (fun h => hbne (toList_nil h)), hv]; simp only; rw [if_neg (by rw [hhead]; simpa using hx), hPv]
            rw [← hPv]
            refine ob_ hN ⟨cat_ok (by omega), trivial⟩ ?_
            generalize hs1 : bk w p = s1
            rw [hbk] at hs1
            have hs1l : s1.data.toList = w.data.toList ++ p.data.toList := by rw [← hs1, ByteArray.data_append, Array.toList_append]
            have hs1z : s1.size ≤ 60 := by rw [← hs1, ByteArray.size_append]; omega
            cbv
            refine op_ hN (call_ (trim_left0_spec s1) hG [] rfl rfl rfl rfl rfl ?_)
            intro al hal
            have halz : al.size ≤ 60 := by rw [Lib.size_eq, hal]; exact Nat.le_trans (trimL_len _ _) (by rw [← Lib.size_eq]; exact hs1z)
            cbv
            refine op_ hN (call_ (trim_right0_spec al (by omega)) hG [] rfl rfl rfl rfl rfl ?_)
            intro dg hdg
            have hdgz : dg.size ≤ 60 := by rw [Lib.size_eq, hdg]; exact Nat.le_trans (trimR_len _ _) (by rw [← Lib.size_eq]; exact halz)
            have hM : numRead0 t = some (if dg.data.toList = [] then nv0 else ⟨neg, dg, bitI .add .i64 P ((al.size : Int) - dg.size - p.size)⟩) := by
              simp only [numRead0]
              rw [if_neg (by rw [hq]; simpa using h30), ← hr1, ← hlo, ← hc1, ← hc2, ← hs1l, ← hal, ← hdg, hP, ← hbl, show bL dg.data.toList = dg from rfl, ← Lib.size_eq, ← Lib.size_eq, ← Lib.size_eq]
            rw [hM] at hK
            simp only at hK
            cbv
            obtain ⟨D, hD⟩ : ∃ x : Int, x = (al.size : Int) - dg.size - p.size := ⟨_, rfl⟩
            have ha1 : bi .sub .i64 (bn al) (bn dg) = (al.size : Int) - dg.size := by rw [len_eq hN, len_eq hN, isub hN (by omega) (by omega)]
            have ha2 : bi .sub .i64 ((al.size : Int) - dg.size) (bn p) = D := by rw [len_eq hN, isub hN (by omega) (by omega), hD]
            obtain ⟨D1, hD1⟩ : ∃ x : Int, x = (al.size : Int) - dg.size := ⟨_, rfl⟩
            rw [← hD1] at ha1 ha2
            rw [← hD, ← bi_ hN] at hK
            simp only [ha1, ha2]
            refine cond_ hN (fun h5 => ?_) (fun h5 => ?_)
            · rw [seq_eq hN] at h5
              have hd : dg = ⟨#[]⟩ := by simpa using h5
              rw [if_pos (by rw [hd])] at hK
              cbv
              exact hf _ _ (fin_as (.tuple [nvA nv0, .bool true]) (fun _ => rfl) (fin_ [] rfl rfl hK))
            · rw [seq_eq hN] at h5
              have hd : ¬ dg = ⟨#[]⟩ := by simpa using h5
              rw [if_neg (fun h => hd (toList_nil h))] at hK
              cbv
              exact hf _ _ (fin_as (.tuple [nvA ⟨neg, dg, bi .add .i64 P D⟩, .bool true]) (fun _ => rfl) (fin_ [] rfl rfl hK))
      · rw [sne_eq hN] at h3
        have hbe : b = ⟨#[]⟩ := by simpa using h3
        have hP : tailP b.data.toList = 0 := by rw [hbe]; rfl
        cbv
        refine ob_ hN ⟨cat_ok (by omega), trivial⟩ ?_
        generalize hs1 : bk w p = s1
        rw [hbk] at hs1
        have hs1l : s1.data.toList = w.data.toList ++ p.data.toList := by rw [← hs1, ByteArray.data_append, Array.toList_append]
        have hs1z : s1.size ≤ 60 := by rw [← hs1, ByteArray.size_append]; omega
        cbv
        refine op_ hN (call_ (trim_left0_spec s1) hG [] rfl rfl rfl rfl rfl ?_)
        intro al hal
        have halz : al.size ≤ 60 := by rw [Lib.size_eq, hal]; exact Nat.le_trans (trimL_len _ _) (by rw [← Lib.size_eq]; exact hs1z)
        cbv
        refine op_ hN (call_ (trim_right0_spec al (by omega)) hG [] rfl rfl rfl rfl rfl ?_)
        intro dg hdg
        have hdgz : dg.size ≤ 60 := by rw [Lib.size_eq, hdg]; exact Nat.le_trans (trimR_len _ _) (by rw [← Lib.size_eq]; exact halz)
        have hM : numRead0 t = some (if dg.data.toList = [] then nv0 else ⟨neg, dg, bitI .add .i64 0 ((al.size : Int) - dg.size - p.size)⟩) := by
          simp only [numRead0]
          rw [if_neg (by rw [hq]; simpa using h30), ← hr1, ← hlo, ← hc1, ← hc2, ← hs1l, ← hal, ← hdg, hP, ← hbl, show bL dg.data.toList = dg from rfl, ← Lib.size_eq, ← Lib.size_eq, ← Lib.size_eq]
        rw [hM] at hK
        simp only at hK
        cbv
        obtain ⟨D, hD⟩ : ∃ x : Int, x = (al.size : Int) - dg.size - p.size := ⟨_, rfl⟩
        have ha1 : bi .sub .i64 (bn al) (bn dg) = (al.size : Int) - dg.size := by rw [len_eq hN, len_eq hN, isub hN (by omega) (by omega)]
        have ha2 : bi .sub .i64 ((al.size : Int) - dg.size) (bn p) = D := by rw [len_eq hN, isub hN (by omega) (by omega), hD]
        obtain ⟨D1, hD1⟩ : ∃ x : Int, x = (al.size : Int) - dg.size := ⟨_, rfl⟩
        rw [← hD1] at ha1 ha2
        rw [← hD, ← bi_ hN] at hK
        simp only [ha1, ha2]
        refine cond_ hN (fun h5 => ?_) (fun h5 => ?_)
        · rw [seq_eq hN] at h5
          have hd : dg = ⟨#[]⟩ := by simpa using h5
          rw [if_pos (by rw [hd])] at hK
          cbv
          exact hf _ _ (fin_as (.tuple [nvA nv0, .bool true]) (fun _ => rfl) (fin_ [] rfl rfl hK))
        · rw [seq_eq hN] at h5
          have hd : ¬ dg = ⟨#[]⟩ := by simpa using h5
          rw [if_neg (fun h => hd (toList_nil h))] at hK
          cbv
          exact hf _ _ (fin_as (.tuple [nvA ⟨neg, dg, bi .add .i64 0 D⟩, .bool true]) (fun _ => rfl) (fin_ [] rfl rfl hK))
end Hx
