/-
  Part of a proof.
-/
import Derived.Test.YtkkifbjdbhjhaaaGreatDoorV11
import Derived.Test.YtkkifbjdbhjhaaaGreatDoorV05
import Derived.Lib.ItoaLen
import Derived.Test.YtkkifbjdbhjhaaaGreatDoorV08
import Derived.Laws.StructEq
import Derived.Calls
set_option linter.unusedVariables false
set_option linter.unusedSimpArgs false
/- num.read, form, may, Read. -/
namespace Hx
open Go Sx Go.Proofs
set_option maxRecDepth 100000
set_option maxHeartbeats 4000000
set_option linter.unusedVariables false
set_option linter.unusedSimpArgs false
variable {GOk : Gl → Prop}
/-- a number: is it below 0, its digits, the power of ten -/
structure NV where
  below : Bool
  digits : ByteArray
  power : Int
def nv0 : NV := ⟨false, ⟨#[]⟩, 0⟩
def bL (l : List UInt8) : ByteArray := ⟨l.toArray⟩
def tailP (tail : List UInt8) : Int := if tail = [] then 0 else match atoiV tail with
  | some v => v
  | none => if tail.head? = some 45 then IntKind.i64.wrap (0 - 1099511627776) else 1099511627776
def numRead0 (t : ByteArray) : Option NV :=
  if !mayIs t || decide (t.size > 30) then none else
  let l := Lib.trimPrefix t.data.toList [45]
  let ht := Lib.cut (Lib.toLowerA l) [101]
  let wp := Lib.cut ht.1 [46]
  let all := Lib.trimLeftB (wp.1 ++ wp.2.1) 48
  let dg := Lib.trimRightB all 48
  some (if dg = [] then nv0 else ⟨Lib.hasPrefix t.data.toList [45], bL dg, bitI .add .i64 (tailP ht.2.1) ((all.length : Int) - dg.length - wp.2.1.length)⟩)
def numForm (v : NV) : ByteArray :=
  if v.digits = ⟨#[]⟩ then ⟨#[48]⟩ else
  let s := if v.below then ⟨#[45]⟩ ++ v.digits else v.digits
  if v.power ≠ 0 then s ++ (⟨#[101]⟩ ++ bL (Lib.itoa v.power)) else s
def numMay (t : ByteArray) : NV × Int := match numRead0 t with
  | none => (nv0, 8)
  | some v => if decide (v.power > 999) || (decide (v.power < -999) || decide ((numForm v).size > 30)) then (nv0, 8) else (v, 0)
def numReadM (t : ByteArray) : ByteArray × Int := if (numMay t).2 ≠ 0 then (⟨#[]⟩, (numMay t).2) else (numForm (numMay t).1, 0)
def nvA (v : NV) : SV := .agg [.bool v.below, .str v.digits, .int .i64 v.power]
theorem cat_ok {x y : ByteArray} (h : x.size + y.size < 1000000) : ((x.size + y.size : Nat) : Int) ≤ IntKind.i64.max := by
  rw [show IntKind.i64.max = 9223372036854775807 from rfl]; omega
theorem itoa_len (n : Int) (h0 : -1000 ≤ n) (h1 : n ≤ 1000) : (Lib.itoa n).length ≤ 100 := Nat.le_trans (Lib.itoa_length_le n (by omega) (by omega)) (by decide)
theorem form_spec (hT : GTab GOk) (v : NV) (hp : -1000 ≤ v.power ∧ v.power ≤ 1000) (hz : v.digits.size ≤ 1000) : Triple (BB Ip GOk) 134 0 0 [nvA v] [] (fun K => ∀ s, s = numForm v → K (.ret (.str s)) []) := by
  obtain ⟨below, digits, power⟩ := v
  simp only at hp
  refine triple_of BB_ok (tb := ty) rfl (n0 := 0) (fun _ : Unit => _) pl134 Tryz.call134 Tryz.func134 rfl (by kernel_rfl) (Nat.le_of_ble_eq_true rfl) (by decide) rfl pre_none ?_
  rintro G hG K hK W bi bc bs bk bu bb bo bg bl bp bn be Ncond Nob Nop Nloop Nscope hN Nfin hf _ _
  cbv
  refine cond_ hN (fun h => ?_) (fun h => ?_)
  · rw [seq_eq hN] at h
    have hd : digits = ⟨#[]⟩ := by simpa using h
    cbv
    exact hf _ _ (fin_ [] rfl rfl (hK ⟨#[48]⟩ (by simp only [numForm]; rw [if_pos hd])))
  · rw [seq_eq hN] at h
    have hd : ¬ digits = ⟨#[]⟩ := by simpa using h
    cbv
    simp only at hz
    have hbk : ∀ x y, bk x y = x ++ y := fun x y => by rw [bk_ hN]
    have fin : ∀ (s1 : ByteArray) (cs : List (Chunk Pd)), s1 = (if below then ⟨#[45]⟩ ++ digits else digits) → power = 0 → Nfin (.ret (.str s1)) cs := fun s1 cs h1 h2 =>
      hf _ _ (fin_ [] (out' := .ret (.str s1)) (cs' := []) rfl rfl (hK s1 (by simp only [numForm]; rw [if_neg hd, if_neg (by simpa using h2), h1])))
    have fin2 : ∀ (s1 r : ByteArray) (cs : List (Chunk Pd)), s1 = (if below then ⟨#[45]⟩ ++ digits else digits) → power ≠ 0 → r.data.toList = Lib.itoa power → Nfin (.ret (.str (s1 ++ (⟨#[101]⟩ ++ r)))) cs := fun s1 r cs h1 h2 h3 =>
      hf _ _ (fin_ [] (out' := .ret (.str (s1 ++ (⟨#[101]⟩ ++ r)))) (cs' := []) rfl rfl (hK _ (by
        simp only [numForm]; rw [if_neg hd, if_pos h2, h1]
        have : r = bL (Lib.itoa power) := by rw [← h3]; rfl
        rw [this])))
    cases below with
    | true =>
      refine cond_T hN rfl ?_
      cbv
      refine ob_ hN ⟨cat_ok (by show 1 + digits.size < 1000000; omega), trivial⟩ ?_
      generalize hs1 : bk { data := { toList := [45] } } digits = s1
      rw [hbk] at hs1
      have hl1 : s1.size = 1 + digits.size := by rw [← hs1, ByteArray.size_append]; rfl
      cbv
      refine cond_ hN (fun h2 => ?_) (fun h2 => ?_)
      · rw [cne hN] at h2
        have h2 : power ≠ 0 := by simpa using h2
        cbv
        refine op_ hN (call_ (itoa_spec hT power hp.1 hp.2) hG [] rfl rfl rfl rfl rfl ?_)
        intro r hr
        have hrl : r.size ≤ 100 := by rw [Lib.size_eq, hr]; exact itoa_len power hp.1 hp.2
        cbv
        refine ob_ hN ⟨cat_ok (by show 1 + r.size < 1000000; omega), trivial⟩ ?_
        generalize hs2 : bk { data := { toList := [101] } } r = s2
        rw [hbk] at hs2
        have hl2 : s2.size = 1 + r.size := by rw [← hs2, ByteArray.size_append]; rfl
        cbv
        refine ob_ hN ⟨cat_ok (by omega), trivial⟩ ?_
        generalize hs3 : bk s1 s2 = s3
        rw [hbk] at hs3
        cbv
        have h9 := fun cs => fin2 s1 r cs (by rw [if_pos rfl]; exact hs1.symm) h2 hr
        rw [show (⟨#[101]⟩ : ByteArray) ++ r = s2 from hs2, hs3] at h9
        exact h9 _
      · rw [cne hN] at h2
        cbv
        exact fin s1 _ (by rw [if_pos rfl]; exact hs1.symm) (by simpa using h2)
    | false =>
      refine cond_F hN rfl ?_
      cbv
      refine cond_ hN (fun h2 => ?_) (fun h2 => ?_)
      · rw [cne hN] at h2
        have h2 : power ≠ 0 := by simpa using h2
        cbv
        refine op_ hN (call_ (itoa_spec hT power hp.1 hp.2) hG [] rfl rfl rfl rfl rfl ?_)
        intro r hr
        have hrl : r.size ≤ 100 := by rw [Lib.size_eq, hr]; exact itoa_len power hp.1 hp.2
        cbv
        refine ob_ hN ⟨cat_ok (by show 1 + r.size < 1000000; omega), trivial⟩ ?_
        generalize hs2 : bk { data := { toList := [101] } } r = s2
        rw [hbk] at hs2
        have hl2 : s2.size = 1 + r.size := by rw [← hs2, ByteArray.size_append]; rfl
        cbv
        refine ob_ hN ⟨cat_ok (by omega), trivial⟩ ?_
        generalize hs3 : bk digits s2 = s3
        rw [hbk] at hs3
        cbv
        have h9 := fun cs => fin2 digits r cs (by rw [if_neg (by simp)]) h2 hr
        rw [show (⟨#[101]⟩ : ByteArray) ++ r = s2 from hs2, hs3] at h9
        exact h9 _
      · rw [cne hN] at h2
        cbv
        exact fin digits _ (by rw [if_neg (by simp)]) (by simpa using h2)
theorem toList_nil {s : ByteArray} (h : s.data.toList = []) : s = ⟨#[]⟩ := by
  cases s; simp only [ByteArray.mk.injEq]; exact Array.toList_inj.1 (by simpa using h)
theorem trimL_len (l : List UInt8) (c : UInt8) : (Lib.trimLeftB l c).length ≤ l.length := by
  unfold Lib.trimLeftB
  induction l with
  | nil => exact Nat.le_refl _
  | cons x r ih => rw [List.dropWhile_cons]; split
                   · exact Nat.le_succ_of_le ih
                   · exact Nat.le_refl _
theorem trimR_len (l : List UInt8) (c : UInt8) : (Lib.trimRightB l c).length ≤ l.length := by
  unfold Lib.trimRightB
  rw [List.length_reverse]
  have h := trimL_len l.reverse c
  rw [List.length_reverse] at h
  exact h
theorem numState_nine : ∀ l : List UInt8, numState 9 l = 9
  | [] => rfl
  | b :: r => by
    show numState (numStep 9 (b.toNat : Nat)) r = 9
    have : numStep 9 (b.toNat : Nat) = 9 := by simp [numStep]
    rw [this]; exact numState_nine r
theorem numStep_high (st : Int) (b : UInt8) (h : ¬ b.toNat < 128) : numStep st (b.toNat : Nat) = 9 := by
  have h1 : (128 : Int) ≤ ((b.toNat : Nat) : Int) := by omega
  generalize ((b.toNat : Nat) : Int) = c at h1
  have f : ∀ k : Int, k < 128 → (c == k) = false := fun k hk => by
    rw [beq_eq_false_iff_ne]; omega
  have g : decide (c ≤ 57) = false := decide_eq_false (by omega)
  unfold numStep
  simp only [f 45 (by decide), f 48 (by decide), f 46 (by decide), f 101 (by decide), f 69 (by decide), f 43 (by decide), g, Bool.and_false, Bool.or_false, Bool.false_eq_true, if_false, ite_self]
theorem numState_ascii : ∀ (l : List UInt8) (st : Int), numState st l ≠ 9 → ∀ b ∈ l, b.toNat < 128
  | [], st, _, b, hb => nomatch hb
  | x :: r, st, h, b, hb => by
    have h2 : numState (numStep st (x.toNat : Nat)) r ≠ 9 := h
    by_cases hx : x.toNat < 128
    · rcases List.mem_cons.1 hb with rfl | hb
      · exact hx
      · exact numState_ascii r _ h2 b hb
    · rw [numStep_high st x hx, numState_nine] at h2; exact absurd rfl h2
theorem mayIs_ascii {t : ByteArray} (h : mayIs t = true) : ∀ b ∈ t.data.toList, b.toNat < 128 := by
  refine numState_ascii _ 0 fun h9 => ?_
  unfold mayIs at h
  rw [h9] at h
  exact absurd h (by decide)
theorem cut_len (l s : List UInt8) : (Lib.cut l s).1.length ≤ l.length ∧ (Lib.cut l s).2.1.length ≤ l.length := by
  unfold Lib.cut; split
  · simp only [List.length_take, List.length_drop]; omega
  · simp
theorem trimP_mem {l p : List UInt8} {b : UInt8} (h : b ∈ Lib.trimPrefix l p) : b ∈ l := by
  unfold Lib.trimPrefix at h; split at h
  · exact List.mem_of_mem_drop h
  · exact h
theorem trimP_len (l p : List UInt8) : (Lib.trimPrefix l p).length ≤ l.length := by
  unfold Lib.trimPrefix; split
  · simp
  · exact Nat.le_refl _
theorem read_spec0 (hT : GTab GOk) (t : ByteArray) (ht : t.size < 1099511627776) : Triple (BB Ip GOk) 144 0 0 [.str t] [] (fun K => match numRead0 t with
    | none => K (.ret (.tuple [nvA nv0, .bool false])) []
    | some v => K (.ret (.tuple [nvA v, .bool true])) []) := by
  refine triple_of BB_ok (tb := ty) rfl (n0 := 0) (fun _ : Unit => _) pl144 Tryz.call144 Tryz.func144 rfl (by kernel_rfl) (Nat.le_of_ble_eq_true rfl) (by decide) rfl pre_none ?_
  rintro G hG K hK W bi bc bs bk bu bb bo bg bl bp bn be Ncond Nob Nop Nloop Nscope hN Nfin hf _ _
  have hbk : ∀ x y, bk x y = x ++ y := fun x y => by rw [bk_ hN]
  cbv
  refine op_ hN (call_ (num_May_spec t (by omega)) hG [] rfl rfl rfl rfl rfl ?_)
  intro r q _ hq
  cases q with
  | false =>
    have hM : numRead0 t = none := by simp only [numRead0]; rw [if_pos (by rw [← hq]; rfl)]
    rw [hM] at hK
    cbv
    refine cond_T hN rfl ?_
    cbv
    exact hf _ _ (fin_as (.tuple [nvA nv0, .bool false]) (fun _ => rfl) (fin_ [] rfl rfl hK))
  | true =>
    cbv
    refine cond_F hN rfl ?_
    cbv
    refine cond_ hN (fun h => ?_) (fun h => ?_)
    · rw [cgt hN, len_eq hN] at h
      have h30 : t.size > 30 := by have : (30 : Int) < (t.size : Int) := by simpa using h
                                   omega
      have hM : numRead0 t = none := by simp only [numRead0]; rw [if_pos (by simp [h30])]
      rw [hM] at hK
      cbv
      exact hf _ _ (fin_as (.tuple [nvA nv0, .bool false]) (fun _ => rfl) (fin_ [] rfl rfl hK))
    · rw [cgt hN, len_eq hN] at h
      have h30 : t.size ≤ 30 := by have : ¬ (30 : Int) < (t.size : Int) := by simpa using h
                                   omega
      have hq : mayIs t = true := hq.symm
      have hasc := mayIs_ascii hq
      cbv
      refine op_ hN (call_ (cut_prefix_spec t ⟨#[45]⟩) hG [] rfl rfl rfl rfl rfl ?_)
      intro r1 neg hr1 hbl
      have hr1 : r1.data.toList = Lib.trimPrefix t.data.toList [45] := hr1
      have hbl : neg = Lib.hasPrefix t.data.toList [45] := hbl
      have hr1z : r1.size ≤ 30 := by rw [Lib.size_eq, hr1]; exact Nat.le_trans (trimP_len _ _) (by rw [← Lib.size_eq]; exact h30)
      cbv
      refine op_ hN (call_ (to_lower_spec r1 (by omega) (fun b hb => hasc b (trimP_mem (hr1 ▸ hb)))) hG [] rfl rfl rfl rfl rfl ?_)
      intro lo hlo
      have hloz : lo.size ≤ 30 := by rw [Lib.size_eq, hlo, Lib.toLowerA, List.length_map, ← Lib.size_eq]; exact hr1z
      cbv
      refine op_ hN (call_ (scut_spec hT lo ⟨#[101]⟩ (by omega)) hG [] rfl rfl rfl rfl rfl ?_)
      intro a b c hc1
      have hc1 : (a.data.toList, b.data.toList, c) = Lib.cut lo.data.toList [101] := hc1
      have hab : a.size ≤ 30 ∧ b.size ≤ 30 := by
        have := cut_len lo.data.toList [101]
        rw [← hc1, ← Lib.size_eq, ← Lib.size_eq, ← Lib.size_eq] at this
        omega
      cbv
      refine op_ hN (call_ (scut_spec hT a ⟨#[46]⟩ (by omega)) hG [] rfl rfl rfl rfl rfl ?_)
      intro w p c2 hc2
      have hc2 : (w.data.toList, p.data.toList, c2) = Lib.cut a.data.toList [46] := hc2
      have hwp : w.size ≤ 30 ∧ p.size ≤ 30 := by
        have := cut_len a.data.toList [46]
        rw [← hc2, ← Lib.size_eq, ← Lib.size_eq, ← Lib.size_eq] at this
        omega
      cbv
      refine cond_ hN (fun h3 => ?_) (fun h3 => ?_)
      · rw [sne_eq hN] at h3
        have hbne : b ≠ ⟨#[]⟩ := by simpa using h3
        cbv
        refine op_ hN (call_ (atoi_spec hT b (by omega)) hG [] rfl rfl rfl rfl rfl ?_)
        refine ⟨fun v hv => ?_, fun hv n u => ?_⟩
        · cbv
          obtain ⟨P, hPv⟩ : ∃ P, P = v := ⟨_, rfl⟩
          have hP : tailP b.data.toList = P := by unfold tailP; rw [if_neg (fun h => hbne (toList_nil h)), hv, hPv]
          rw [← hPv]
          refine ob_ hN ⟨cat_ok (by omega), trivial⟩ ?_
          generalize hs1 : bk w p = s1
          rw [hbk] at hs1
          have hs1l : s1.data.toList = w.data.toList ++ p.data.toList := by rw [← hs1, ByteArray.data_append, Array.toList_append]
          have hs1z : s1.size ≤ 60 := by rw [← hs1, ByteArray.size_append]; omega
          cbv
          refine op_ hN (call_ (trim_left0_spec s1) hG [] rfl rfl rfl rfl rfl ?_)
          intro al hal
          have halz : al.size ≤ 60 := by rw [Lib.size_eq, hal]; exact Nat.le_trans (trimL_len _ _) (by rw [← Lib.size_eq]; exact hs1z)
          cbv
          refine op_ hN (call_ (trim_right0_spec al (by omega)) hG [] rfl rfl rfl rfl rfl ?_)
          intro dg hdg
          have hdgz : dg.size ≤ 60 := by rw [Lib.size_eq, hdg]; exact Nat.le_trans (trimR_len _ _) (by rw [← Lib.size_eq]; exact halz)
          have hM : numRead0 t = some (if dg.data.toList = [] then nv0 else ⟨neg, dg, bitI .add .i64 P ((al.size : Int) - dg.size - p.size)⟩) := by
            simp only [numRead0]
            rw [if_neg (by rw [hq]; simpa using h30), ← hr1, ← hlo, ← hc1, ← hc2, ← hs1l, ← hal, ← hdg, hP, ← hbl, show bL dg.data.toList = dg from rfl, ← Lib.size_eq, ← Lib.size_eq, ← Lib.size_eq]
          rw [hM] at hK
          simp only at hK
          cbv
          obtain ⟨D, hD⟩ : ∃ x : Int, x = (al.size : Int) - dg.size - p.size := ⟨_, rfl⟩
          have ha1 : bi .sub .i64 (bn al) (bn dg) = (al.size : Int) - dg.size := by rw [len_eq hN, len_eq hN, isub hN (by omega) (by omega)]
          have ha2 : bi .sub .i64 ((al.size : Int) - dg.size) (bn p) = D := by rw [len_eq hN, isub hN (by omega) (by omega), hD]
          obtain ⟨D1, hD1⟩ : ∃ x : Int, x = (al.size : Int) - dg.size := ⟨_, rfl⟩
          rw [← hD1] at ha1 ha2
          rw [← hD, ← bi_ hN] at hK
          simp only [ha1, ha2]
          refine cond_ hN (fun h5 => ?_) (fun h5 => ?_)
          · rw [seq_eq hN] at h5
            have hd : dg = ⟨#[]⟩ := by simpa using h5
            rw [if_pos (by rw [hd])] at hK
            cbv
            exact hf _ _ (fin_as (.tuple [nvA nv0, .bool true]) (fun _ => rfl) (fin_ [] rfl rfl hK))
          · rw [seq_eq hN] at h5
            have hd : ¬ dg = ⟨#[]⟩ := by simpa using h5
            rw [if_neg (fun h => hd (toList_nil h))] at hK
            cbv
            exact hf _ _ (fin_as (.tuple [nvA ⟨neg, dg, bi .add .i64 P D⟩, .bool true]) (fun _ => rfl) (fin_ [] rfl rfl hK))
        · have hpos : 0 < b.size := by
            refine Nat.pos_of_ne_zero fun h0 => hbne (toList_nil ?_)
            exact List.eq_nil_of_length_eq_zero (by rw [← Lib.size_eq]; exact h0)
          have hlt : 0 < b.data.toList.length := by rw [← Lib.size_eq]; exact hpos
          have hhead : b.data.toList.head? = some (b.data.toList[0]'hlt) := by rw [List.head?_eq_getElem?, List.getElem?_eq_getElem hlt]
          have hbt : bb b 0 = (((b.data.toList[0]'hlt).toNat : Nat) : Int) := by rw [bb_ hN, show (0 : Int) = Int.ofNat 0 from rfl, bt_get b 0 hlt]
          generalize (b.data.toList[0]'hlt) = x at hhead hbt
          cbv
          refine ob_ hN ⟨⟨by simp, by rw [len_eq hN]; simp; omega⟩, trivial⟩ ?_
          cbv
          refine cond_ hN (fun h4 => ?_) (fun h4 => ?_)
          · rw [ceq hN, hbt] at h4
            have hx : x = 45 := UInt8.toNat_inj.1 (by have : ((x.toNat : Nat) : Int) = 45 := by simpa using h4
                                                      have : x.toNat = 45 := by omega
                                                      rw [this]; rfl)
            cbv
            obtain ⟨P, hPv⟩ : ∃ P : Int, P = W .i64 (0 - 1099511627776) := ⟨_, rfl⟩
            have hP : tailP b.data.toList = P := by unfold tailP; rw [if_neg (fun h => hbne (toList_nil h)), hv]; simp only; rw [if_pos (by rw [hhead, hx]), hPv, hN.W]
            rw [← hPv]
            refine ob_ hN ⟨cat_ok (by omega), trivial⟩ ?_
            generalize hs1 : bk w p = s1
            rw [hbk] at hs1
            have hs1l : s1.data.toList = w.data.toList ++ p.data.toList := by rw [← hs1, ByteArray.data_append, Array.toList_append]
            have hs1z : s1.size ≤ 60 := by rw [← hs1, ByteArray.size_append]; omega
            cbv
            refine op_ hN (call_ (trim_left0_spec s1) hG [] rfl rfl rfl rfl rfl ?_)
            intro al hal
            have halz : al.size ≤ 60 := by rw [Lib.size_eq, hal]; exact Nat.le_trans (trimL_len _ _) (by rw [← Lib.size_eq]; exact hs1z)
            cbv
            refine op_ hN (call_ (trim_right0_spec al (by omega)) hG [] rfl rfl rfl rfl rfl ?_)
            intro dg hdg
            have hdgz : dg.size ≤ 60 := by rw [Lib.size_eq, hdg]; exact Nat.le_trans (trimR_len _ _) (by rw [← Lib.size_eq]; exact halz)
            have hM : numRead0 t = some (if dg.data.toList = [] then nv0 else ⟨neg, dg, bitI .add .i64 P ((al.size : Int) - dg.size - p.size)⟩) := by
              simp only [numRead0]
              rw [if_neg (by rw [hq]; simpa using h30), ← hr1, ← hlo, ← hc1, ← hc2, ← hs1l, ← hal, ← hdg, hP, ← hbl, show bL dg.data.toList = dg from rfl, ← Lib.size_eq, ← Lib.size_eq, ← Lib.size_eq]
            rw [hM] at hK
            simp only at hK
            cbv
            obtain ⟨D, hD⟩ : ∃ x : Int, x = (al.size : Int) - dg.size - p.size := ⟨_, rfl⟩
            have ha1 : bi .sub .i64 (bn al) (bn dg) = (al.size : Int) - dg.size := by rw [len_eq hN, len_eq hN, isub hN (by omega) (by omega)]
            have ha2 : bi .sub .i64 ((al.size : Int) - dg.size) (bn p) = D := by rw [len_eq hN, isub hN (by omega) (by omega), hD]
            obtain ⟨D1, hD1⟩ : ∃ x : Int, x = (al.size : Int) - dg.size := ⟨_, rfl⟩
            rw [← hD1] at ha1 ha2
            rw [← hD, ← bi_ hN] at hK
            simp only [ha1, ha2]
            refine cond_ hN (fun h5 => ?_) (fun h5 => ?_)
            · rw [seq_eq hN] at h5
              have hd : dg = ⟨#[]⟩ := by simpa using h5
              rw [if_pos (by rw [hd])] at hK
              cbv
              exact hf _ _ (fin_as (.tuple [nvA nv0, .bool true]) (fun _ => rfl) (fin_ [] rfl rfl hK))
            · rw [seq_eq hN] at h5
              have hd : ¬ dg = ⟨#[]⟩ := by simpa using h5
              rw [if_neg (fun h => hd (toList_nil h))] at hK
              cbv
              exact hf _ _ (fin_as (.tuple [nvA ⟨neg, dg, bi .add .i64 P D⟩, .bool true]) (fun _ => rfl) (fin_ [] rfl rfl hK))
          · rw [ceq hN, hbt] at h4
            have hx : x ≠ 45 := fun hx => by rw [hx] at h4; exact absurd h4 (by decide)
            cbv
            obtain ⟨P, hPv⟩ : ∃ P : Int, P = 1099511627776 := ⟨_, rfl⟩
            have hP : tailP b.data.toList = P := by unfold tailP; rw [if_neg (fun h => hbne (toList_nil h)), hv]; simp only; rw [if_neg (by rw [hhead]; simpa using hx), hPv]
            rw [← hPv]
            refine ob_ hN ⟨cat_ok (by omega), trivial⟩ ?_
            generalize hs1 : bk w p = s1
            rw [hbk] at hs1
            have hs1l : s1.data.toList = w.data.toList ++ p.data.toList := by rw [← hs1, ByteArray.data_append, Array.toList_append]
            have hs1z : s1.size ≤ 60 := by rw [← hs1, ByteArray.size_append]; omega
            cbv
            refine op_ hN (call_ (trim_left0_spec s1) hG [] rfl rfl rfl rfl rfl ?_)
            intro al hal
            have halz : al.size ≤ 60 := by rw [Lib.size_eq, hal]; exact Nat.le_trans (trimL_len _ _) (by rw [← Lib.size_eq]; exact hs1z)
            cbv
            refine op_ hN (call_ (trim_right0_spec al (by omega)) hG [] rfl rfl rfl rfl rfl ?_)
            intro dg hdg
            have hdgz : dg.size ≤ 60 := by rw [Lib.size_eq, hdg]; exact Nat.le_trans (trimR_len _ _) (by rw [← Lib.size_eq]; exact halz)
            have hM : numRead0 t = some (if dg.data.toList = [] then nv0 else ⟨neg, dg, bitI .add .i64 P ((al.size : Int) - dg.size - p.size)⟩) := by
              simp only [numRead0]
              rw [if_neg (by rw [hq]; simpa using h30), ← hr1, ← hlo, ← hc1, ← hc2, ← hs1l, ← hal, ← hdg, hP, ← hbl, show bL dg.data.toList = dg from rfl, ← Lib.size_eq, ← Lib.size_eq, ← Lib.size_eq]
            rw [hM] at hK
            simp only at hK
            cbv
            obtain ⟨D, hD⟩ : ∃ x : Int, x = (al.size : Int) - dg.size - p.size := ⟨_, rfl⟩
            have ha1 : bi .sub .i64 (bn al) (bn dg) = (al.size : Int) - dg.size := by rw [len_eq hN, len_eq hN, isub hN (by omega) (by omega)]
            have ha2 : bi .sub .i64 ((al.size : Int) - dg.size) (bn p) = D := by rw [len_eq hN, isub hN (by omega) (by omega), hD]
            obtain ⟨D1, hD1⟩ : ∃ x : Int, x = (al.size : Int) - dg.size := ⟨_, rfl⟩
            rw [← hD1] at ha1 ha2
            rw [← hD, ← bi_ hN] at hK
            simp only [ha1, ha2]
            refine cond_ hN (fun h5 => ?_) (fun h5 => ?_)
            · rw [seq_eq hN] at h5
              have hd : dg = ⟨#[]⟩ := by simpa using h5
              rw [if_pos (by rw [hd])] at hK
              cbv
              exact hf _ _ (fin_as (.tuple [nvA nv0, .bool true]) (fun _ => rfl) (fin_ [] rfl rfl hK))
            · rw [seq_eq hN] at h5
              have hd : ¬ dg = ⟨#[]⟩ := by simpa using h5
              rw [if_neg (fun h => hd (toList_nil h))] at hK
              cbv
              exact hf _ _ (fin_as (.tuple [nvA ⟨neg, dg, bi .add .i64 P D⟩, .bool true]) (fun _ => rfl) (fin_ [] rfl rfl hK))
      · rw [sne_eq hN] at h3
        have hbe : b = ⟨#[]⟩ := by simpa using h3
        have hP : tailP b.data.toList = 0 := by rw [hbe]; rfl
        cbv
        refine ob_ hN ⟨cat_ok (by omega), trivial⟩ ?_
        generalize hs1 : bk w p = s1
        rw [hbk] at hs1
        have hs1l : s1.data.toList = w.data.toList ++ p.data.toList := by rw [← hs1, ByteArray.data_append, Array.toList_append]
        have hs1z : s1.size ≤ 60 := by rw [← hs1, ByteArray.size_append]; omega
        cbv
        refine op_ hN (call_ (trim_left0_spec s1) hG [] rfl rfl rfl rfl rfl ?_)
        intro al hal
        have halz : al.size ≤ 60 := by rw [Lib.size_eq, hal]; exact Nat.le_trans (trimL_len _ _) (by rw [← Lib.size_eq]; exact hs1z)
        cbv
        refine op_ hN (call_ (trim_right0_spec al (by omega)) hG [] rfl rfl rfl rfl rfl ?_)
        intro dg hdg
        have hdgz : dg.size ≤ 60 := by rw [Lib.size_eq, hdg]; exact Nat.le_trans (trimR_len _ _) (by rw [← Lib.size_eq]; exact halz)
        have hM : numRead0 t = some (if dg.data.toList = [] then nv0 else ⟨neg, dg, bitI .add .i64 0 ((al.size : Int) - dg.size - p.size)⟩) := by
          simp only [numRead0]
          rw [if_neg (by rw [hq]; simpa using h30), ← hr1, ← hlo, ← hc1, ← hc2, ← hs1l, ← hal, ← hdg, hP, ← hbl, show bL dg.data.toList = dg from rfl, ← Lib.size_eq, ← Lib.size_eq, ← Lib.size_eq]
        rw [hM] at hK
        simp only at hK
        cbv
        obtain ⟨D, hD⟩ : ∃ x : Int, x = (al.size : Int) - dg.size - p.size := ⟨_, rfl⟩
        have ha1 : bi .sub .i64 (bn al) (bn dg) = (al.size : Int) - dg.size := by rw [len_eq hN, len_eq hN, isub hN (by omega) (by omega)]
        have ha2 : bi .sub .i64 ((al.size : Int) - dg.size) (bn p) = D := by rw [len_eq hN, isub hN (by omega) (by omega), hD]
        obtain ⟨D1, hD1⟩ : ∃ x : Int, x = (al.size : Int) - dg.size := ⟨_, rfl⟩
        rw [← hD1] at ha1 ha2
        rw [← hD, ← bi_ hN] at hK
        simp only [ha1, ha2]
        refine cond_ hN (fun h5 => ?_) (fun h5 => ?_)
        · rw [seq_eq hN] at h5
          have hd : dg = ⟨#[]⟩ := by simpa using h5
          rw [if_pos (by rw [hd])] at hK
          cbv
          exact hf _ _ (fin_as (.tuple [nvA nv0, .bool true]) (fun _ => rfl) (fin_ [] rfl rfl hK))
        · rw [seq_eq hN] at h5
          have hd : ¬ dg = ⟨#[]⟩ := by simpa using h5
          rw [if_neg (fun h => hd (toList_nil h))] at hK
          cbv
          exact hf _ _ (fin_as (.tuple [nvA ⟨neg, dg, bi .add .i64 0 D⟩, .bool true]) (fun _ => rfl) (fin_ [] rfl rfl hK))
end Hx
/- num.may, Read. -/
namespace Hx
open Go Sx Go.Proofs
set_option maxRecDepth 100000
set_option maxHeartbeats 4000000
set_option linter.unusedVariables false
set_option linter.unusedSimpArgs false
variable {GOk : Gl → Prop}
theorem numRead0_size {t : ByteArray} {v : NV} (h : numRead0 t = some v) : v.digits.size ≤ 60 := by
  simp only [numRead0] at h
  split at h
  · exact nomatch h
  · rename_i hc
    have h30 : t.size ≤ 30 := by
      simp only [Bool.or_eq_true, decide_eq_true_eq, not_or] at hc; omega
    simp only [Option.some.injEq] at h
    subst h
    split
    · exact Nat.zero_le _
    · simp only [bL, ByteArray.size, List.size_toArray]
      refine Nat.le_trans (trimR_len _ _) (Nat.le_trans (trimL_len _ _) ?_)
      rw [List.length_append]
      have c1 := cut_len (Lib.cut (Lib.toLowerA (Lib.trimPrefix t.data.toList [45])) [101]).1 [46]
      have c2 := cut_len (Lib.toLowerA (Lib.trimPrefix t.data.toList [45])) [101]
      have c3 : (Lib.toLowerA (Lib.trimPrefix t.data.toList [45])).length ≤ 30 := by
        rw [Lib.toLowerA, List.length_map]
        exact Nat.le_trans (trimP_len _ _) (by rw [← Lib.size_eq]; exact h30)
      omega
theorem may_num_spec (hT : GTab GOk) (t : ByteArray) (ht : t.size < 1099511627776) : Triple (BB Ip GOk) 133 0 0 [.str t] [] (fun K => ∀ v e, (v, e) = numMay t → K (.ret (.tuple [nvA v, .int .i64 e])) []) := by
  refine triple_of BB_ok (tb := ty) rfl (n0 := 0) (fun _ : Unit => _) pl133 Tryz.call133 Tryz.func133 rfl (by kernel_rfl) (Nat.le_of_ble_eq_true rfl) (by decide) rfl pre_none ?_
  rintro G hG K hK W bi bc bs bk bu bb bo bg bl bp bn be Ncond Nob Nop Nloop Nscope hN Nfin hf _ _
  cbv
  refine op_ hN (call_ (read_spec0 hT t ht) hG [] rfl rfl rfl rfl rfl ?_)
  have hM : numMay t = (match numRead0 t with
    | none => (nv0, 8)
    | some v => if decide (v.power > 999) || (decide (v.power < -999) || decide ((numForm v).size > 30)) then (nv0, 8) else (v, 0)) := rfl
  have bad : ∀ cs : List (Chunk Pd), numMay t = (nv0, 8) → Nfin (.ret (.tuple [.agg [.ff, .str { data := { toList := [] } }, .int .i64 0], .int .i64 8])) cs := fun cs h =>
    hf _ _ (fin_as (.tuple [nvA nv0, .int .i64 8]) (fun _ => rfl) (fin_ [] rfl rfl (hK nv0 8 h.symm)))
  cases hr : numRead0 t with
  | none =>
    rw [hr] at hM
    simp only at hM ⊢
    cbv
    refine cond_T hN rfl ?_
    cbv
    exact bad _ hM
  | some v =>
    rw [hr] at hM
    have hz := numRead0_size hr
    simp only at hM ⊢
    obtain ⟨below, digits, power⟩ := v
    simp only at hz hM
    cbv
    refine cond_F hN rfl ?_
    cbv
    refine cond_ hN (fun h1 => ?_) (fun h1 => ?_)
    · rw [cgt hN] at h1
      rw [if_pos (by rw [h1]; rfl)] at hM
      cbv
      exact bad _ hM
    · rw [cgt hN] at h1
      rw [h1, Bool.false_or] at hM
      have h1' : ¬ power > 999 := by simpa using h1
      cbv
      refine cond_ hN (fun h2 => ?_) (fun h2 => ?_)
      · rw [clt hN] at h2
        rw [if_pos (by rw [h2]; rfl)] at hM
        cbv
        exact bad _ hM
      · rw [clt hN] at h2
        rw [h2, Bool.false_or] at hM
        have h2' : ¬ power < -999 := by simpa using h2
        cbv
        refine op_ hN (call_ (form_spec hT ⟨below, digits, power⟩ (by simp only; omega) (by simp only; omega)) hG [] rfl rfl rfl rfl rfl ?_)
        intro s hs
        rw [← hs] at hM
        cbv
        refine cond_ hN (fun h3 => ?_) (fun h3 => ?_)
        · rw [cgt hN, len_eq hN] at h3
          have h3' : s.size > 30 := by have : (30 : Int) < (s.size : Int) := by simpa using h3
                                       omega
          rw [if_pos (decide_eq_true h3')] at hM
          cbv
          exact bad _ hM
        · rw [cgt hN, len_eq hN] at h3
          have h3' : ¬ s.size > 30 := by have : ¬ (30 : Int) < (s.size : Int) := by simpa using h3
                                         omega
          rw [if_neg (by simpa using h3')] at hM
          cbv
          exact hf _ _ (fin_as (.tuple [nvA ⟨below, digits, power⟩, .int .i64 0]) (fun _ => rfl) (fin_ [] rfl rfl (hK _ 0 hM.symm)))
theorem numMay_ok {t : ByteArray} {v : NV} (h : numMay t = (v, 0)) : (-1000 ≤ v.power ∧ v.power ≤ 1000) ∧ v.digits.size ≤ 1000 ∧ (numForm v).size ≤ 30 := by
  unfold numMay at h
  cases hr : numRead0 t with
  | none => rw [hr] at h; exact nomatch congrArg Prod.snd h
  | some w =>
    rw [hr] at h
    simp only at h
    split at h
    · exact nomatch congrArg Prod.snd h
    · rename_i hc
      simp only [Prod.mk.injEq, and_true] at h
      subst h
      simp only [Bool.or_eq_true, decide_eq_true_eq, not_or] at hc
      have := numRead0_size hr
      omega
theorem nread_spec (hT : GTab GOk) (t : ByteArray) (ht : t.size < 1099511627776) : Triple (BB Ip GOk) 114 0 0 [.str t] [] (fun K => ∀ r e, (r, e) = numReadM t → K (.ret (.tuple [.str r, .int .i64 e])) []) := by
  refine triple_of BB_ok (tb := ty) rfl (n0 := 0) (fun _ : Unit => _) pl114 Tryz.call114 Tryz.func114 rfl (by kernel_rfl) (Nat.le_of_ble_eq_true rfl) (by decide) rfl pre_none ?_
  rintro G hG K hK W bi bc bs bk bu bb bo bg bl bp bn be Ncond Nob Nop Nloop Nscope hN Nfin hf _ _
  cbv
  refine op_ hN (call_ (may_num_spec hT t ht) hG [] rfl rfl rfl rfl rfl ?_)
  intro v e hv
  have hM : numReadM t = if e ≠ 0 then (⟨#[]⟩, e) else (numForm v, 0) := by simp only [numReadM]; rw [← hv]
  by_cases he : e = 0
  · subst he
    have hok := numMay_ok hv.symm
    rw [if_neg (by simp)] at hM
    obtain ⟨below, digits, power⟩ := v
    cbv
    refine cond_F hN (by rw [cne hN]; rfl) ?_
    cbv
    refine op_ hN (call_ (form_spec hT ⟨below, digits, power⟩ hok.1 hok.2.1) hG [] rfl rfl rfl rfl rfl ?_)
    intro s hs
    rw [← hs] at hM
    cbv
    exact hf _ _ (fin_ [] rfl rfl (hK s 0 hM.symm))
  · rw [if_pos he] at hM
    obtain ⟨below, digits, power⟩ := v
    cbv
    refine cond_T hN (by rw [cne hN]; simpa using he) ?_
    cbv
    exact hf _ _ (fin_ [] rfl rfl (hK ⟨#[]⟩ e hM.symm))
theorem numReadM_law (t : ByteArray) : (numReadM t).1.size ≤ 30 ∧ 0 ≤ (numReadM t).2 := by
  unfold numReadM
  generalize hm : numMay t = y
  obtain ⟨v, e⟩ := y
  simp only
  split
  · refine ⟨Nat.zero_le _, ?_⟩
    simp only
    unfold numMay at hm
    split at hm
    · have := congrArg Prod.snd hm; simp only at this; omega
    · split at hm
      · have := congrArg Prod.snd hm; simp only at this; omega
      · have := congrArg Prod.snd hm; simp only at this; omega
  · rename_i he
    have he : e = 0 := by simpa using he
    subst he
    exact ⟨(numMay_ok hm).2.2, Int.le_refl _⟩
end Hx
/- Two events held against each other. -/
namespace Hx
open Go Sx Go.Proofs
set_option maxRecDepth 100000
set_option maxHeartbeats 4000000
set_option linter.unusedVariables false
set_option linter.unusedSimpArgs false
variable {GOk : Gl → Prop}
theorem ev_fields : ∃ f0 f1 f2 : Field, (P.fieldsOf 56).toList = [f0, f1, f2] ∧ (f0.name ≠ "_" ∧ f1.name ≠ "_" ∧ f2.name ≠ "_") ∧ (f0.type = 3 ∧ f1.type = 9 ∧ f2.type = 9) ∧ (f0.offset = 0 ∧ f1.offset = 1 ∧ f2.offset = 2) := by
  have h : (P.fieldsOf 56).toList.map (fun f => (f.name, f.type, f.offset)) = [("Kind", 3, 0), ("Text", 9, 1), ("Val", 9, 2)] := by kernel_rfl
  generalize (P.fieldsOf 56).toList = l at h
  rcases l with _ | ⟨f0, _ | ⟨f1, _ | ⟨f2, _ | ⟨f3, l⟩⟩⟩⟩
  · exact nomatch h
  · simp at h
  · simp at h
  · simp only [List.map_cons, List.map_nil, List.cons.injEq, Prod.mk.injEq, and_true] at h
    obtain ⟨⟨a1, a2, a3⟩, ⟨b1, b2, b3⟩, c1, c2, c3⟩ := h
    exact ⟨f0, f1, f2, rfl, ⟨by rw [a1]; decide, by rw [b1]; decide, by rw [c1]; decide⟩, ⟨a2, b2, c2⟩, a3, b3, c3⟩
  · simp at h
theorem part_ (t : Nat) (xs : Array Value) (off : Nat) (v : Value) (w : World) (ht : t = 3 ∨ t = 9) (h : xs[off]? = some v) : (part t xs off).run P w = .ok v w := by
  have hp : P.plainKey t = true := by rcases ht with rfl | rfl <;> kernel_rfl
  exact run_part_plain w hp h
theorem eq_ev {X : Cx Pd} (hP : X.P = P) {a b : Operand} {k k' : Int} {s s' v v' : ByteArray} {type : TypeId} {cs : List (Chunk Pd)} {n : Nat} {cont : Out → List (Chunk Pd) → Nat → Prop}
    (hk : ∀ b : Bool, b = (decide (k = k') && (decide (s = s') && decide (v = v'))) → cont (.ret (.bool b)) cs n) :
    NodeX X (.binOp .eql 56 a b 56) type [.agg [.int .i64 k, .str s, .str v], .agg [.int .i64 k', .str s', .str v']] cs n cont := by
  intro ρ F w ρe o ho _ hvs hs
  obtain ⟨dst, op, ty', pos, after, guard⟩ := o
  simp only at ho; subst ho
  have hab : ρe a = .agg #[.int .i64 k, .string s, .string v] ∧ ρe b = .agg #[.int .i64 k', .string s', .string v'] := by simpa [Op.operands, SV.denL, SV.den] using hvs
  obtain ⟨f0, f1, f2, hf, ⟨n0, n1, n2⟩, ⟨t0, t1, t2⟩, o0, o1, o2⟩ := ev_fields
  have u3 : P.underlying 3 = some (.int .i64) := by kernel_rfl
  have u9 : P.underlying 9 = some .string := by kernel_rfl
  have ut : P.underlying 56 = some (.struct (P.fieldsOf 56)) := by kernel_rfl
  have hh : P.stoodInHeld 56 = false := by kernel_rfl
  have hg : P.eqGuardType P.depth 56 = false := by kernel_rfl
  have he : (Op.equalIn 10000 56 (.agg #[.int .i64 k, .string s, .string v]) (.agg #[.int .i64 k', .string s', .string v'])).run P w = .ok (decide (k = k') && (decide (s = s') && decide (v = v'))) w := by
    rw [run_equalIn_agg (P := P) w 9999 56 _ _ ut hh, hf]
    simp only [Op.eqFields, n0, n1, n2, ne_eq, not_false_eq_true, if_true, Sem.run_bind, t0, t1, t2, o0, o1, o2]
    rw [part_ 3 _ 0 (.int .i64 k) w (.inl rfl) rfl]
    simp only [Result.andThen_ok]
    rw [part_ 3 _ 0 (.int .i64 k') w (.inl rfl) rfl]
    simp only [Result.andThen_ok]
    rw [run_equalIn_int (P := P) w 9998 3 .i64 .i64 k k' u3]
    simp only [Result.andThen_ok, Sem.run_ite, Sem.run_bind, Sem.run_pure]
    rw [part_ 9 _ 1 (.string s) w (.inr rfl) rfl]
    simp only [Result.andThen_ok]
    rw [part_ 9 _ 1 (.string s') w (.inr rfl) rfl]
    simp only [Result.andThen_ok]
    rw [run_equalIn_string (P := P) w 9998 9 s s' u9]
    simp only [Result.andThen_ok, Sem.run_ite, Sem.run_bind, Sem.run_pure]
    rw [part_ 9 _ 2 (.string v) w (.inr rfl) rfl]
    simp only [Result.andThen_ok]
    rw [part_ 9 _ 2 (.string v') w (.inr rfl) rfl]
    simp only [Result.andThen_ok]
    rw [run_equalIn_string (P := P) w 9998 9 v v' u9]
    simp only [Result.andThen_ok, Sem.run_ite, Sem.run_pure]
    have b1 : ∀ x y : ByteArray, (x.toList == y.toList) = decide (x = y) := fun x y => by
      rw [Bool.eq_iff_iff]
      simp only [beq_iff_eq, decide_eq_true_eq]
      constructor
      · intro h
        rw [toList_eq, toList_eq] at h
        cases x; cases y
        simp only [ByteArray.mk.injEq] at h ⊢
        exact Array.toList_inj.1 h
      · rintro rfl; rfl
    rw [b1, b1]
    by_cases h1 : k = k'
    · by_cases h2 : s = s'
      · by_cases h3 : v = v' <;> simp [h1, h2, h3]
      · simp [h1, h2]
    · simp [h1]
  have h2 : (execOp ρe ⟨dst, .binOp .eql 56 a b 56, ty', pos, after, guard⟩).run X.P w = .ok (.value (.bool (decide (k = k') && (decide (s = s') && decide (v = v'))))) w := by
    rw [hP]
    simp only [execOp, hab.1, hab.2, Sem.run_bind, run_eqGuard_agg w .eql 56 a b _ _ hg, Result.andThen_ok, run_eql_struct, he, Sem.run_pure]
  rw [h2]
  exact ⟨.bool _, cs, n, ρ, rfl, Nat.le_refl _, Ext.refl _ _, hs, hk _ rfl⟩
end Hx
/- names.Local tells whether a text is a local name: the walk. -/
namespace Hx
open Go Sx Go.Proofs
set_option maxHeartbeats 4000000
set_option maxRecDepth 100000
set_option linter.unusedVariables false
set_option linter.unusedSimpArgs false
variable {Pd : Type} {I : Pd → List Nat → HP} {GOk : Gl → Prop}
theorem local_spec (s : ByteArray) : Triple (BB I GOk) 95 0 0 [.str s] [] (fun K => ∀ b, b = localOk s → K (.ret (.bool b)) []) := by
  refine triple_of BB_ok (tb := ty) rfl (n0 := 0) (fun _ : Unit => _) pl95 Tryz.call95 Tryz.func95 rfl (by kernel_rfl) (Nat.le_of_ble_eq_true rfl) (by decide) rfl pre_none ?_
  intro G hG K hK W bi bc bs bk bu bb bo bg bl bp bn be Ncond Nob Nop Nloop Nscope hN Nfin hf _ _
  cbv
  have finb : ∀ b cs, localOk s = b → Nfin (.ret (.bool b)) cs := fun b cs h => hf _ _ (fin_ [] (out' := .ret (.bool b)) rfl rfl (hK _ h.symm))
  have fint : ∀ cs, localOk s = true → Nfin (.ret .tt) cs := fun cs h => hf _ _ (fin_as (.bool true) (fun _ => rfl) (fin_ [] (out' := .ret (.bool true)) rfl rfl (hK _ h.symm)))
  have finf : ∀ cs, localOk s = false → Nfin (.ret .ff) cs := fun cs h => hf _ _ (fin_as (.bool false) (fun _ => rfl) (fin_ [] (out' := .ret (.bool false)) rfl rfl (hK _ h.symm)))
  refine cond_ hN (fun h1 => ?_) (fun h1 => ?_)
  · cbv
    refine finf _ ?_
    rw [seq_eq hN] at h1; simp at h1; subst h1; rfl
  · cbv
    refine cond_ hN (fun h2 => ?_) (fun h2 => ?_)
    · cbv
      refine finf _ ?_
      rw [cgt hN, len_eq hN] at h2; simp at h2
      simp only [localOk]; rw [if_pos (.inr (by omega))]
    · cbv
      refine op_ hN (str_bytes ty_ok rfl rfl rfl rfl rfl rfl rfl ?_)
      intro m cap xs hm hcap hmc hxs
      cbv
      rw [seq_eq hN] at h1; rw [cgt hN, len_eq hN] at h2; simp at h1 h2
      have hloc : localOk s = localGo 0 s.data.toList := by
        have : ¬ (s.size = 0 ∨ s.size > 16) := by
          rintro (h | h)
          · exact h1 (by obtain ⟨⟨l⟩⟩ := s; cases l with | nil => rfl | cons a r => simp [ByteArray.size] at h)
          · omega
        rw [localOk, if_neg this]
      have hm16 : m ≤ 16 := by omega
      refine loopN_ hN (loop_ hN ty_ok mixed (ι := Nat) (fun k => ⟨[(15, .vec true 0 1 0 m cap), (16, .int .i64 m), (17, .int .i64 k)], [.arr true true 0 5 encB xs], 1⟩) (fun k => k ≤ m ∧ localGo k (s.data.toList.drop k) = localGo 0 s.data.toList) (fun k => m - k) (Leads.idx 0 [0] ⟨Nat.zero_le _, rfl⟩ ⟨⟨rfl, rfl, rfl, trivial⟩, rfl, Nat.le_of_ble_eq_true rfl⟩) ?_)
      intro k hk Nnext hn _
      cbv
      refine cond_ hN (fun h3 => ?_) (fun h3 => ?_)
      · cbv
        have h3' : k < m := by rw [clt hN] at h3; simpa using h3
        refine ob_ hN ⟨⟨by simp, by simpa using h3'⟩, rfl, trivial⟩ ?_
        cbv
        refine op_ hN (load_byte ty_ok rfl rfl rfl rfl (by rw [plus0 hN]; omega) ?_)
        intro x b hx hb
        rw [plus0 hN] at hx
        have hdrop : s.data.toList.drop k = x :: s.data.toList.drop (k + 1) := by
          rw [← hxs, List.drop_take, List.drop_take]
          have hlt : k < xs.length := by omega
          rw [List.drop_eq_getElem_cons hlt, show m - k = (m - (k + 1)) + 1 by omega, List.take_succ_cons]
          rw [List.getElem?_eq_getElem hlt] at hx
          simp at hx; rw [hx]
        have hstep : localGo k (s.data.toList.drop k) = (if (!((bc .geq (bi .or .u8 b 32) 97 && bc .leq (bi .or .u8 b 32) 122) || bc .eql b 95)) && (bc .eql (Int.ofNat k) 0 || !(((bc .geq b 48 && bc .leq b 57) || bc .eql b 45) || bc .eql b 46)) then false else localGo (k + 1) (s.data.toList.drop (k + 1))) := by
          rw [hdrop]; subst hb; rw [bi_ hN, bc_ hN]
          simp only [localGo, letterB, moreB, bitC]
          congr 2
          cases k <;> simp <;> rfl
        clear hdrop hb hx
        cbv
        have fin1 : ∀ s' : St Pd, s'.cs = [.arr true true 0 5 encB xs] → eget s'.env 15 = some (.vec true 0 1 0 m cap) → eget s'.env 16 = some (.int .i64 m) → eget s'.env 17 = some (.int .i64 (bi .add .i64 (Int.ofNat k) (Int.ofNat 1))) → Nat.ble 0 s'.n = true → localGo k (s.data.toList.drop k) = localGo (k + 1) (s.data.toList.drop (k + 1)) → Nnext s' := by
          intro s' c1 c2 c3 c4 cn c5
          refine hn _ (Leads.nxt (k + 1) [0] ⟨h3', c5 ▸ hk.2⟩ (by omega) ⟨⟨c2, c3, ?_, trivial⟩, by rw [c1]; rfl, Nat.le_of_ble_eq_true cn⟩)
          rw [c4, inext hN (by omega)]; rfl
        have fin2 : ∀ cs, localGo k (s.data.toList.drop k) = false → Nfin (.ret .ff) cs := fun cs c => finf _ (by rw [hloc, ← hk.2, c])
        repeat' (refine cond_ hN (fun _ => ?_) (fun _ => ?_) <;> cbv)
        all_goals
          rcases Bool.eq_false_or_eq_true (bc .eql b 95) with h95 | h95 <;> rcases Bool.eq_false_or_eq_true (bc .eql b 46) with h46 | h46 <;> (try simp only [h95, reduceCtorEq] at *) <;> (try simp only [h46, reduceCtorEq] at *) <;> first
            | (refine fin1 _ rfl rfl rfl rfl rfl (hstep.trans ?_); simp only [*, Bool.true_and, Bool.and_true, Bool.false_and, Bool.and_false, Bool.true_or, Bool.or_true, Bool.false_or, Bool.or_false, Bool.not_true, Bool.not_false, Bool.false_eq_true, if_true, if_false]; done)
            | (refine fin2 _ (hstep.trans ?_); simp only [*, Bool.true_and, Bool.and_true, Bool.false_and, Bool.and_false, Bool.true_or, Bool.or_true, Bool.false_or, Bool.or_false, Bool.not_true, Bool.not_false, Bool.false_eq_true, if_true, if_false]; done)
      · cbv
        refine fint _ ?_
        rw [clt hN] at h3; simp at h3
        have : k = m := by omega
        rw [hloc, ← hk.2, this, List.drop_eq_nil_of_le (by rw [hm]; exact Nat.le_refl _)]
        rfl
end Hx
/- What names computes: the model. -/
namespace Hx
open Go Sx Go.Proofs
set_option maxRecDepth 100000
set_option maxHeartbeats 4000000
set_option linter.unusedVariables false
set_option linter.unusedSimpArgs false
variable {GOk : Gl → Prop}
/- names -/
def sEmp : ByteArray := ⟨#[]⟩
def cutB (t sep : ByteArray) : ByteArray × ByteArray × Bool := (⟨(Lib.cut t.data.toList sep.data.toList).1.toArray⟩, ⟨(Lib.cut t.data.toList sep.data.toList).2.1.toArray⟩, (Lib.cut t.data.toList sep.data.toList).2.2)
def hasPre (s p : ByteArray) : Bool := Lib.hasPrefix s.data.toList p.data.toList
def trimPre (s p : ByteArray) : ByteArray := ⟨(Lib.trimPrefix s.data.toList p.data.toList).toArray⟩
def oddSet : ByteArray := ⟨#[123, 125, 34, 60, 62, 38, 92]⟩
/-- a character that no space has -/
def oddR (r : Int) : Bool := decide (r < 33) || (decide (Lib.indexByte oddSet.data.toList (IntKind.u8.wrap (bitI .and .i32 r 127)).toNat.toUInt8 ≥ 0) && decide (r < 128))
def oddGo (s : ByteArray) : Nat → Nat → Bool
  | 0, _ => false
  | n + 1, p => if p < s.size then (oddR (Int.ofNat (Utf8.decode s p).1) || oddGo s n (p + (Utf8.decode s p).2)) else false
def spaceOk (s : ByteArray) : Bool := Lib.validD s.data.toList && (decide (s ≠ sEmp) && (decide (s.size ≤ 48) && !oddGo s (s.size + 1) 0))
def wBrace : ByteArray := ⟨#[123]⟩
def wClose : ByteArray := ⟨#[125]⟩
def cutNT (space loc full : ByteArray) : ByteArray × ByteArray × Bool := if !localOk loc || decide (full.size > 48) then (sEmp, sEmp, false) else (space, loc, true)
/-- a full name's space and local name -/
def cutN (full : ByteArray) : ByteArray × ByteArray × Bool :=
  if hasPre full wBrace then
    (if !(cutB (trimPre full wBrace) wClose).2.2 || !spaceOk (cutB (trimPre full wBrace) wClose).1 then (sEmp, sEmp, false)
     else cutNT (cutB (trimPre full wBrace) wClose).1 (cutB (trimPre full wBrace) wClose).2.1 full)
  else cutNT sEmp full full
def joinF (space loc : ByteArray) : ByteArray := if decide (space ≠ sEmp) then wBrace ++ space ++ wClose ++ loc else loc
def joinN (space loc : ByteArray) : ByteArray × Bool :=
  if !(cutN (joinF space loc)).2.2 || (decide ((cutN (joinF space loc)).1 ≠ space) || decide ((cutN (joinF space loc)).2.1 ≠ loc)) then (sEmp, false) else (joinF space loc, true)
end Hx
/- names.Space, Cut, Join: the walks. -/
namespace Hx
open Go Sx Go.Proofs
set_option maxRecDepth 100000
set_option maxHeartbeats 4000000
set_option linter.unusedVariables false
set_option linter.unusedSimpArgs false
variable {GOk : Gl → Prop}
theorem ba_of {r : ByteArray} {l : List UInt8} (h : r.data.toList = l) : r = ⟨l.toArray⟩ := by
  cases r; simp only at h; subst h; simp
theorem ba_size (l : List UInt8) : (⟨l.toArray⟩ : ByteArray).size = l.length := by simp [ByteArray.size]
theorem ba_len (r : ByteArray) : r.data.toList.length = r.size := by rw [Array.length_toList]; rfl
theorem cutB_le (t sep : ByteArray) : (cutB t sep).1.size ≤ t.size ∧ (cutB t sep).2.1.size ≤ t.size := by
  have h1 : (cutB t sep).1.size = (Lib.cut t.data.toList sep.data.toList).1.length := ba_size _
  have h2 : (cutB t sep).2.1.size = (Lib.cut t.data.toList sep.data.toList).2.1.length := ba_size _
  rw [h1, h2, ← ba_len t]
  unfold Lib.cut
  split
  · exact ⟨by rw [List.length_take]; exact Nat.min_le_right _ _, by rw [List.length_drop]; omega⟩
  · exact ⟨Nat.le_refl _, Nat.zero_le _⟩
theorem trimPre_le (t p : ByteArray) : (trimPre t p).size ≤ t.size := by
  have h1 : (trimPre t p).size = (Lib.trimPrefix t.data.toList p.data.toList).length := ba_size _
  rw [h1, ← ba_len t]
  unfold Lib.trimPrefix
  split
  · rw [List.length_drop]; omega
  · exact Nat.le_refl _
theorem odd_spec (r : Int) : Triple (BB Ip GOk) 119 0 0 [.int .i32 r] [] (fun K => ∀ b, b = oddR r → K (.ret (.bool b)) []) := by
  refine triple_of BB_ok (tb := ty) rfl (n0 := 0) (fun _ : Unit => _) pl119 Tryz.call119 Tryz.func119 rfl (by kernel_rfl) (Nat.le_of_ble_eq_true rfl) (by decide) rfl pre_none ?_
  rintro G hG K hK W bi bc bs bk bu bb bo bg bl bp bn be Ncond Nob Nop Nloop Nscope hN Nfin hf _ _
  obtain ⟨k, hk⟩ : ∃ k, W .u8 (bi .and .i32 r 127) = k := ⟨_, rfl⟩
  have hM : oddR r = (decide (r < 33) || (decide (Lib.indexByte (⟨#[123, 125, 34, 60, 62, 38, 92]⟩ : ByteArray).data.toList k.toNat.toUInt8 ≥ 0) && decide (r < 128))) := by
    rw [← hk, hN.W, bi_ hN]; rfl
  rw [hM] at hK
  clear hM
  cbv
  refine cond_ hN (fun h1 => ?_) (fun h1 => ?_)
  · cbv
    exact hf _ _ (fin_as (.bool true) (fun _ => rfl) (fin_ [] rfl rfl (hK true (by rw [clt hN] at h1; rw [h1]; rfl))))
  · rw [clt hN] at h1
    rw [h1, Bool.false_or] at hK
    cbv
    simp only [hk]
    refine op_ hN (call_ (index_byte_spec ⟨#[123, 125, 34, 60, 62, 38, 92]⟩ k) hG [] rfl rfl rfl rfl rfl ?_)
    intro d hd
    rw [← hd] at hK
    clear hd
    cbv
    refine cond_ hN (fun h2 => ?_) (fun h2 => ?_)
    · rw [cge hN] at h2
      rw [h2, Bool.true_and] at hK
      cbv
      exact hf _ _ (fin_ [] rfl rfl (hK _ (by rw [clt hN])))
    · rw [cge hN] at h2
      rw [h2, Bool.false_and] at hK
      cbv
      exact hf _ _ (fin_as (.bool false) (fun _ => rfl) (fin_ [] rfl rfl (hK false rfl)))
theorem index_odd_spec (s : ByteArray) : Triple (BB Ip GOk) 102 0 0 [.str s, .fn (.func 119) [] [], .tt] [] (fun K => ∀ d : Int, decide (d ≥ 0) = oddGo s (s.size + 1) 0 → K (.ret (.int .i64 d)) []) := by
  refine triple_of BB_ok (tb := ty) rfl (n0 := 0) (fun _ : Unit => _) pl102 Tryz.call102 Tryz.func102 rfl (by kernel_rfl) (Nat.le_of_ble_eq_true rfl) (by decide) rfl pre_none ?_
  rintro G hG K hK W bi bc bs bk bu bb bo bg bl bp bn be Ncond Nob Nop Nloop Nscope hN Nfin hf _ _
  cbv
  refine op_ hN (range_str ty_ok rfl rfl rfl ?_)
  cbv
  refine loopN_ hN (loop_ hN ty_ok mixed (ι := Nat × Nat) (fun y => ⟨[(1, .fn (.func 119) [] []), (2, .tt), (10, .ptr 0 0)], [.obj 0 (.stringIter s y.1)], 1⟩) (fun y => s.size - y.1 < y.2 ∧ oddGo s y.2 y.1 = oddGo s (s.size + 1) 0) (fun y => y.2) (Leads.idx (0, s.size + 1) [0] ⟨by simp only; omega, rfl⟩ ⟨⟨rfl, rfl, rfl, trivial⟩, rfl, Nat.le_of_ble_eq_true rfl⟩) ?_)
  rintro ⟨pos, m⟩ ⟨h1, h2⟩ Nnext hn _
  simp only at h1 h2
  cbv
  refine op_ hN (next_str ty_ok rfl (fun hlt => ?_) (fun hlt => ?_))
  · have hw := Lib.width_pos s pos
    cases m with
    | zero => omega
    | succ n =>
      rw [oddGo, if_pos hlt] at h2
      generalize (Utf8.decode s pos).2 = wd at hw h2 ⊢
      generalize (Utf8.decode s pos).1 = r at h2 ⊢
      obtain ⟨pos2, hpos2⟩ : ∃ x, x = pos + wd := ⟨_, rfl⟩
      have h2 : (oddR ((r : Nat) : Int) || oddGo s n (pos + wd)) = oddGo s (s.size + 1) 0 := h2
      rw [← hpos2] at h2 ⊢
      generalize ((r : Nat) : Int) = ri at h2 ⊢
      cbv
      refine op_ hN (call_ (odd_spec ri) hG [] rfl rfl rfl rfl rfl ?_)
      intro b hb
      rw [← hb] at h2
      cases b with
      | true =>
        cbv
        refine cond_T hN rfl ?_
        cbv
        exact hf _ _ (fin_ [] rfl rfl (hK (Int.ofNat pos) (by rw [← h2]; simp)))
      | false =>
        rw [Bool.false_or] at h2
        cbv
        refine cond_F hN rfl ?_
        cbv
        exact hn _ (Leads.nxt (pos2, n) [0] ⟨by simp only; omega, h2⟩ (by simp only; omega) ⟨⟨rfl, rfl, rfl, trivial⟩, rfl, Nat.le_of_ble_eq_true rfl⟩)
  · cbv
    refine hf _ _ (fin_ [] rfl rfl (hK (-1) ?_))
    rw [← h2]
    cases m with
    | zero => rfl
    | succ n => rw [oddGo, if_neg hlt]; rfl
theorem contains_odd_spec (s : ByteArray) : Triple (BB Ip GOk) 47 0 0 [.str s, .fn (.func 119) [] []] [] (fun K => ∀ b, b = oddGo s (s.size + 1) 0 → K (.ret (.bool b)) []) := by
  refine triple_of BB_ok (tb := ty) rfl (n0 := 0) (fun _ : Unit => _) pl47 Tryz.call47 Tryz.func47 rfl (by kernel_rfl) (Nat.le_of_ble_eq_true rfl) (by decide) rfl pre_none ?_
  rintro G hG K hK W bi bc bs bk bu bb bo bg bl bp bn be Ncond Nob Nop Nloop Nscope hN Nfin hf _ _
  cbv
  refine op_ hN (inline_ BB_ok (tb := ty) rfl pl78 Tryz.call78 Tryz.func78 rfl (by kernel_rfl) (Nat.le_of_ble_eq_true rfl) ?_)
  intro W2 bi2 bc2 bs2 bk2 bu2 bb2 bo2 bg2 bl2 bp2 bn2 be2 Ncond2 Nob2 Nop2 Nloop2 Nscope2 hN2
  cbv
  refine op_ hN2 (call_ (index_odd_spec s) hG [] rfl rfl rfl rfl rfl ?_)
  intro d hd
  cbv
  exact hf _ _ (fin_ [] rfl rfl (hK _ (by rw [cge hN]; exact hd)))
/-- src.Runes -/
theorem runes_spec (hT : GTab GOk) (s : ByteArray) (hs : s.size < 1099511627776) : Triple (BB Ip GOk) 118 0 1 [.str s] [] (fun K => ∀ v, v = Lib.validD s.data.toList → ∀ p lo len cap xs, K (.ret (.tuple [.vec p 0 1 lo len cap, .bool v])) [.arr p true 0 3 encI xs]) := by
  refine triple_of BB_ok (tb := ty) rfl (n0 := 0) (fun _ : Unit => _) pl118 Tryz.call118 Tryz.func118 rfl (by kernel_rfl) (Nat.le_of_ble_eq_true rfl) (by decide) rfl pre_none ?_
  rintro G hG K hK W bi bc bs bk bu bb bo bg bl bp bn be Ncond Nob Nop Nloop Nscope hN Nfin hf _ _
  cbv
  refine op_ hN (call_ (valid_string_spec hT s hs) hG [] rfl rfl rfl rfl rfl ?_)
  intro v hv
  cases v with
  | false =>
    cbv
    refine cond_T hN rfl ?_
    cbv
    exact hf _ _ (fin_as (.tuple [.vec false 50 1 0 0 0, .bool false]) (fun _ => rfl) (fin_noArr true 50 3 encI [] (fin_ [50] rfl rfl (hK false hv false 0 0 0 []))))
  | true =>
    cbv
    refine cond_F hN rfl ?_
    cbv
    refine op_ hN (range_str ty_ok rfl rfl rfl ?_)
    cbv
    refine loopN_ hN (loop_ hN ty_ok mixed (ι := Nat × Bool × Nat × Nat × Nat × List Int) (fun y => ⟨[(4, .vec y.2.1 1 1 y.2.2.1 y.2.2.2.1 y.2.2.2.2.1), (11, .ptr 0 0)], [.obj 0 (.stringIter s y.1), .arr y.2.1 true 1 3 encI y.2.2.2.2.2], 2⟩)
      (fun y => (y.2.1 = false → y.2.2.2.2.1 = 0) ∧ y.2.2.1 + y.2.2.2.2.1 ≤ y.2.2.2.2.2.length ∧ y.2.2.2.1 ≤ y.2.2.2.2.1 ∧ y.2.2.2.1 ≤ y.1) (fun y => s.size - y.1) ?_ ?_)
    · refine leads_noArr true 1 2 3 encI [] rfl ?_
      refine leads_eset 4 .nilslice (.vec false 1 1 0 0 0) rfl (fun _ => rfl) ?_
      exact Leads.idx (0, false, 0, 0, 0, []) [0, 1] ⟨fun _ => rfl, Nat.le_refl _, Nat.le_refl _, Nat.le_refl _⟩ ⟨⟨rfl, rfl, trivial⟩, rfl, Nat.le_of_ble_eq_true rfl⟩
    rintro ⟨pos, p, lo, len, cap, xs⟩ ⟨h1, h2, h3, h4⟩ Nnext hn _
    simp only at h1 h2 h3 h4
    cbv
    refine op_ hN (next_str ty_ok rfl (fun hlt => ?_) (fun hlt => ?_))
    · have hw := Lib.width_pos s pos
      generalize (Utf8.decode s pos).2 = wd at hw ⊢
      generalize (Utf8.decode s pos).1 = r
      obtain ⟨pos2, hpos2⟩ : ∃ x, x = pos + wd := ⟨_, rfl⟩
      rw [← hpos2]
      cbv
      obtain ⟨x, hx⟩ : ∃ x, x = W .i64 (Int.ofNat r) := ⟨_, rfl⟩
      rw [← hx]
      refine op_ hN (append_vec (new := [x]) (z := 0) ty_ok rfl rfl rfl rfl (fun k => by simp) rfl rfl wideI rfl rfl (src_cells wideI rfl (fun _ _ _ _ => rfl) rfl) h1 h2 h3 (by simp; omega) (by decide) ?_)
      intro p' lo' m' cap' xs' hm' e1 e2 e3 e4
      cbv
      exact hn _ (Leads.nxt (pos2, p', lo', m', cap', xs') [0, 3] ⟨e1, e2, e3, by simp at hm'; simp only; omega⟩ (by simp only; omega) ⟨⟨rfl, rfl, trivial⟩, rfl, Nat.le_of_ble_eq_true rfl⟩)
    · cbv
      exact hf _ _ (fin_as (.tuple [.vec p 1 1 lo len cap, .bool true]) (fun _ => rfl) (fin_ [1] rfl rfl (hK true hv p lo len cap xs)))
theorem space_spec (hT : GTab GOk) (s : ByteArray) (hs : s.size < 1099511627776) : Triple (BB Ip GOk) 94 0 0 [.str s] [] (fun K => ∀ b, b = spaceOk s → K (.ret (.bool b)) []) := by
  refine triple_of BB_ok (tb := ty) rfl (n0 := 0) (fun _ : Unit => _) pl94 Tryz.call94 Tryz.func94 rfl (by kernel_rfl) (Nat.le_of_ble_eq_true rfl) (by decide) rfl pre_none ?_
  rintro G hG K hK W bi bc bs bk bu bb bo bg bl bp bn be Ncond Nob Nop Nloop Nscope hN Nfin hf _ _
  cbv
  refine op_ hN (call_ (runes_spec hT s hs) hG [] rfl rfl rfl rfl rfl ?_)
  intro v hv p lo len cap xs
  have hM : spaceOk s = (v && (bs .neq s ⟨#[]⟩ && (bc .leq (bn s) 48 && !oddGo s (s.size + 1) 0))) := by
    have h48 : ((s.size : Int) ≤ 48) ↔ s.size ≤ 48 := by omega
    rw [sne_eq hN, cle hN, len_eq hN, hv]
    by_cases he : s = ⟨#[]⟩ <;> simp [spaceOk, sEmp, h48, he]
  rw [hM] at hK
  clear hM hv
  cases v with
  | false =>
    cbv
    refine cond_F hN rfl ?_
    cbv
    exact hf _ _ (fin_as (.bool false) (fun _ => rfl) (fin_ [] rfl rfl (hK false rfl)))
  | true =>
    rw [Bool.true_and] at hK
    cbv
    refine cond_T hN rfl ?_
    cbv
    refine cond_ hN ?_ ?_ <;> intro h1
    · rw [h1, Bool.true_and] at hK
      cbv
      refine cond_ hN ?_ ?_ <;> intro h2
      · rw [h2, Bool.true_and] at hK
        cbv
        refine op_ hN (call_ (contains_odd_spec s) hG [] rfl rfl rfl rfl rfl ?_)
        intro b hb
        rw [← hb] at hK
        cbv
        exact hf _ _ (fin_ [] rfl rfl (hK _ rfl))
      · rw [h2, Bool.false_and] at hK
        cbv
        exact hf _ _ (fin_as (.bool false) (fun _ => rfl) (fin_ [] rfl rfl (hK false rfl)))
    · rw [h1, Bool.false_and] at hK
      cbv
      exact hf _ _ (fin_as (.bool false) (fun _ => rfl) (fin_ [] rfl rfl (hK false rfl)))
end Hx
/- names.Cut: the walk. -/
namespace Hx
open Go Sx Go.Proofs
set_option maxRecDepth 100000
set_option maxHeartbeats 4000000
set_option linter.unusedVariables false
set_option linter.unusedSimpArgs false
variable {GOk : Gl → Prop}
theorem cutB_eq {s sep a b : ByteArray} {c : Bool} (h : (a.data.toList, b.data.toList, c) = Lib.cut s.data.toList sep.data.toList) : cutB s sep = (a, b, c) := by
  unfold cutB
  rw [← h]
theorem ncut_spec (hTab : GTab GOk) (s : ByteArray) (hs : s.size < 1200000) : Triple (BB Ip GOk) 65 0 0 [.str s] [] (fun K => ∀ a b c, (a, b, c) = cutN s → K (.ret (.tuple [.str a, .str b, .bool c])) []) := by
  refine triple_of BB_ok (tb := ty) rfl (n0 := 0) (fun _ : Unit => _) pl65 Tryz.call65 Tryz.func65 rfl (by kernel_rfl) (Nat.le_of_ble_eq_true rfl) (by decide) rfl pre_none ?_
  rintro G hG K hK W bi bc bs bk bu bb bo bg bl bp bn be Ncond Nob Nop Nloop Nscope hN Nfin hf _ _
  simp only [cutN] at hK
  cbv
  refine op_ hN (call_ (cut_prefix_spec s ⟨#[123]⟩) hG [] rfl rfl rfl rfl rfl ?_)
  intro r b hr hb
  have hr2 : trimPre s wBrace = r := (ba_of hr).symm
  have hrs : r.size ≤ s.size := hr2 ▸ trimPre_le s wBrace
  have hb2 : hasPre s wBrace = b := hb.symm
  rw [hr2, hb2] at hK
  clear hr2 hb2 hr hb
  cases b with
  | true =>
    rw [if_pos rfl] at hK
    cbv
    refine cond_T hN rfl ?_
    cbv
    refine op_ hN (call_ (scut_spec hTab r ⟨#[125]⟩ (by omega)) hG [] rfl rfl rfl rfl rfl ?_)
    intro a1 b1 c1 hc
    have hc2 : cutB r wClose = (a1, b1, c1) := cutB_eq hc
    have hsz := cutB_le r wClose
    rw [hc2] at hsz hK
    simp only at hsz hK
    clear hc hc2
    cases c1 with
    | false =>
      rw [if_pos (by rfl)] at hK
      cbv
      refine cond_T hN rfl ?_
      cbv
      exact hf _ _ (fin_as (.tuple [.str ⟨#[]⟩, .str ⟨#[]⟩, .bool false]) (fun _ => rfl) (fin_ [] rfl rfl (hK ⟨#[]⟩ ⟨#[]⟩ false rfl)))
    | true =>
      cbv
      refine cond_F hN rfl ?_
      cbv
      refine op_ hN (call_ (space_spec hTab a1 (by omega)) hG [] rfl rfl rfl rfl rfl ?_)
      intro e he
      rw [← he] at hK
      clear he
      cases e with
      | false =>
        rw [if_pos (by rfl)] at hK
        cbv
        refine cond_T hN rfl ?_
        cbv
        exact hf _ _ (fin_as (.tuple [.str ⟨#[]⟩, .str ⟨#[]⟩, .bool false]) (fun _ => rfl) (fin_ [] rfl rfl (hK ⟨#[]⟩ ⟨#[]⟩ false rfl)))
      | true =>
        rw [if_neg (by decide)] at hK
        cbv
        refine cond_F hN rfl ?_
        cbv
        simp only [cutNT] at hK
        refine op_ hN (call_ (local_spec b1) hG [] rfl rfl rfl rfl rfl ?_)
        intro d hd
        rw [← hd] at hK
        clear hd
        cases d with
        | false =>
          rw [if_pos (by rfl)] at hK
          cbv
          refine cond_T hN rfl ?_
          cbv
          exact hf _ _ (fin_as (.tuple [.str ⟨#[]⟩, .str ⟨#[]⟩, .bool false]) (fun _ => rfl) (fin_ [] rfl rfl (hK ⟨#[]⟩ ⟨#[]⟩ false rfl)))
        | true =>
          cbv
          refine cond_F hN rfl ?_
          cbv
          refine cond_ hN ?_ ?_ <;> intro h1 <;> rw [cgt hN, len_eq hN] at h1
          ·
            have h2 : 48 < s.size := by have : (48 : Int) < (s.size : Int) := of_decide_eq_true h1; omega
            rw [if_pos (by simpa using h2)] at hK
            cbv
            exact hf _ _ (fin_as (.tuple [.str ⟨#[]⟩, .str ⟨#[]⟩, .bool false]) (fun _ => rfl) (fin_ [] rfl rfl (hK ⟨#[]⟩ ⟨#[]⟩ false rfl)))
          ·
            have h2 : ¬ 48 < s.size := by have : ¬ (48 : Int) < (s.size : Int) := of_decide_eq_false h1; omega
            rw [if_neg (by simpa using h2)] at hK
            cbv
            exact hf _ _ (fin_as (.tuple [.str a1, .str b1, .bool true]) (fun _ => rfl) (fin_ [] rfl rfl (hK a1 b1 true rfl)))
  | false =>
    rw [if_neg (by decide)] at hK
    cbv
    refine cond_F hN rfl ?_
    cbv
    simp only [cutNT] at hK
    refine op_ hN (call_ (local_spec s) hG [] rfl rfl rfl rfl rfl ?_)
    intro d hd
    rw [← hd] at hK
    clear hd
    cases d with
    | false =>
      rw [if_pos (by rfl)] at hK
      cbv
      refine cond_T hN rfl ?_
      cbv
      exact hf _ _ (fin_as (.tuple [.str ⟨#[]⟩, .str ⟨#[]⟩, .bool false]) (fun _ => rfl) (fin_ [] rfl rfl (hK ⟨#[]⟩ ⟨#[]⟩ false rfl)))
    | true =>
      cbv
      refine cond_F hN rfl ?_
      cbv
      refine cond_ hN ?_ ?_ <;> intro h1 <;> rw [cgt hN, len_eq hN] at h1
      ·
        have h2 : 48 < s.size := by have : (48 : Int) < (s.size : Int) := of_decide_eq_true h1; omega
        rw [if_pos (by simpa using h2)] at hK
        cbv
        exact hf _ _ (fin_as (.tuple [.str ⟨#[]⟩, .str ⟨#[]⟩, .bool false]) (fun _ => rfl) (fin_ [] rfl rfl (hK ⟨#[]⟩ ⟨#[]⟩ false rfl)))
      ·
        have h2 : ¬ 48 < s.size := by have : ¬ (48 : Int) < (s.size : Int) := of_decide_eq_false h1; omega
        rw [if_neg (by simpa using h2)] at hK
        cbv
        exact hf _ _ (fin_as (.tuple [.str ⟨#[]⟩, .str s, .bool true]) (fun _ => rfl) (fin_ [] rfl rfl (hK ⟨#[]⟩ s true rfl)))
end Hx
