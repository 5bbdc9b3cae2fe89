/-
  Part of a proof.
-/
import Derived.Test.YtlmbbchfaoeebaaGreatDoorW22
import Derived.Test.YtlmbbchfaoeebaaGreatDoorW09
import Derived.Test.YtlmbbchfaoeebaaGreatDoorW03
import Derived.Test.YtlmbbchfaoeebaaGreatDoorShelf
import Derived.Lib.AppendIntMem
import Derived.Lib.AtoiErrMem
set_option linter.unusedVariables false
set_option linter.unusedSimpArgs false
/- events.Whole; few. -/
namespace Hx
open Go Sx Go.Proofs
set_option maxRecDepth 100000
set_option maxHeartbeats 4000000
set_option linter.unusedVariables false
set_option linter.unusedSimpArgs false
variable {GOk : Gl → Prop}
variable {right : Ev → Bool}
theorem whole_spec (hr : RgtOk GOk right) (p : Bool) (lo len cap : Nat) (xs l : List Ev) (hv : VecOk p lo len cap xs l) (hok : ∀ y ∈ l, okE y) (hlen : len ≤ 4294967296) :
    Triple (BB Ip GOk) 7 1 1 [.vec p 0 3 lo len cap] [.arr p true 0 44 encE xs] (fun K => ∀ i e, (i, e) = wholeGo right chk0 l 0 → K (.ret (.tuple [.int .i64 (Int.ofNat i), .int .i64 e])) [.arr p true 0 44 encE xs]) := by
  refine triple_of BB_ok (tb := ty) rfl (n0 := 1) (fun _ : Unit => _) pl7 Tryz.call7 Tryz.func7 rfl (by kernel_rfl) (Nat.le_of_ble_eq_true rfl) (by decide) rfl pre_none ?_
  rintro G hG K hK W bi bc bs bk bu bb bo bg bl bp bn be Ncond Nob Nop Nloop Nscope hN Nfin hf _ _
  have hvl := hv.length
  have hroom := hv.room
  have hfits := hv.fits
  cbv
  refine op_ hN (call_ (ev_new_spec) hG [] rfl rfl rfl rfl rfl ?_)
  cbv
  refine loopN_ hN (loop_ hN ty_ok mixed (ι := Nat × Chk) (fun y => ⟨[(0, .vec p 0 3 lo len cap), (4, .ptr 1 0), (9, .vec p 0 3 lo len cap), (10, .int .i64 (Int.ofNat len)), (11, .int .i64 (Int.ofNat y.1))],
      [.abs (.chk y.2) [1], .arr p true 0 44 encE xs], 2⟩)
    (fun y => y.1 ≤ len ∧ wholeGo right y.2 (l.drop y.1) y.1 = wholeGo right chk0 l 0) (fun y => len - y.1) ?_ ?_)
  · exact Leads.idx (0, chk0) [1] ⟨Nat.zero_le _, rfl⟩ ⟨⟨rfl, rfl, rfl, rfl, rfl, trivial⟩, rfl, Nat.le_of_ble_eq_true rfl⟩
  rintro ⟨i, c⟩ ⟨hi, hgo⟩ Nnext hn _
  simp only at hi hgo
  cbv
  refine cond_ hN (fun h => ?_) (fun h => ?_)
  · rw [clt hN] at h
    simp only [decide_eq_true_eq, decide_eq_false_iff_not, Int.ofNat_eq_natCast, gt_iff_lt, ge_iff_le, Bool.not_eq_true', Bool.not_eq_false', Int.not_lt, Int.not_le] at h
    have hilt : i < len := by have : (i : Int) < (len : Int) := h; omega
    have hpt : p = true := by
      cases p with
      | true => rfl
      | false => have := hv.pr rfl; omega
    have hidx : bp lo (Int.ofNat i) = lo + i := by rw [bp_ hN]; simp
    have hil : i < l.length := by omega
    have hxi : xs[lo + i]? = some (l[i]'hil) := by
      have h5 : ((xs.drop lo).take len)[i]? = some (l[i]'hil) := by rw [hv.eq]; exact List.getElem?_eq_getElem hil
      rw [List.getElem?_take, if_pos hilt, List.getElem?_drop] at h5
      exact h5
    have hoky := hok _ (List.getElem_mem hil)
    have hdrop : l.drop i = (l[i]'hil) :: l.drop (i + 1) := List.drop_eq_getElem_cons hil
    generalize (l[i]'hil) = y at hxi hdrop hoky
    rw [hdrop, wholeGo] at hgo
    obtain ⟨kind1, text1, val1⟩ := y
    have hsub : bi .add .i64 (Int.ofNat i) 1 = Int.ofNat (i + 1) := inext hN (by omega)
    cbv
    refine ob_ hN ⟨⟨by simp, by simpa using hilt⟩, hpt, trivial⟩ ?_
    cbv
    refine op_ hN (load_arr ty_ok rfl hpt rfl wideE (Nat.le_of_ble_eq_true rfl) (by rw [hidx]; omega) ?_)
    intro x2 hx2
    rw [hidx, hxi] at hx2
    obtain rfl := (Option.some.inj hx2).symm
    cbv
    refine op_ hN (call_ (step_spec' hr c ⟨kind1, text1, val1⟩ hoky) hG [1] rfl rfl rfl rfl rfl ?_)
    intro e c' he
    rw [← he] at hgo
    simp only at hgo
    cbv
    refine cond_ hN (fun h2 => ?_) (fun h2 => ?_)
    · rw [cne hN] at h2
      have h2' : e ≠ 0 := by simpa using h2
      rw [if_pos h2'] at hgo
      cbv
      exact hf _ _ (fin_ [] rfl rfl (hK i e hgo))
    · rw [cne hN] at h2
      have h2' : ¬ e ≠ 0 := by simpa using h2
      rw [if_neg h2'] at hgo
      cbv
      simp only [hsub]
      exact hn _ (Leads.nxt (i + 1, c') [1] ⟨hilt, hgo⟩ (by simp only; omega) ⟨⟨rfl, rfl, rfl, rfl, rfl, trivial⟩, rfl, Nat.le_of_ble_eq_true rfl⟩)
  · rw [clt hN] at h
    simp only [decide_eq_true_eq, decide_eq_false_iff_not, Int.ofNat_eq_natCast, gt_iff_lt, ge_iff_le, Bool.not_eq_true', Bool.not_eq_false', Int.not_lt, Int.not_le] at h
    have hie : i = len := by have : (len : Int) ≤ (i : Int) := h; omega
    have hdrop : l.drop i = [] := List.drop_eq_nil_of_le (by omega)
    rw [hdrop, hie, wholeGo] at hgo
    cbv
    refine op_ hN (call_ (done_spec c) hG [1] rfl rfl rfl rfl rfl ?_)
    intro b hb
    have hb2 : chkDone c = b := hb.symm
    rw [hb2] at hgo
    cases b with
    | true =>
      rw [if_pos rfl] at hgo
      cbv
      refine cond_F hN rfl ?_
      cbv
      exact hf _ _ (fin_ [] rfl rfl (hK len 0 hgo))
    | false =>
      rw [if_neg (by simp)] at hgo
      cbv
      refine cond_T hN rfl ?_
      cbv
      exact hf _ _ (fin_ [] rfl rfl (hK len 19 hgo))
theorem few_old (p : Bool) (lo len cap : Nat) (g : Nat) (hfits : len ≤ cap) :
    Triple (BB Ip GOk) 5 1 1 [.vec p 0 1 lo len cap] [.at_ 0 g] (fun K => ∀ m, m = min len 600 → K (.ret (.vec p 0 1 lo m cap)) [.at_ 0 g]) := by
  refine triple_of BB_ok (tb := ty) rfl (n0 := 1) (fun _ : Unit => _) pl5 Tryz.call5 Tryz.func5 rfl (by kernel_rfl) (Nat.le_of_ble_eq_true rfl) (by decide) rfl pre_none ?_
  rintro G hG K hK W bi bc bs bk bu bb bo bg bl bp bn be Ncond Nob Nop Nloop Nscope hN Nfin hf _ _
  cbv
  refine cond_ hN (fun h => ?_) (fun h => ?_)
  · rw [cgt hN] at h
    simp only [decide_eq_true_eq, decide_eq_false_iff_not, Int.ofNat_eq_natCast, gt_iff_lt, ge_iff_le, Bool.not_eq_true', Bool.not_eq_false', Int.not_lt, Int.not_le] at h
    have hgt : 600 < len := by have : (600 : Int) < (len : Int) := h; omega
    have hb1 : bo lo 0 cap = lo := by rw [bo_ hN]; simp [sloff]
    have hb2 : bg 600 0 = 600 := by rw [bg_ hN]; simp
    have hb3 : bl cap 0 = cap := by rw [bl_ hN]; simp
    cbv
    refine ob_ hN ⟨⟨by simp, by simp, by simp; omega⟩, trivial⟩ ?_
    cbv
    simp only [hb1, hb2, hb3]
    exact hf _ _ (fin_ [0] rfl rfl (hK 600 (by omega)))
  · rw [cgt hN] at h
    simp only [decide_eq_true_eq, decide_eq_false_iff_not, Int.ofNat_eq_natCast, gt_iff_lt, ge_iff_le, Bool.not_eq_true', Bool.not_eq_false', Int.not_lt, Int.not_le] at h
    have hle : len ≤ 600 := by have : (len : Int) ≤ 600 := h; omega
    cbv
    exact hf _ _ (fin_ [0] rfl rfl (hK len (by omega)))
end Hx
/- Contracts of the library: ValidString, CutPrefix, Cut, ToLower, TrimRight, Atoi, Itoa. -/
namespace Hx
open Go Sx Go.Proofs
set_option maxRecDepth 100000
set_option maxHeartbeats 4000000
set_option linter.unusedVariables false
set_option linter.unusedSimpArgs false
variable {GOk : Gl → Prop}
/-- the tables that the library reads, as the program's text lays them -/
structure TabsOk (w : World) : Prop where
  utf8 : Lib.Utf8Tabs 0 1 w
  max : ∃ m, w.cell? ⟨2, 0, none⟩ = some (.int .i64 m)
  err1 : ∃ ev, w.cell? ⟨4, 0, none⟩ = some ev ∧ (ev = .nilIface ∨ ∃ te pe, ev = .iface te pe)
  err2 : ∃ ev, w.cell? ⟨5, 0, none⟩ = some ev ∧ (ev = .nilIface ∨ ∃ te pe, ev = .iface te pe)
  pow : Lib.TabIs Tryz.prog w "internal/strconv.uint64pow10" .u64 Lib.pow10Tab
def GTab (GOk : Gl → Prop) : Prop := ∀ G, GOk G → ∀ w : World, (∀ b, b < G.base → w.heap[b]? = G.w0 b) → G.base ≤ w.heap.size → TabsOk w
variable {Pd : Type} {I : Pd → List Nat → HP}
theorem valid_string_spec (hT : GTab GOk) (s : ByteArray) (hs : s.size < 1099511627776) : Triple (BB I GOk) 52 0 0 [.str s] [] (fun K => ∀ b, b = Lib.validD s.data.toList → K (.ret (.bool b)) []) := by
  refine triple_lib (.ret (.bool (Lib.validD s.data.toList))) (fun K h => h _ rfl) Tryz.call52 fun G hG ρ w h1 h2 => (Tryz.utf8_ValidString s w (by omega) (hT G hG w h1 h2).utf8).mono ?_
  rintro e w' ⟨rfl, h⟩
  exact ⟨rfl, h.size, h.block, Prod.ext h.os h.output⟩
theorem cut_prefix_spec (s p : ByteArray) : Triple (BB I GOk) 38 0 0 [.str s, .str p] [] (fun K => ∀ (r : ByteArray) b, r.data.toList = Lib.trimPrefix s.data.toList p.data.toList → b = Lib.hasPrefix s.data.toList p.data.toList → K (.ret (.tuple [.str r, .bool b])) []) := by
  refine triple_lib (.ret (.tuple [.str ⟨(Lib.trimPrefix s.data.toList p.data.toList).toArray⟩, .bool (Lib.hasPrefix s.data.toList p.data.toList)])) (fun K h => h _ _ rfl rfl) Tryz.call38 fun G hG ρ w _ _ => (Tryz.strings_CutPrefix s p w).mono ?_
  rintro e w' ⟨rfl, rfl⟩
  exact ⟨rfl, Nat.le_refl _, fun _ _ => rfl, rfl⟩
theorem scut_spec (hT : GTab GOk) (s sep : ByteArray) (hs : s.size < 1000000) : Triple (BB I GOk) 39 0 0 [.str s, .str sep] [] (fun K => ∀ (a b : ByteArray) c, (a.data.toList, b.data.toList, c) = Lib.cut s.data.toList sep.data.toList → K (.ret (.tuple [.str a, .str b, .bool c])) []) := by
  refine triple_lib (.ret (.tuple [.str ⟨(Lib.cut s.data.toList sep.data.toList).1.toArray⟩, .str ⟨(Lib.cut s.data.toList sep.data.toList).2.1.toArray⟩, .bool (Lib.cut s.data.toList sep.data.toList).2.2])) (fun K h => h _ _ _ rfl) Tryz.call39 fun G hG ρ w h1 h2 => ?_
  obtain ⟨m, hm⟩ := (hT G hG w h1 h2).max
  refine (Tryz.strings_Cut s sep m w (by omega) hm).mono ?_
  rintro e w' ⟨rfl, n, rfl⟩
  have h := Lib.below_grow w.heap.size w (Nat.le_refl _) n #[]
  have h2 : (Go.Sort.grow (w.drewN n) #[]).heap = (w.drewN n).heap := by simp [Go.Sort.grow]
  have h3 : (Go.Sort.grow (w.drewN n) #[]).os = (w.drewN n).os := by simp [Go.Sort.grow]
  have h4 : (Go.Sort.grow (w.drewN n) #[]).output = (w.drewN n).output := by simp [Go.Sort.grow]
  exact ⟨rfl, h2 ▸ h.size, fun b hb => h2 ▸ h.block b hb, Prod.ext (h3.symm.trans h.os) (h4.symm.trans h.output)⟩
theorem to_lower_spec (s : ByteArray) (hs : s.size < 1000000) (ha : ∀ b ∈ s.data.toList, b.toNat < 128) : Triple (BB I GOk) 58 0 0 [.str s] [] (fun K => ∀ r : ByteArray, r.data.toList = Lib.toLowerA s.data.toList → K (.ret (.str r)) []) := by
  refine triple_lib (.ret (.str ⟨(Lib.toLowerA s.data.toList).toArray⟩)) (fun K h => h _ rfl) Tryz.call58 fun G hG ρ w _ _ => (Tryz.strings_ToLower_ascii s w (by omega) (fun j b hj => ha b (List.mem_of_getElem? hj))).mono ?_
  rintro e w' ⟨rfl, h⟩
  exact ⟨rfl, h.size, h.block, Prod.ext h.os h.output⟩
theorem trim_right0_spec (s : ByteArray) (hs : s.size < 1000000) : Triple (BB I GOk) 61 0 0 [.str s, .str ⟨#[48]⟩] [] (fun K => ∀ r : ByteArray, r.data.toList = Lib.trimRightB s.data.toList 48 → K (.ret (.str r)) []) := by
  refine triple_lib (.ret (.str ⟨(Lib.trimRightB s.data.toList 48).toArray⟩)) (fun K h => h _ rfl) Tryz.call61 fun G hG ρ w _ _ => (Tryz.strings_TrimRight_one s 48 (by decide) w (by omega)).mono ?_
  rintro e w' ⟨rfl, rfl⟩
  exact ⟨rfl, Nat.le_refl _, fun _ _ => rfl, rfl⟩
theorem trim_left0_spec (s : ByteArray) : Triple (BB I GOk) 60 0 0 [.str s, .str ⟨#[48]⟩] [] (fun K => ∀ r : ByteArray, r.data.toList = Lib.trimLeftB s.data.toList 48 → K (.ret (.str r)) []) := by
  refine triple_lib (.ret (.str ⟨(Lib.trimLeftB s.data.toList 48).toArray⟩)) (fun K h => h _ rfl) Tryz.call60 fun G hG ρ w _ _ => (Tryz.strings_TrimLeft_one s 48 (by decide) w).mono ?_
  rintro e w' ⟨rfl, rfl⟩
  exact ⟨rfl, Nat.le_refl _, fun _ _ => rfl, rfl⟩
theorem itoa_spec (hT : GTab GOk) (n : Int) (h0 : -1000 ≤ n) (h1 : n ≤ 1000) : Triple (BB I GOk) 51 0 0 [.int .i64 n] [] (fun K => ∀ r : ByteArray, r.data.toList = Lib.itoa n → K (.ret (.str r)) []) := by
  refine triple_lib (.ret (.str ⟨(Lib.itoa n).toArray⟩)) (fun K h => h _ rfl) Tryz.call51 fun G hG ρ w g1 g2 => (Tryz.strconv_Itoa n (by omega) (by omega) w (hT G hG w g1 g2).pow).mono ?_
  rintro e w' ⟨rfl, k, os, rfl⟩
  have h := Lib.below_grow w.heap.size w (Nat.le_refl _) k os
  exact ⟨rfl, h.size, h.block, Prod.ext h.os h.output⟩
def atoiV (l : List UInt8) : Option Int := match Lib.atoiAll l with
  | .ok v => some v
  | _ => none
theorem atoi_spec (hT : GTab GOk) (s : ByteArray) (hs : s.size < 1000000) : Triple (BB I GOk) 59 0 0 [.str s] [] (fun K => (∀ v, atoiV s.data.toList = some v → K (.ret (.tuple [.int .i64 v, .niliface])) []) ∧ (atoiV s.data.toList = none → ∀ n u, K (.ret (.tuple [.int .i64 n, .iface 165 (.raw u)])) [])) := by
  rcases h : Lib.atoiAll s.data.toList with v | _ | _
  · skip
    refine triple_lib (.ret (.tuple [.int .i64 v, .niliface])) (fun K hk => hk.1 v (by simp only [atoiV, h])) Tryz.call59 fun G hG ρ w g1 g2 => (Tryz.strconv_Atoi_ok s (by omega) v h w).mono ?_
    rintro e w' ⟨rfl, rfl | ⟨t, rfl⟩⟩
    · exact ⟨rfl, Nat.le_refl _, fun _ _ => rfl, rfl⟩
    · have h := Lib.bytesWorld_below w 5 t
      exact ⟨rfl, h.size, h.block, Prod.ext h.os h.output⟩
  · skip
    refine triple_libE (α := Int × Value) (fun x => .ret (.tuple [.int .i64 x.1, .iface 165 (.raw x.2)])) (fun _ => True) (fun K hk x _ => hk.2 (by simp only [atoiV, h]) x.1 x.2) Tryz.call59 fun G hG ρ w g1 g2 => ?_
    obtain ⟨ev, hv, hev⟩ := (hT G hG w g1 g2).err1
    have hc : Calls Tryz.prog 59 #[.string s] w fun e w' => ∃ N, e = .returned (.tuple #[.int .i64 (0), .iface 165 (.pointer (some ⟨N, 0, none⟩))]) ∧ w.heap.size ≤ N ∧ w'.heap[N]? = some (.cells #[.string ⟨#[65, 116, 111, 105]⟩, .string s, ev] 184 (0, 0)) ∧ Go.RowKit.Below w.heap.size w w' := Any.strconv_Atoi_syntax Tryz.laysC172 s (by omega) h ev w hv hev
    refine hc.mono ?_
    rintro e w' ⟨N, rfl, -, -, h⟩
    exact ⟨⟨(0, .pointer (some ⟨N, 0, none⟩)), trivial, rfl⟩, h.size, h.block, Prod.ext h.os h.output⟩
  · skip
    refine triple_libE (α := Int × Value) (fun x => .ret (.tuple [.int .i64 x.1, .iface 165 (.raw x.2)])) (fun _ => True) (fun K hk x _ => hk.2 (by simp only [atoiV, h]) x.1 x.2) Tryz.call59 fun G hG ρ w g1 g2 => ?_
    obtain ⟨ev, hv, hev⟩ := (hT G hG w g1 g2).err2
    refine (Tryz.strconv_Atoi_range s (by omega) h ev w hv hev).mono ?_
    rintro e w' ⟨N, rfl, -, -, h⟩
    exact ⟨⟨(Lib.atoiSat s.data.toList, .pointer (some ⟨N, 0, none⟩)), trivial, rfl⟩, h.size, h.block, Prod.ext h.os h.output⟩
end Hx
