/-
  Part of a proof.
-/
import Derived.Test.YtafhlipcgbopnaaGreatDoorW16
import Derived.Test.YtafhlipcgbopnaaGreatDoorW03
import Derived.Test.YtafhlipcgbopnaaGreatDoorShelf
import Derived.Lib.AppendIntMem
import Derived.Lib.AtoiErrMem
set_option linter.unusedVariables false
set_option linter.unusedSimpArgs false
/- Contracts of the library: ValidString, CutPrefix, Cut, ToLower, TrimRight, Atoi, Itoa. -/
namespace Hx
open Go Sx Go.Proofs
set_option maxRecDepth 100000
set_option maxHeartbeats 4000000
set_option linter.unusedVariables false
set_option linter.unusedSimpArgs false
variable {GOk : Gl → Prop}
/-- the tables that the library reads, as the program's text lays them -/
structure TabsOk (w : World) : Prop where
  utf8 : Lib.Utf8Tabs 0 1 w
  max : ∃ m, w.cell? ⟨2, 0, none⟩ = some (.int .i64 m)
  err1 : ∃ ev, w.cell? ⟨4, 0, none⟩ = some ev ∧ (ev = .nilIface ∨ ∃ te pe, ev = .iface te pe)
  err2 : ∃ ev, w.cell? ⟨5, 0, none⟩ = some ev ∧ (ev = .nilIface ∨ ∃ te pe, ev = .iface te pe)
  pow : Lib.TabIs Tryz.prog w "internal/strconv.uint64pow10" .u64 Lib.pow10Tab
def GTab (GOk : Gl → Prop) : Prop := ∀ G, GOk G → ∀ w : World, (∀ b, b < G.base → w.heap[b]? = G.w0 b) → G.base ≤ w.heap.size → TabsOk w
variable {Pd : Type} {I : Pd → List Nat → HP}
theorem valid_string_spec (hT : GTab GOk) (s : ByteArray) (hs : s.size < 1099511627776) : Triple (BB I GOk) 46 0 0 [.str s] [] (fun K => ∀ b, b = Lib.validD s.data.toList → K (.ret (.bool b)) []) := by
  refine triple_lib (.ret (.bool (Lib.validD s.data.toList))) (fun K h => h _ rfl) Tryz.call46 fun G hG ρ w h1 h2 => (Tryz.utf8_ValidString s w (by omega) (hT G hG w h1 h2).utf8).mono ?_
  rintro e w' ⟨rfl, h⟩
  exact ⟨rfl, h.size, h.block, Prod.ext h.os h.output⟩
theorem cut_prefix_spec (s p : ByteArray) : Triple (BB I GOk) 32 0 0 [.str s, .str p] [] (fun K => ∀ (r : ByteArray) b, r.data.toList = Lib.trimPrefix s.data.toList p.data.toList → b = Lib.hasPrefix s.data.toList p.data.toList → K (.ret (.tuple [.str r, .bool b])) []) := by
  refine triple_lib (.ret (.tuple [.str ⟨(Lib.trimPrefix s.data.toList p.data.toList).toArray⟩, .bool (Lib.hasPrefix s.data.toList p.data.toList)])) (fun K h => h _ _ rfl rfl) Tryz.call32 fun G hG ρ w _ _ => (Tryz.strings_CutPrefix s p w).mono ?_
  rintro e w' ⟨rfl, rfl⟩
  exact ⟨rfl, Nat.le_refl _, fun _ _ => rfl, rfl⟩
theorem scut_spec (hT : GTab GOk) (s sep : ByteArray) (hs : s.size < 1000000) : Triple (BB I GOk) 33 0 0 [.str s, .str sep] [] (fun K => ∀ (a b : ByteArray) c, (a.data.toList, b.data.toList, c) = Lib.cut s.data.toList sep.data.toList → K (.ret (.tuple [.str a, .str b, .bool c])) []) := by
  refine triple_lib (.ret (.tuple [.str ⟨(Lib.cut s.data.toList sep.data.toList).1.toArray⟩, .str ⟨(Lib.cut s.data.toList sep.data.toList).2.1.toArray⟩, .bool (Lib.cut s.data.toList sep.data.toList).2.2])) (fun K h => h _ _ _ rfl) Tryz.call33 fun G hG ρ w h1 h2 => ?_
  obtain ⟨m, hm⟩ := (hT G hG w h1 h2).max
  refine (Tryz.strings_Cut s sep m w (by omega) hm).mono ?_
  rintro e w' ⟨rfl, n, rfl⟩
  have h := Lib.below_grow w.heap.size w (Nat.le_refl _) n #[]
  have h2 : (Go.Sort.grow (w.drewN n) #[]).heap = (w.drewN n).heap := by simp [Go.Sort.grow]
  have h3 : (Go.Sort.grow (w.drewN n) #[]).os = (w.drewN n).os := by simp [Go.Sort.grow]
  have h4 : (Go.Sort.grow (w.drewN n) #[]).output = (w.drewN n).output := by simp [Go.Sort.grow]
  exact ⟨rfl, h2 ▸ h.size, fun b hb => h2 ▸ h.block b hb, Prod.ext (h3.symm.trans h.os) (h4.symm.trans h.output)⟩
theorem to_lower_spec (s : ByteArray) (hs : s.size < 1000000) (ha : ∀ b ∈ s.data.toList, b.toNat < 128) : Triple (BB I GOk) 52 0 0 [.str s] [] (fun K => ∀ r : ByteArray, r.data.toList = Lib.toLowerA s.data.toList → K (.ret (.str r)) []) := by
  refine triple_lib (.ret (.str ⟨(Lib.toLowerA s.data.toList).toArray⟩)) (fun K h => h _ rfl) Tryz.call52 fun G hG ρ w _ _ => (Tryz.strings_ToLower_ascii s w (by omega) (fun j b hj => ha b (List.mem_of_getElem? hj))).mono ?_
  rintro e w' ⟨rfl, h⟩
  exact ⟨rfl, h.size, h.block, Prod.ext h.os h.output⟩
theorem trim_right0_spec (s : ByteArray) (hs : s.size < 1000000) : Triple (BB I GOk) 55 0 0 [.str s, .str ⟨#[48]⟩] [] (fun K => ∀ r : ByteArray, r.data.toList = Lib.trimRightB s.data.toList 48 → K (.ret (.str r)) []) := by
  refine triple_lib (.ret (.str ⟨(Lib.trimRightB s.data.toList 48).toArray⟩)) (fun K h => h _ rfl) Tryz.call55 fun G hG ρ w _ _ => (Tryz.strings_TrimRight_one s 48 (by decide) w (by omega)).mono ?_
  rintro e w' ⟨rfl, rfl⟩
  exact ⟨rfl, Nat.le_refl _, fun _ _ => rfl, rfl⟩
theorem trim_left0_spec (s : ByteArray) : Triple (BB I GOk) 54 0 0 [.str s, .str ⟨#[48]⟩] [] (fun K => ∀ r : ByteArray, r.data.toList = Lib.trimLeftB s.data.toList 48 → K (.ret (.str r)) []) := by
  refine triple_lib (.ret (.str ⟨(Lib.trimLeftB s.data.toList 48).toArray⟩)) (fun K h => h _ rfl) Tryz.call54 fun G hG ρ w _ _ => (Tryz.strings_TrimLeft_one s 48 (by decide) w).mono ?_
  rintro e w' ⟨rfl, rfl⟩
  exact ⟨rfl, Nat.le_refl _, fun _ _ => rfl, rfl⟩
theorem itoa_spec (hT : GTab GOk) (n : Int) (h0 : -1000 ≤ n) (h1 : n ≤ 1000) : Triple (BB I GOk) 45 0 0 [.int .i64 n] [] (fun K => ∀ r : ByteArray, r.data.toList = Lib.itoa n → K (.ret (.str r)) []) := by
  refine triple_lib (.ret (.str ⟨(Lib.itoa n).toArray⟩)) (fun K h => h _ rfl) Tryz.call45 fun G hG ρ w g1 g2 => (Tryz.strconv_Itoa n (by omega) (by omega) w (hT G hG w g1 g2).pow).mono ?_
  rintro e w' ⟨rfl, k, os, rfl⟩
  have h := Lib.below_grow w.heap.size w (Nat.le_refl _) k os
  exact ⟨rfl, h.size, h.block, Prod.ext h.os h.output⟩
def atoiV (l : List UInt8) : Option Int := match Lib.atoiAll l with
  | .ok v => some v
  | _ => none
theorem atoi_spec (hT : GTab GOk) (s : ByteArray) (hs : s.size < 1000000) : Triple (BB I GOk) 53 0 0 [.str s] [] (fun K => (∀ v, atoiV s.data.toList = some v → K (.ret (.tuple [.int .i64 v, .niliface])) []) ∧ (atoiV s.data.toList = none → ∀ n u, K (.ret (.tuple [.int .i64 n, .iface 152 (.raw u)])) [])) := by
  rcases h : Lib.atoiAll s.data.toList with v | _ | _
  · skip
    refine triple_lib (.ret (.tuple [.int .i64 v, .niliface])) (fun K hk => hk.1 v (by simp only [atoiV, h])) Tryz.call53 fun G hG ρ w g1 g2 => (Tryz.strconv_Atoi_ok s (by omega) v h w).mono ?_
    rintro e w' ⟨rfl, rfl | ⟨t, rfl⟩⟩
    · exact ⟨rfl, Nat.le_refl _, fun _ _ => rfl, rfl⟩
    · have h := Lib.bytesWorld_below w 5 t
      exact ⟨rfl, h.size, h.block, Prod.ext h.os h.output⟩
  · skip
    refine triple_libE (α := Int × Value) (fun x => .ret (.tuple [.int .i64 x.1, .iface 152 (.raw x.2)])) (fun _ => True) (fun K hk x _ => hk.2 (by simp only [atoiV, h]) x.1 x.2) Tryz.call53 fun G hG ρ w g1 g2 => ?_
    obtain ⟨ev, hv, hev⟩ := (hT G hG w g1 g2).err1
    have hc : Calls Tryz.prog 53 #[.string s] w fun e w' => ∃ N, e = .returned (.tuple #[.int .i64 (0), .iface 152 (.pointer (some ⟨N, 0, none⟩))]) ∧ w.heap.size ≤ N ∧ w'.heap[N]? = some (.cells #[.string ⟨#[65, 116, 111, 105]⟩, .string s, ev] 171 (0, 0)) ∧ Go.RowKit.Below w.heap.size w w' := Any.strconv_Atoi_syntax Tryz.laysC172 s (by omega) h ev w hv hev
    refine hc.mono ?_
    rintro e w' ⟨N, rfl, -, -, h⟩
    exact ⟨⟨(0, .pointer (some ⟨N, 0, none⟩)), trivial, rfl⟩, h.size, h.block, Prod.ext h.os h.output⟩
  · skip
    refine triple_libE (α := Int × Value) (fun x => .ret (.tuple [.int .i64 x.1, .iface 152 (.raw x.2)])) (fun _ => True) (fun K hk x _ => hk.2 (by simp only [atoiV, h]) x.1 x.2) Tryz.call53 fun G hG ρ w g1 g2 => ?_
    obtain ⟨ev, hv, hev⟩ := (hT G hG w g1 g2).err2
    refine (Tryz.strconv_Atoi_range s (by omega) h ev w hv hev).mono ?_
    rintro e w' ⟨N, rfl, -, -, h⟩
    exact ⟨⟨(Lib.atoiSat s.data.toList, .pointer (some ⟨N, 0, none⟩)), trivial, rfl⟩, h.size, h.block, Prod.ext h.os h.output⟩
end Hx
