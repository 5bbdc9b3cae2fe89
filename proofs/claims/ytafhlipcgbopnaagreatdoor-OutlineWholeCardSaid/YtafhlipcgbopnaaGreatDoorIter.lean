/-
  DERIVED: THE SHELF's CONTRACTS AT THIS DUMP, IN PLAIN WORDS (tools/lay-plain.mjs out of 'TryzItL.lean', which tools/lay-shelf.mjs wrote): THE SAME DECLARATIONS UNDER THE SAME NAMES: 'import', 'namespace', 'open', 'def', 'theorem' AND NOTHING ELSE: no command of the shelf's: FOR A HAND-IN. Each laying: the table of numbers ('.._ren') and one theorem, a field a fact of the dump's own or the kernel's comparison; each contract: ONE APPLICATION.
-/
import Derived.Shelf.SlIter.Nil
import Derived.Shelf.SortM.Plain
import Derived.Shelf.SortM.SortNone
import Derived.Ground.GgzProg
import Derived.Ground.SlgmProg
import Derived.Test.YtafhlipcgbopnaaGreatDoorProg
import Derived.Shelf.LaysM
import Derived.Shelf.LaysC
namespace Go.Proofs
open Go.RowKit Go.Maps Go.Sort Go.Shelf
def Tryz.keys185_ren : Go.Shelf.Ren := ⟨fun | 7 => 185 | 10 => 194 | n => n, fun | 23 => 68 | 26 => 9 | 3 => 231 | 28 => 245 | 0 => 0 | 27 => 244 | 33 => 77 | 4 => 4 | n => n, fun | n => n⟩
theorem Tryz.keys185 : Go.Proofs.SlLaysZ.n7 Tryz.prog Tryz.keys185_ren := {
  mixed := by kernel_rfl
  f7 := ⟨Tryz.f185.name, by decide, Tryz.func185.trans (congrArg some (by kernel_rfl))⟩
  f10 := ⟨Tryz.f194.name, by decide, Tryz.func194.trans (congrArg some (by kernel_rfl))⟩
  t0 := Tryz.underlying0
  a0 := Tryz.isAgg0
  z0 := Tryz.sizeOf0
  v0 := Tryz.zeroValue0
  t4 := Tryz.underlying4
  a4 := Tryz.isAgg4
  z4 := Tryz.sizeOf4
  v4 := Tryz.zeroValue4
  t23 := Tryz.underlying68
  a23 := Tryz.isAgg68
  z23 := Tryz.sizeOf68
  v23 := Tryz.zeroValue68
  t26 := Tryz.underlying9
  a26 := Tryz.isAgg9
  z26 := Tryz.sizeOf9
  v26 := Tryz.zeroValue9
  t27 := Tryz.underlying244
  a27 := Tryz.isAgg244
  z27 := Tryz.sizeOf244
  v27 := Tryz.zeroValue244
  t28 := Tryz.underlying245
  a28 := Tryz.isAgg245
  z28 := Tryz.sizeOf245
  v28 := Tryz.zeroValue245
  t33 := Tryz.underlying77
  a33 := Tryz.isAgg77
  z33 := Tryz.sizeOf77
  v33 := Tryz.zeroValue77 }
def Tryz.sorted184_ren : Go.Shelf.Ren := ⟨fun | 6 => 184 | 8 => 192 | 9 => 193 | 11 => 199 | 13 => 201 | 12 => 200 | 23 => 211 | 24 => 111 | 14 => 202 | 15 => 203 | 16 => 204 | 17 => 205 | 18 => 206 | 19 => 207 | 20 => 208 | 21 => 209 | 22 => 210 | 25 => 212 | 26 => 213 | 27 => 214 | 28 => 215 | 29 => 216 | 30 => 217 | 31 => 218 | n => n, fun | 26 => 9 | 28 => 245 | 24 => 242 | 0 => 0 | 3 => 3 | 37 => 119 | 48 => 140 | 50 => 139 | 4 => 4 | 40 => 265 | 39 => 264 | 45 => 215 | 5 => 5 | 9 => 9 | 51 => 270 | 55 => 274 | 57 => 276 | 58 => 277 | 33 => 77 | n => n, fun | n => n⟩
theorem Tryz.sorted184 : Go.Proofs.SlLaysZ.n6 Tryz.prog Tryz.sorted184_ren := {
  mixed := by kernel_rfl
  f6 := ⟨Tryz.f184.name, by decide, Tryz.func184.trans (congrArg some (by kernel_rfl))⟩
  f8 := ⟨Tryz.f192.name, by decide, Tryz.func192.trans (congrArg some (by kernel_rfl))⟩
  f11 := ⟨Tryz.f199.name, by decide, Tryz.func199.trans (congrArg some (by kernel_rfl))⟩
  t0 := Tryz.underlying0
  a0 := Tryz.isAgg0
  z0 := Tryz.sizeOf0
  v0 := Tryz.zeroValue0
  t24 := Tryz.underlying242
  a24 := Tryz.isAgg242
  z24 := Tryz.sizeOf242
  v24 := Tryz.zeroValue242
  t26 := Tryz.underlying9
  a26 := Tryz.isAgg9
  z26 := Tryz.sizeOf9
  v26 := Tryz.zeroValue9
  t28 := Tryz.underlying245
  a28 := Tryz.isAgg245
  z28 := Tryz.sizeOf245
  v28 := Tryz.zeroValue245
  i26 := by kernel_rfl }
def Tryz.sort193_ren : Go.Shelf.Ren := ⟨fun | 6 => 193 | 8 => 201 | 9 => 200 | 19 => 211 | 20 => 111 | 21 => 202 | 22 => 203 | 23 => 204 | 24 => 205 | 25 => 206 | 26 => 207 | 27 => 208 | 28 => 209 | 29 => 210 | 36 => 212 | 31 => 213 | 32 => 214 | 37 => 215 | 38 => 216 | 39 => 217 | 41 => 218 | n => n, fun | 27 => 242 | 29 => 9 | 3 => 3 | 32 => 119 | 26 => 242 | 0 => 0 | 44 => 140 | 46 => 139 | 4 => 4 | 36 => 265 | 35 => 264 | 41 => 215 | 5 => 5 | 9 => 9 | 53 => 270 | 57 => 274 | 63 => 276 | 64 => 277 | n => n, fun | n => n⟩
theorem Tryz.sort193 : Go.Proofs.SlLaysM.n6 Tryz.prog Tryz.sort193_ren := {
  mixed := by kernel_rfl
  f6 := ⟨Tryz.f193.name, by decide, Tryz.func193.trans (congrArg some (by kernel_rfl))⟩
  f8 := Tryz.func201.trans (congrArg some (by kernel_rfl))
  f9 := ⟨Tryz.f200.name, by decide, Tryz.func200.trans (congrArg some (by kernel_rfl))⟩
  f19 := Tryz.func211.trans (congrArg some (by kernel_rfl))
  f20 := Tryz.func111.trans (congrArg some (by kernel_rfl))
  f21 := ⟨Tryz.f202.name, by decide, Tryz.func202.trans (congrArg some (by kernel_rfl))⟩
  f22 := ⟨Tryz.f203.name, by decide, Tryz.func203.trans (congrArg some (by kernel_rfl))⟩
  f23 := ⟨Tryz.f204.name, by decide, Tryz.func204.trans (congrArg some (by kernel_rfl))⟩
  f24 := ⟨Tryz.f205.name, by decide, Tryz.func205.trans (congrArg some (by kernel_rfl))⟩
  f25 := ⟨Tryz.f206.name, by decide, Tryz.func206.trans (congrArg some (by kernel_rfl))⟩
  f26 := ⟨Tryz.f207.name, by decide, Tryz.func207.trans (congrArg some (by kernel_rfl))⟩
  f27 := ⟨Tryz.f208.name, by decide, Tryz.func208.trans (congrArg some (by kernel_rfl))⟩
  f28 := ⟨Tryz.f209.name, by decide, Tryz.func209.trans (congrArg some (by kernel_rfl))⟩
  f29 := ⟨Tryz.f210.name, by decide, Tryz.func210.trans (congrArg some (by kernel_rfl))⟩
  f31 := Tryz.func213.trans (congrArg some (by kernel_rfl))
  f32 := Tryz.func214.trans (congrArg some (by kernel_rfl))
  f36 := ⟨Tryz.f212.name, by decide, Tryz.func212.trans (congrArg some (by kernel_rfl))⟩
  f37 := ⟨Tryz.f215.name, by decide, Tryz.func215.trans (congrArg some (by kernel_rfl))⟩
  f38 := ⟨Tryz.f216.name, by decide, Tryz.func216.trans (congrArg some (by kernel_rfl))⟩
  f39 := ⟨Tryz.f217.name, by decide, Tryz.func217.trans (congrArg some (by kernel_rfl))⟩
  f41 := ⟨Tryz.f218.name, by decide, Tryz.func218.trans (congrArg some (by kernel_rfl))⟩
  t0 := Tryz.underlying0
  a0 := Tryz.isAgg0
  z0 := Tryz.sizeOf0
  v0 := Tryz.zeroValue0
  t3 := Tryz.underlying3
  a3 := Tryz.isAgg3
  z3 := Tryz.sizeOf3
  v3 := Tryz.zeroValue3
  t4 := Tryz.underlying4
  a4 := Tryz.isAgg4
  z4 := Tryz.sizeOf4
  v4 := Tryz.zeroValue4
  t5 := Tryz.underlying5
  a5 := Tryz.isAgg5
  z5 := Tryz.sizeOf5
  v5 := Tryz.zeroValue5
  t9 := Tryz.underlying9
  a9 := Tryz.isAgg9
  z9 := Tryz.sizeOf9
  v9 := Tryz.zeroValue9
  t26 := Tryz.underlying242
  a26 := Tryz.isAgg242
  z26 := Tryz.sizeOf242
  v26 := Tryz.zeroValue242
  t27 := Tryz.underlying242
  a27 := Tryz.isAgg242
  z27 := Tryz.sizeOf242
  v27 := Tryz.zeroValue242
  t29 := Tryz.underlying9
  a29 := Tryz.isAgg9
  z29 := Tryz.sizeOf9
  v29 := Tryz.zeroValue9
  t32 := Tryz.underlying119
  a32 := Tryz.isAgg119
  z32 := Tryz.sizeOf119
  v32 := Tryz.zeroValue119
  t35 := Tryz.underlying264
  a35 := Tryz.isAgg264
  z35 := Tryz.sizeOf264
  v35 := Tryz.zeroValue264
  t36 := Tryz.underlying265
  a36 := Tryz.isAgg265
  z36 := Tryz.sizeOf265
  v36 := Tryz.zeroValue265
  t41 := Tryz.underlying215
  a41 := Tryz.isAgg215
  z41 := Tryz.sizeOf215
  v41 := Tryz.zeroValue215
  t44 := Tryz.underlying140
  a44 := Tryz.isAgg140
  z44 := Tryz.sizeOf140
  v44 := Tryz.zeroValue140
  t46 := Tryz.underlying139
  a46 := Tryz.isAgg139
  z46 := Tryz.sizeOf139
  v46 := Tryz.zeroValue139
  t53 := Tryz.underlying270
  a53 := Tryz.isAgg270
  z53 := Tryz.sizeOf270
  v53 := Tryz.zeroValue270
  t57 := Tryz.underlying274
  a57 := Tryz.isAgg274
  z57 := Tryz.sizeOf274
  v57 := Tryz.zeroValue274
  t63 := Tryz.underlying276
  a63 := Tryz.isAgg276
  z63 := Tryz.sizeOf276
  v63 := Tryz.zeroValue276
  t64 := Tryz.underlying277
  a64 := Tryz.isAgg277
  z64 := Tryz.sizeOf277
  v64 := Tryz.zeroValue277 }
/-- slices.Sort's two contracts at this dump, at the fence that asks nothing. -/
theorem Tryz.sorts184 (m : Nat) : AnyZ.SortsIn Tryz.prog Tryz.sorted184_ren Fence.wide m :=
  ⟨fun blk off cap ss W hH hblk hsz => callsIn_wide.2 (AnyM.slices_Sort_string Tryz.sort193 blk off cap ss W hH hblk hsz),
   fun p cap W => callsIn_wide.2 (AnyM.slices_Sort_string_none Tryz.sort193 p cap W)⟩

/-- **maps.Keys[map[string]*hexapla/anchors.kept,string,*hexapla/anchors.kept], at whatever map, the nil one too:** a function value over ONE NEW BLOCK, which holds the map. -/
theorem Tryz.maps_Keys_185 (mb : Option Nat) (W : World) : CallsIn Fence.wide 5 Tryz.prog 185 #[.map mb] W fun e w' => e = .returned (.func (.func 194) #[] #[.pointer (some ⟨W.heap.size, 0, none⟩)]) ∧ w' = W.alloc (.cells #[.map mb] 68) :=
  AnyZ.keys_in Tryz.keys185 Fence.wide 5 trivial rfl mb W

set_option maxHeartbeats 1000000 in
/-- **slices.Sorted[string] AT WHAT maps.Keys[map[string]*hexapla/anchors.kept,string,*hexapla/anchors.kept] HANDED BACK FOR A MAP THAT IS NOT nil** ('w': the world AHEAD of maps.Keys' call): A NEW SLICE THAT HOLDS THE MAP's KEYS, SORTED; nil just where it has none; nothing that lay before has turned. -/
theorem Tryz.slices_Sorted_keys_184_185 {H : Type} (b nn : Nat) (D0 : DataW H) (R : Value → Option (DataW H × List MemPlace)) (w : World) (hown : w.ownsMap Tryz.prog 9 R b nn D0) (hmax : Maps.size D0 ≤ maxLen) (hbytes : Maps.size D0 * 16 ≤ 140737488355328) :
    CallsIn Fence.wide 5 Tryz.prog 184 #[.func (.func 194) #[] #[.pointer (some ⟨w.heap.size, 0, none⟩)]] (w.alloc (.cells #[.map (some b)] 68)) fun e w' => ∃ (v : Value) (ss : List (List UInt8)), e = .returned v ∧ ss.Perm (strKeys D0) ∧
      w'.ownsRow (w.alloc (.cells #[.map (some b)] 68)).heap.size 9 1 v ss.length ((ss.mergeSort (fun x y => decide (x ≤ y))).map encStr) ∧ (v = .slice none 0 0 ↔ ss = []) ∧ Below (w.alloc (.cells #[.map (some b)] 68)).heap.size (w.alloc (.cells #[.map (some b)] 68)) w' := by
  have hbl := hown.lt
  have hseq : SeqGives Fence.wide 2 Tryz.prog 194 #[.pointer (some ⟨w.heap.size, 0, none⟩)] encStr (fun ss => ss.Perm (strKeys D0)) (Maps.size D0) (w.alloc (.cells #[.map (some b)] 68)) :=
    AnyZ.keys_gives (ρ := Tryz.keys185_ren) { Tryz.keys185 with } Fence.wide _ trivial rfl (by omega) w.heap.size b nn D0 _ (by simp) (by simp) (by
      obtain ⟨es, clock, hb, Ft, hs, hD⟩ := hown
      exact ⟨es, clock, (Below.heap_alloc _ _ b hbl).trans hb, Ft, hs, hD⟩)
  exact AnyZ.sorted_in Tryz.sorted184 Fence.wide 5 trivial trivial trivial trivial rfl (by omega) (Tryz.sorts184 _) (enters_of Tryz.func193 (by kernel_rfl) rfl) 194 #[.pointer (some ⟨w.heap.size, 0, none⟩)] trivial (enters_of Tryz.func194 (by kernel_rfl) rfl) _ _ hmax hbytes _ hseq

set_option maxHeartbeats 1000000 in
/-- **.. AND FOR THE nil MAP: nil.** -/
theorem Tryz.slices_Sorted_keys_nil_184_185 (w : World) :
    CallsIn Fence.wide 5 Tryz.prog 184 #[.func (.func 194) #[] #[.pointer (some ⟨w.heap.size, 0, none⟩)]] (w.alloc (.cells #[.map none] 68)) fun e w' => ∃ (v : Value) (ss : List (List UInt8)), e = .returned v ∧ ss = [] ∧
      w'.ownsRow (w.alloc (.cells #[.map none] 68)).heap.size 9 1 v ss.length ((ss.mergeSort (fun x y => decide (x ≤ y))).map encStr) ∧ (v = .slice none 0 0 ↔ ss = []) ∧ Below (w.alloc (.cells #[.map none] 68)).heap.size (w.alloc (.cells #[.map none] 68)) w' := by
  have hseq : SeqGives Fence.wide 2 Tryz.prog 194 #[.pointer (some ⟨w.heap.size, 0, none⟩)] encStr (fun ss : List (List UInt8) => ss = []) 0 (w.alloc (.cells #[.map none] 68)) :=
    AnyZ.keys_gives_nil (ρ := Tryz.keys185_ren) { Tryz.keys185 with } Fence.wide _ trivial rfl w.heap.size _ (by simp) (by simp)
  exact AnyZ.sorted_in Tryz.sorted184 Fence.wide 5 trivial trivial trivial trivial rfl (by omega) (Tryz.sorts184 _) (enters_of Tryz.func193 (by kernel_rfl) rfl) 194 #[.pointer (some ⟨w.heap.size, 0, none⟩)] trivial (enters_of Tryz.func194 (by kernel_rfl) rfl) _ 0 (Nat.zero_le _) (by omega) _ hseq

-- THE CALLER's WALK over 'slices.Sorted(maps.Keys(m))' (inside '(callsIn_wide (n := 6)).1'; 'have hfK : Fence.wide.fn 185 := trivial', 'have hfS : Fence.wide.fn 184 := trivial' ahead): THE TWO ARMS TO PASTE:
--   gi_wp2_with (first
--     | (gi_at_call 185; refine (Tryz.maps_Keys_185 _ _).mono ?_; rintro e w' ⟨rfl, rfl⟩)
--     | (gi_at_call 184; refine (Tryz.slices_Sorted_keys_184_185 b nn D0 R w hown hmax hbytes).mono ?_; rintro e w' ⟨v, ss, rfl, hS, hrow, hnil, hb⟩))


end Go.Proofs
