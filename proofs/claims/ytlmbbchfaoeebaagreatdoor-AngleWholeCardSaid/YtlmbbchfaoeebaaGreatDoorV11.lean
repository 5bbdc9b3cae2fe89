/-
  Part of a proof.
-/
import Derived.Test.YtlmbbchfaoeebaaGreatDoorV10
import Derived.Test.YtlmbbchfaoeebaaGreatDoorV03
import Derived.Test.YtlmbbchfaoeebaaGreatDoorShelf
import Derived.Lib.AppendIntMem
import Derived.Lib.AtoiErrMem
import Derived.Lib.TrimU
import Derived.Test.YtlmbbchfaoeebaaGreatDoorV08
set_option linter.unusedVariables false
set_option linter.unusedSimpArgs false
/- Contracts of the library: ValidString, CutPrefix, Cut, ToLower, TrimRight, Atoi, Itoa. -/
namespace Hx
open Go Sx Go.Proofs
set_option maxRecDepth 100000
set_option maxHeartbeats 4000000
set_option linter.unusedVariables false
set_option linter.unusedSimpArgs false
variable {GOk : Gl → Prop}
/-- the tables that the library reads, as the program's text lays them -/
structure TabsOk (w : World) : Prop where
  utf8 : Lib.Utf8Tabs 0 1 w
  max : ∃ m, w.cell? ⟨2, 0, none⟩ = some (.int .i64 m)
  err1 : ∃ ev, w.cell? ⟨4, 0, none⟩ = some ev ∧ (ev = .nilIface ∨ ∃ te pe, ev = .iface te pe)
  err2 : ∃ ev, w.cell? ⟨5, 0, none⟩ = some ev ∧ (ev = .nilIface ∨ ∃ te pe, ev = .iface te pe)
  pow : Lib.TabIs Tryz.prog w "internal/strconv.uint64pow10" .u64 Lib.pow10Tab
def GTab (GOk : Gl → Prop) : Prop := ∀ G, GOk G → ∀ w : World, (∀ b, b < G.base → w.heap[b]? = G.w0 b) → G.base ≤ w.heap.size → TabsOk w
variable {Pd : Type} {I : Pd → List Nat → HP}
theorem valid_string_spec (hT : GTab GOk) (s : ByteArray) (hs : s.size < 1099511627776) : Triple (BB I GOk) 52 0 0 [.str s] [] (fun K => ∀ b, b = Lib.validD s.data.toList → K (.ret (.bool b)) []) := by
  refine triple_lib (.ret (.bool (Lib.validD s.data.toList))) (fun K h => h _ rfl) Tryz.call52 fun G hG ρ w h1 h2 => (Tryz.utf8_ValidString s w (by omega) (hT G hG w h1 h2).utf8).mono ?_
  rintro e w' ⟨rfl, h⟩
  exact ⟨rfl, h.size, h.block, Prod.ext h.os h.output⟩
theorem cut_prefix_spec (s p : ByteArray) : Triple (BB I GOk) 38 0 0 [.str s, .str p] [] (fun K => ∀ (r : ByteArray) b, r.data.toList = Lib.trimPrefix s.data.toList p.data.toList → b = Lib.hasPrefix s.data.toList p.data.toList → K (.ret (.tuple [.str r, .bool b])) []) := by
  refine triple_lib (.ret (.tuple [.str ⟨(Lib.trimPrefix s.data.toList p.data.toList).toArray⟩, .bool (Lib.hasPrefix s.data.toList p.data.toList)])) (fun K h => h _ _ rfl rfl) Tryz.call38 fun G hG ρ w _ _ => (Tryz.strings_CutPrefix s p w).mono ?_
  rintro e w' ⟨rfl, rfl⟩
  exact ⟨rfl, Nat.le_refl _, fun _ _ => rfl, rfl⟩
theorem scut_spec (hT : GTab GOk) (s sep : ByteArray) (hs : s.size < 1000000) : Triple (BB I GOk) 39 0 0 [.str s, .str sep] [] (fun K => ∀ (a b : ByteArray) c, (a.data.toList, b.data.toList, c) = Lib.cut s.data.toList sep.data.toList → K (.ret (.tuple [.str a, .str b, .bool c])) []) := by
  refine triple_lib (.ret (.tuple [.str ⟨(Lib.cut s.data.toList sep.data.toList).1.toArray⟩, .str ⟨(Lib.cut s.data.toList sep.data.toList).2.1.toArray⟩, .bool (Lib.cut s.data.toList sep.data.toList).2.2])) (fun K h => h _ _ _ rfl) Tryz.call39 fun G hG ρ w h1 h2 => ?_
  obtain ⟨m, hm⟩ := (hT G hG w h1 h2).max
  refine (Tryz.strings_Cut s sep m w (by omega) hm).mono ?_
  rintro e w' ⟨rfl, n, rfl⟩
  have h := Lib.below_grow w.heap.size w (Nat.le_refl _) n #[]
  have h2 : (Go.Sort.grow (w.drewN n) #[]).heap = (w.drewN n).heap := by simp [Go.Sort.grow]
  have h3 : (Go.Sort.grow (w.drewN n) #[]).os = (w.drewN n).os := by simp [Go.Sort.grow]
  have h4 : (Go.Sort.grow (w.drewN n) #[]).output = (w.drewN n).output := by simp [Go.Sort.grow]
  exact ⟨rfl, h2 ▸ h.size, fun b hb => h2 ▸ h.block b hb, Prod.ext (h3.symm.trans h.os) (h4.symm.trans h.output)⟩
theorem to_lower_spec (s : ByteArray) (hs : s.size < 1000000) (ha : ∀ b ∈ s.data.toList, b.toNat < 128) : Triple (BB I GOk) 58 0 0 [.str s] [] (fun K => ∀ r : ByteArray, r.data.toList = Lib.toLowerA s.data.toList → K (.ret (.str r)) []) := by
  refine triple_lib (.ret (.str ⟨(Lib.toLowerA s.data.toList).toArray⟩)) (fun K h => h _ rfl) Tryz.call58 fun G hG ρ w _ _ => (Tryz.strings_ToLower_ascii s w (by omega) (fun j b hj => ha b (List.mem_of_getElem? hj))).mono ?_
  rintro e w' ⟨rfl, h⟩
  exact ⟨rfl, h.size, h.block, Prod.ext h.os h.output⟩
theorem trim_right0_spec (s : ByteArray) (hs : s.size < 1000000) : Triple (BB I GOk) 61 0 0 [.str s, .str ⟨#[48]⟩] [] (fun K => ∀ r : ByteArray, r.data.toList = Lib.trimRightB s.data.toList 48 → K (.ret (.str r)) []) := by
  refine triple_lib (.ret (.str ⟨(Lib.trimRightB s.data.toList 48).toArray⟩)) (fun K h => h _ rfl) Tryz.call61 fun G hG ρ w _ _ => (Tryz.strings_TrimRight_one s 48 (by decide) w (by omega)).mono ?_
  rintro e w' ⟨rfl, rfl⟩
  exact ⟨rfl, Nat.le_refl _, fun _ _ => rfl, rfl⟩
theorem trim_left0_spec (s : ByteArray) : Triple (BB I GOk) 60 0 0 [.str s, .str ⟨#[48]⟩] [] (fun K => ∀ r : ByteArray, r.data.toList = Lib.trimLeftB s.data.toList 48 → K (.ret (.str r)) []) := by
  refine triple_lib (.ret (.str ⟨(Lib.trimLeftB s.data.toList 48).toArray⟩)) (fun K h => h _ rfl) Tryz.call60 fun G hG ρ w _ _ => (Tryz.strings_TrimLeft_one s 48 (by decide) w).mono ?_
  rintro e w' ⟨rfl, rfl⟩
  exact ⟨rfl, Nat.le_refl _, fun _ _ => rfl, rfl⟩
theorem itoa_spec (hT : GTab GOk) (n : Int) (h0 : -1000 ≤ n) (h1 : n ≤ 1000) : Triple (BB I GOk) 51 0 0 [.int .i64 n] [] (fun K => ∀ r : ByteArray, r.data.toList = Lib.itoa n → K (.ret (.str r)) []) := by
  refine triple_lib (.ret (.str ⟨(Lib.itoa n).toArray⟩)) (fun K h => h _ rfl) Tryz.call51 fun G hG ρ w g1 g2 => (Tryz.strconv_Itoa n (by omega) (by omega) w (hT G hG w g1 g2).pow).mono ?_
  rintro e w' ⟨rfl, k, os, rfl⟩
  have h := Lib.below_grow w.heap.size w (Nat.le_refl _) k os
  exact ⟨rfl, h.size, h.block, Prod.ext h.os h.output⟩
def atoiV (l : List UInt8) : Option Int := match Lib.atoiAll l with
  | .ok v => some v
  | _ => none
theorem atoi_spec (hT : GTab GOk) (s : ByteArray) (hs : s.size < 1000000) : Triple (BB I GOk) 59 0 0 [.str s] [] (fun K => (∀ v, atoiV s.data.toList = some v → K (.ret (.tuple [.int .i64 v, .niliface])) []) ∧ (atoiV s.data.toList = none → ∀ n u, K (.ret (.tuple [.int .i64 n, .iface 165 (.raw u)])) [])) := by
  rcases h : Lib.atoiAll s.data.toList with v | _ | _
  · skip
    refine triple_lib (.ret (.tuple [.int .i64 v, .niliface])) (fun K hk => hk.1 v (by simp only [atoiV, h])) Tryz.call59 fun G hG ρ w g1 g2 => (Tryz.strconv_Atoi_ok s (by omega) v h w).mono ?_
    rintro e w' ⟨rfl, rfl | ⟨t, rfl⟩⟩
    · exact ⟨rfl, Nat.le_refl _, fun _ _ => rfl, rfl⟩
    · have h := Lib.bytesWorld_below w 5 t
      exact ⟨rfl, h.size, h.block, Prod.ext h.os h.output⟩
  · skip
    refine triple_libE (α := Int × Value) (fun x => .ret (.tuple [.int .i64 x.1, .iface 165 (.raw x.2)])) (fun _ => True) (fun K hk x _ => hk.2 (by simp only [atoiV, h]) x.1 x.2) Tryz.call59 fun G hG ρ w g1 g2 => ?_
    obtain ⟨ev, hv, hev⟩ := (hT G hG w g1 g2).err1
    have hc : Calls Tryz.prog 59 #[.string s] w fun e w' => ∃ N, e = .returned (.tuple #[.int .i64 (0), .iface 165 (.pointer (some ⟨N, 0, none⟩))]) ∧ w.heap.size ≤ N ∧ w'.heap[N]? = some (.cells #[.string ⟨#[65, 116, 111, 105]⟩, .string s, ev] 184 (0, 0)) ∧ Go.RowKit.Below w.heap.size w w' := Any.strconv_Atoi_syntax Tryz.laysC172 s (by omega) h ev w hv hev
    refine hc.mono ?_
    rintro e w' ⟨N, rfl, -, -, h⟩
    exact ⟨⟨(0, .pointer (some ⟨N, 0, none⟩)), trivial, rfl⟩, h.size, h.block, Prod.ext h.os h.output⟩
  · skip
    refine triple_libE (α := Int × Value) (fun x => .ret (.tuple [.int .i64 x.1, .iface 165 (.raw x.2)])) (fun _ => True) (fun K hk x _ => hk.2 (by simp only [atoiV, h]) x.1 x.2) Tryz.call59 fun G hG ρ w g1 g2 => ?_
    obtain ⟨ev, hv, hev⟩ := (hT G hG w g1 g2).err2
    refine (Tryz.strconv_Atoi_range s (by omega) h ev w hv hev).mono ?_
    rintro e w' ⟨N, rfl, -, -, h⟩
    exact ⟨⟨(Lib.atoiSat s.data.toList, .pointer (some ⟨N, 0, none⟩)), trivial, rfl⟩, h.size, h.block, Prod.ext h.os h.output⟩
end Hx
/- events.may: src.Runes is gone through in place. -/
namespace Hx
open Go Sx Go.Proofs
set_option maxRecDepth 100000
set_option maxHeartbeats 4000000
set_option linter.unusedVariables false
set_option linter.unusedSimpArgs false
variable {GOk : Gl → Prop}
def mayT (s : ByteArray) : Bool := Lib.validD s.data.toList && decide (s.size ≤ 48)
def encI (x : Int) : List Sx.Lit := [.int .i64 x]
theorem wideI : Wide 1 encI := fun _ => rfl
theorem may_spec (hT : GTab GOk) (s : ByteArray) (hs : s.size < 1099511627776) : Triple (BB Ip GOk) 37 0 0 [.str s] [] (fun K => ∀ b, b = mayT s → K (.ret (.bool b)) []) := by
  refine triple_of BB_ok (tb := ty) rfl (n0 := 0) (fun _ : Unit => _) pl37 Tryz.call37 Tryz.func37 rfl (by kernel_rfl) (Nat.le_of_ble_eq_true rfl) (by decide) rfl pre_none ?_
  rintro G hG K hK W bi bc bs bk bu bb bo bg bl bp bn be Ncond Nob Nop Nloop Nscope hN Nfin hf _ _
  cbv
  refine op_ hN (inline_ BB_ok (tb := ty) rfl pl44 Tryz.call44 Tryz.func44 rfl (by kernel_rfl) (Nat.le_of_ble_eq_true rfl) ?_)
  intro W2 bi2 bc2 bs2 bk2 bu2 bb2 bo2 bg2 bl2 bp2 bn2 be2 Ncond2 Nob2 Nop2 Nloop2 Nscope2 hN2
  cbv
  refine op_ hN2 (call_ (valid_string_spec hT s hs) hG [] rfl rfl rfl rfl rfl ?_)
  intro v hv
  cases v with
  | false =>
    cbv
    refine cond_T hN2 rfl ?_
    cbv
    exact hf _ _ (fin_as (.bool false) (fun _ => rfl) (fin_ [] rfl rfl (hK false (by simp [mayT, ← hv]))))
  | true =>
    cbv
    refine cond_F hN2 rfl ?_
    cbv
    refine op_ hN2 (range_str ty_ok rfl rfl rfl ?_)
    cbv
    refine loopN_ hN2 (loop_ hN2 ty_ok mixed (ι := Nat × Bool × Nat × Nat × Nat × List Int) (fun y => ⟨[(4, .vec y.2.1 1 1 y.2.2.1 y.2.2.2.1 y.2.2.2.2.1), (11, .ptr 0 0)], [.obj 0 (.stringIter s y.1), .arr y.2.1 true 1 3 encI y.2.2.2.2.2], 2⟩)
      (fun y => (y.2.1 = false → y.2.2.2.2.1 = 0) ∧ y.2.2.1 + y.2.2.2.2.1 ≤ y.2.2.2.2.2.length ∧ y.2.2.2.1 ≤ y.2.2.2.2.1 ∧ y.2.2.2.1 ≤ y.1) (fun y => s.size - y.1) ?_ ?_)
    · refine leads_noArr true 1 2 3 encI [] rfl ?_
      refine leads_eset 4 .nilslice (.vec false 1 1 0 0 0) rfl (fun _ => rfl) ?_
      exact Leads.idx (0, false, 0, 0, 0, []) [0, 1] ⟨fun _ => rfl, Nat.le_refl _, Nat.le_refl _, Nat.le_refl _⟩ ⟨⟨rfl, rfl, trivial⟩, rfl, Nat.le_of_ble_eq_true rfl⟩
    rintro ⟨pos, p, lo, len, cap, xs⟩ ⟨h1, h2, h3, h4⟩ Nnext hn _
    simp only at h1 h2 h3 h4
    cbv
    refine op_ hN2 (next_str ty_ok rfl (fun hlt => ?_) (fun hlt => ?_))
    · have hw := Lib.width_pos s pos
      generalize (Utf8.decode s pos).2 = wd at hw ⊢
      generalize (Utf8.decode s pos).1 = r
      obtain ⟨pos2, hpos2⟩ : ∃ x, x = pos + wd := ⟨_, rfl⟩
      rw [← hpos2]
      cbv
      obtain ⟨x, hx⟩ : ∃ x, x = W2 .i64 (Int.ofNat r) := ⟨_, rfl⟩
      rw [← hx]
      refine op_ hN2 (append_vec (new := [x]) (z := 0) ty_ok rfl rfl rfl rfl (fun k => by simp) rfl rfl wideI rfl rfl (src_cells wideI rfl (fun _ _ _ _ => rfl) rfl) h1 h2 h3 (by simp; omega) (by decide) ?_)
      intro p' lo' m' cap' xs' hm' e1 e2 e3 e4
      cbv
      exact hn _ (Leads.nxt (pos2, p', lo', m', cap', xs') [0, 3] ⟨e1, e2, e3, by simp at hm'; simp only; omega⟩ (by simp only; omega) ⟨⟨rfl, rfl, trivial⟩, rfl, Nat.le_of_ble_eq_true rfl⟩)
    · cbv
      exact hf _ _ (fin_ [] rfl rfl (hK _ (by rw [cle hN, len_eq hN]; simp [mayT, ← hv]; omega)))
end Hx
/- What angle's machine, names and entities compute: the model. -/
namespace Hx
open Go Sx Go.Proofs
set_option maxRecDepth 100000
set_option maxHeartbeats 4000000
set_option linter.unusedVariables false
set_option linter.unusedSimpArgs false
variable {GOk : Gl → Prop}
abbrev AM := OS Ang → Option (Int × OS Ang)
/- names -/
def sEmp : ByteArray := ⟨#[]⟩
def cutB (t sep : ByteArray) : ByteArray × ByteArray × Bool := (⟨(Lib.cut t.data.toList sep.data.toList).1.toArray⟩, ⟨(Lib.cut t.data.toList sep.data.toList).2.1.toArray⟩, (Lib.cut t.data.toList sep.data.toList).2.2)
def hasPre (s p : ByteArray) : Bool := Lib.hasPrefix s.data.toList p.data.toList
def trimPre (s p : ByteArray) : ByteArray := ⟨(Lib.trimPrefix s.data.toList p.data.toList).toArray⟩
def oddSet : ByteArray := ⟨#[123, 125, 34, 60, 62, 38, 92]⟩
/-- a character that no space has -/
def oddR (r : Int) : Bool := decide (r < 33) || (decide (Lib.indexByte oddSet.data.toList (IntKind.u8.wrap (bitI .and .i32 r 127)).toNat.toUInt8 ≥ 0) && decide (r < 128))
def oddGo (s : ByteArray) : Nat → Nat → Bool
  | 0, _ => false
  | n + 1, p => if p < s.size then (oddR (Int.ofNat (Utf8.decode s p).1) || oddGo s n (p + (Utf8.decode s p).2)) else false
def spaceOk (s : ByteArray) : Bool := Lib.validD s.data.toList && (decide (s ≠ sEmp) && (decide (s.size ≤ 48) && !oddGo s (s.size + 1) 0))
def wBrace : ByteArray := ⟨#[123]⟩
def wClose : ByteArray := ⟨#[125]⟩
def cutNT (space loc full : ByteArray) : ByteArray × ByteArray × Bool := if !localOk loc || decide (full.size > 48) then (sEmp, sEmp, false) else (space, loc, true)
/-- a full name's space and local name -/
def cutN (full : ByteArray) : ByteArray × ByteArray × Bool :=
  if hasPre full wBrace then
    (if !(cutB (trimPre full wBrace) wClose).2.2 || !spaceOk (cutB (trimPre full wBrace) wClose).1 then (sEmp, sEmp, false)
     else cutNT (cutB (trimPre full wBrace) wClose).1 (cutB (trimPre full wBrace) wClose).2.1 full)
  else cutNT sEmp full full
def joinF (space loc : ByteArray) : ByteArray := if decide (space ≠ sEmp) then wBrace ++ space ++ wClose ++ loc else loc
def joinN (space loc : ByteArray) : ByteArray × Bool :=
  if !(cutN (joinF space loc)).2.2 || (decide ((cutN (joinF space loc)).1 ≠ space) || decide ((cutN (joinF space loc)).2.1 ≠ loc)) then (sEmp, false) else (joinF space loc, true)
def lookB (l : List (ByteArray × ByteArray)) (k : ByteArray) : Option ByteArray := (l.find? fun x => decide (x.1 = k)).map (·.2)
def scpSpace : List (List (ByteArray × ByteArray)) → ByteArray → ByteArray × Bool
  | [], k => (sEmp, decide (k = sEmp))
  | m :: r, k => match lookB m k with
    | some v => (v, true)
    | none => scpSpace r k
def scpBind (l : List (List (ByteArray × ByteArray))) (k v : ByteArray) : Int × List (List (ByteArray × ByteArray)) :=
  match l with
  | [] => (1, l)
  | m :: r =>
    if (decide (k ≠ sEmp) && !localOk k) || ((decide (v ≠ sEmp) && !spaceOk v) || (decide (v = sEmp) && decide (k ≠ sEmp))) then (1, l)
    else if (lookB m k).isSome then (6, l)
    else if m.length ≥ 10 then (7, l)
    else (0, (m ++ [(k, v)]) :: r)
/- entities -/
def four : List (ByteArray × ByteArray) := [(⟨#[108, 116]⟩, ⟨#[60]⟩), (⟨#[103, 116]⟩, ⟨#[62]⟩), (⟨#[97, 109, 112]⟩, ⟨#[38]⟩), (⟨#[113, 117, 111, 116]⟩, ⟨#[34]⟩)]
def entGet (e : Ent) (k : ByteArray) : (ByteArray × Int) × Ent :=
  match lookB four k with
  | some v => ((v, 0), e)
  | none => match lookB e.own k with
    | none => ((sEmp, 14), e)
    | some v => if e.told ≥ 40 then ((sEmp, 13), e) else ((v, 0), { e with told := e.told + 1 })
def entDefine (e : Ent) (k v : ByteArray) : Int × Ent :=
  if !localOk k then (1, e)
  else if !Lib.validD v.data.toList then (3, e)
  else if (lookB four k).isSome || (lookB e.own k).isSome then (6, e)
  else if e.size + k.size + v.size > 200 then (15, e)
  else (0, { e with own := e.own ++ [(k, v)], size := e.size + (k.size + v.size) })
/- the machine -/
def bOf (x : UInt8) : Int := (x.toNat : Nat)
def blankB (b : Int) : Bool := decide (b = 32) || (decide (b = 9) || (decide (b = 10) || decide (b = 13)))
def encR (b : Int) : ByteArray := Utf8.encode (IntKind.i32.wrap b)
def wColon : ByteArray := ⟨#[58]⟩
def wEntity : ByteArray := ⟨#[69, 78, 84, 73, 84, 89, 32]⟩
def wXmlns : ByteArray := ⟨#[120, 109, 108, 110, 115]⟩
def wXmlnsC : ByteArray := ⟨#[120, 109, 108, 110, 115, 58]⟩
def locOf (t : ByteArray) : ByteArray := if (cutB t wColon).2.2 then (cutB t wColon).2.1 else (cutB t wColon).1
def nameB (b : Int) (loc : ByteArray) : Bool :=
  localOk (⟨#[97]⟩ ++ encR (bitI .and .u8 b 127)) && (decide (b < 128) && (decide (loc ≠ sEmp) || localOk (encR b)))
def wholeT (t : ByteArray) : Bool := decide (t ≠ sEmp) && !Lib.hasSuffix t.data.toList wColon.data.toList
section
variable (right : Ev → Bool)
def angEvent (x : Ev) : AM := fun s =>
  if (chkStep right s.m.chk x).1 = 0 then (if s.c.queue.length ≥ 4294967296 then none else some (0, ⟨{ s.m with chk := (chkStep right s.m.chk x).2 }, { s.c with queue := s.c.queue ++ [x] }⟩))
  else some ((chkStep right s.m.chk x).1, ⟨{ s.m with chk := (chkStep right s.m.chk x).2 }, s.c⟩)
def angBegins (x : UInt8) : AM := fun s =>
  if blankB (bOf x) then some (0, s) else if bOf x = 60 ∧ s.m.state = 0 then some (0, ⟨{ s.m with state := 1 }, s.c⟩) else some (2, s)
def angDefines (x : UInt8) : AM := fun s =>
  if s.m.rest.size = 0 then none
  else if bOf x ≠ bt s.m.rest 0 then some (2, s)
  else if subs s.m.rest 1 s.m.rest.size = sEmp then some (0, ⟨{ s.m with rest := subs s.m.rest 1 s.m.rest.size, state := 3, token := sEmp }, s.c⟩)
  else some (0, ⟨{ s.m with rest := subs s.m.rest 1 s.m.rest.size }, s.c⟩)
def angQuotes (x : UInt8) : AM := fun s =>
  if bOf x ≠ 34 then some (2, s) else some (0, ⟨{ s.m with back := s.m.state, state := 10, text := sEmp }, s.c⟩)
def angAdds (t : ByteArray) : AM := fun s =>
  if s.m.text.size + t.size > 48 then some (4, s) else some (0, ⟨{ s.m with text := s.m.text ++ t }, s.c⟩)
def angTexts : AM := fun s =>
  if s.m.text = sEmp then some (0, ⟨{ s.m with text := sEmp }, s.c⟩) else angEvent right ⟨4, s.m.text, sEmp⟩ ⟨{ s.m with text := sEmp }, s.c⟩
def angQuoted : AM := fun s =>
  if s.m.back = 4 then some (0, ⟨{ s.m with state := 5 }, s.c⟩)
  else if s.m.pairs.length ≥ 900000 then none
  else some (0, ⟨{ s.m with pairs := s.m.pairs ++ [(s.m.token, s.m.text)], state := 7, gap := false }, s.c⟩)
def angSays (x : UInt8) : AM := fun s =>
  if bOf x = 38 then some (0, ⟨{ s.m with back := bitI .or .i64 (bitI .shl .i64 s.m.state 8) (bitI .and .i64 s.m.back 255), state := 15, rest := sEmp }, s.c⟩)
  else if s.m.state = 10 ∧ bOf x = 34 then angQuoted s
  else if s.m.state = 12 ∧ bOf x = 60 then angTexts right ⟨{ s.m with state := 1 }, s.c⟩
  else if bOf x = 60 ∨ (bOf x < 32 ∧ blankB (bOf x) = false) then some (2, s)
  else angAdds ⟨#[x]⟩ s
def angRefers (x : UInt8) : AM := fun s =>
  if bOf x ≠ 59 ∨ s.m.rest = sEmp then
    (if bOf x ≥ 128 ∨ localOk (s.m.rest ++ encR (bOf x)) = false then some (2, s) else some (0, ⟨{ s.m with rest := s.m.rest ++ encR (bOf x) }, s.c⟩))
  else if (entGet s.m.ent s.m.rest).1.2 ≠ 0 then some ((entGet s.m.ent s.m.rest).1.2, ⟨{ s.m with ent := (entGet s.m.ent s.m.rest).2 }, s.c⟩)
  else angAdds (entGet s.m.ent s.m.rest).1.1 ⟨{ s.m with ent := (entGet s.m.ent s.m.rest).2, rest := sEmp, state := bitI .shr .i64 s.m.back 8, back := bitI .and .i64 s.m.back 255 }, s.c⟩
def angDefined (x : UInt8) : AM := fun s =>
  if blankB (bOf x) then some (0, s) else if bOf x ≠ 62 then some (2, s)
  else some ((entDefine s.m.ent s.m.token s.m.text).1, ⟨{ s.m with state := 0, text := sEmp, ent := (entDefine s.m.ent s.m.token s.m.text).2 }, s.c⟩)
/-- binds a prefix? -/
def isXml (n : ByteArray) : Bool := decide (n = wXmlns) || hasPre n wXmlnsC
def bindsGo : List (ByteArray × ByteArray) → AM
  | [], s => some (0, s)
  | p :: r, s =>
    if hasPre p.1 wXmlnsC = false ∧ p.1 ≠ wXmlns then bindsGo r s
    else if (scpBind s.m.scope (if hasPre p.1 wXmlnsC then trimPre p.1 wXmlnsC else sEmp) p.2).1 = 0 then
      bindsGo r ⟨{ s.m with scope := (scpBind s.m.scope (if hasPre p.1 wXmlnsC then trimPre p.1 wXmlnsC else sEmp) p.2).2 }, s.c⟩
    else if (scpBind s.m.scope (if hasPre p.1 wXmlnsC then trimPre p.1 wXmlnsC else sEmp) p.2).1 = 1 then
      some (18, ⟨{ s.m with scope := (scpBind s.m.scope (if hasPre p.1 wXmlnsC then trimPre p.1 wXmlnsC else sEmp) p.2).2 }, s.c⟩)
    else some ((scpBind s.m.scope (if hasPre p.1 wXmlnsC then trimPre p.1 wXmlnsC else sEmp) p.2).1, ⟨{ s.m with scope := (scpBind s.m.scope (if hasPre p.1 wXmlnsC then trimPre p.1 wXmlnsC else sEmp) p.2).2 }, s.c⟩)
def angBinds : AM := fun s => if s.m.scope.length ≥ 900000 then none else bindsGo s.m.pairs ⟨{ s.m with scope := [] :: s.m.scope }, s.c⟩
def fullS (scope : List (List (ByteArray × ByteArray))) (token : ByteArray) (attr : Bool) : ByteArray × Bool :=
  if attr && !(cutB token wColon).2.2 then (sEmp, true) else scpSpace scope (if (cutB token wColon).2.2 then (cutB token wColon).1 else sEmp)
/-- a name's full one -/
def angFull (scope : List (List (ByteArray × ByteArray))) (token : ByteArray) (attr : Bool) : ByteArray × Int :=
  if !(fullS scope token attr).2 || !(joinN (fullS scope token attr).1 (if (cutB token wColon).2.2 then (cutB token wColon).2.1 else token)).2 then (sEmp, 18)
  else ((joinN (fullS scope token attr).1 (if (cutB token wColon).2.2 then (cutB token wColon).2.1 else token)).1, 0)
def opensGo : List (ByteArray × ByteArray) → Int → AM
  | [], e, s => some (e, s)
  | p :: r, e, s =>
    if e ≠ 0 then some (e, s)
    else if isXml p.1 then opensGo r e s
    else if (angFull s.m.scope p.1 true).2 = 0 then
      (match angEvent right ⟨11, (angFull s.m.scope p.1 true).1, p.2⟩ s with
      | none => none
      | some (e2, s2) => opensGo r e2 s2)
    else opensGo r (angFull s.m.scope p.1 true).2 s
def opensT (t : ByteArray) : AM := fun s =>
  if (angFull s.m.scope t false).2 = 0 then
    (match angEvent right ⟨10, (angFull s.m.scope t false).1, sEmp⟩ s with
    | none => none
    | some (e2, s2) => opensGo right s2.m.pairs e2 s2)
  else opensGo right s.m.pairs (angFull s.m.scope t false).2 s
def angOpens : AM := fun s => match angBinds ⟨{ s.m with text := sEmp }, s.c⟩ with
  | none => none
  | some (e, s1) => if e ≠ 0 then some (e, s1) else match s1.m.opn.getLast? with
    | none => none
    | some t => opensT right t s1
def angCloses : AM := fun s =>
  if s.m.opn = [] then none
  else angEvent right (ev0 12) ⟨{ s.m with scope := s.m.scope.tail, opn := s.m.opn.dropLast, state := if s.m.opn.length = 1 then 16 else 12 }, s.c⟩
def angAlone (x : UInt8) : AM := fun s => if bOf x ≠ 62 then some (2, s) else angCloses right s
def angEnds (x : UInt8) : AM := fun s =>
  if blankB (bOf x) then some (0, s) else if bOf x ≠ 62 then some (2, s)
  else match s.m.opn.getLast? with
    | none => none
    | some t => if s.m.token ≠ t then some (18, s) else angCloses right s
def angNamed (attr : UInt8 → AM) (x : UInt8) : AM := fun s =>
  if nameB (bOf x) (locOf s.m.token) then
    (if (locOf s.m.token).size ≥ 16 then some (4, s) else if s.m.token.size ≥ 899990 then none
     else some (0, ⟨{ s.m with token := s.m.token ++ encR (bOf x) }, s.c⟩))
  else if bOf x = 58 ∧ (cutB s.m.token wColon).2.2 = false ∧ locOf s.m.token ≠ sEmp ∧ s.m.state ≠ 3 then
    (if s.m.token.size ≥ 899990 then none else some (0, ⟨{ s.m with token := s.m.token ++ wColon }, s.c⟩))
  else if wholeT s.m.token = false then some (2, s)
  else if s.m.state = 3 then (if bOf x ≠ 32 then some (2, s) else some (0, ⟨{ s.m with state := 4 }, s.c⟩))
  else if s.m.state = 8 then (if bOf x ≠ 61 then some (2, s) else if s.m.pairs.length ≥ 20 then some (7, s) else some (0, ⟨{ s.m with state := 9 }, s.c⟩))
  else if s.m.state = 13 then angEnds right x ⟨{ s.m with state := 14 }, s.c⟩
  else if s.m.opn.length ≥ 900000 then none
  else attr x ⟨{ s.m with opn := s.m.opn ++ [s.m.token], pairs := [], state := 7, gap := false }, s.c⟩
def angAttr (x : UInt8) : AM := fun s =>
  if blankB (bOf x) then some (0, ⟨{ s.m with gap := true }, s.c⟩)
  else if bOf x = 62 then angOpens right ⟨{ s.m with state := 12 }, s.c⟩
  else if bOf x = 47 then angOpens right ⟨{ s.m with state := 11 }, s.c⟩
  else if s.m.gap = false then some (2, s)
  else angNamed right (fun _ _ => none) x ⟨{ s.m with state := 8, token := sEmp }, s.c⟩
def angName (x : UInt8) : AM := angNamed right (angAttr right) x
def angTagged (x : UInt8) : AM := fun s =>
  if bOf x = 33 ∧ s.m.opn = [] then some (0, ⟨{ s.m with state := 2, rest := wEntity }, s.c⟩)
  else if bOf x = 47 ∧ s.m.opn ≠ [] then some (0, ⟨{ s.m with state := 13, token := sEmp }, s.c⟩)
  else angName right x ⟨{ s.m with state := 6, token := sEmp }, s.c⟩
def angStep (x : UInt8) : AM := fun s =>
  if s.m.state = 1 then angTagged right x s
  else if s.m.state = 2 then angDefines x s
  else if s.m.state = 3 ∨ s.m.state = 6 ∨ s.m.state = 8 ∨ s.m.state = 13 then angName right x s
  else if s.m.state = 4 ∨ s.m.state = 9 then angQuotes x s
  else if s.m.state = 5 then angDefined x s
  else if s.m.state = 7 then angAttr right x s
  else if s.m.state = 10 ∨ s.m.state = 12 then angSays right x s
  else if s.m.state = 11 then angAlone right x s
  else if s.m.state = 14 then angEnds right x s
  else if s.m.state = 15 then angRefers x s
  else angBegins x s
 end
def angEnd : AM := fun s => if s.m.state ≠ 16 then some (2, s) else some (0, s)
/-- what must hold behind a call -/
abbrev ocA (s : OS Ang) : List (Chunk Pd) := [.abs (.ang s.m true) [0, 1], .abs (.core s.c 69 48) [1, 0]]
def PostN (K : Out → List (Chunk Pd) → Prop) : Option (Int × OS Ang) → Prop
  | none => False
  | some (e, s) => K (.ret (.int .i64 e)) (ocA s)
/-- how the machine lies in memory -/
theorem angTm {state back : Int} {chk : Chk} {scope ent} {token text rest : ByteArray} {gap : Bool} {opn pairs} {p lo len cap xs q lo2 len2 cap2 ys}
    (hv1 : VecOk p lo len cap xs opn) (hv2 : VecOk q lo2 len2 cap2 ys pairs) (hl : AngOk token text rest opn pairs) :
    Tm (.ang ⟨state, back, chk, scope, ent, token, text, rest, gap, opn, pairs⟩ true) [.cells 0 76 [.int .i64 state, .int .i64 back, .ptr 4 0, .ptr 5 0, .ptr 6 0, .str token, .str text, .str rest, .bool gap, .vec p 2 1 lo len cap, .vec q 3 2 lo2 len2 cap2, .fn (.func 31) [.ptr 1 0] []], .arr p true 2 9 encS xs, .arr q true 3 273 encPr ys, .abs (.chk chk) [4], .abs (.scp scope) [5], .abs (.ent ent) [6]] :=
  ⟨p, lo, len, cap, xs, q, lo2, len2, cap2, ys, _, hv1, hv2, hl, fun _ => rfl, (fun h => nomatch h), rfl⟩
end Hx
/- names.Space, Cut, Join: the walks. -/
namespace Hx
open Go Sx Go.Proofs
set_option maxRecDepth 100000
set_option maxHeartbeats 4000000
set_option linter.unusedVariables false
set_option linter.unusedSimpArgs false
variable {GOk : Gl → Prop}
theorem ba_of {r : ByteArray} {l : List UInt8} (h : r.data.toList = l) : r = ⟨l.toArray⟩ := by
  cases r; simp only at h; subst h; simp
theorem ba_size (l : List UInt8) : (⟨l.toArray⟩ : ByteArray).size = l.length := by simp [ByteArray.size]
theorem ba_len (r : ByteArray) : r.data.toList.length = r.size := by rw [Array.length_toList]; rfl
theorem cutB_le (t sep : ByteArray) : (cutB t sep).1.size ≤ t.size ∧ (cutB t sep).2.1.size ≤ t.size := by
  have h1 : (cutB t sep).1.size = (Lib.cut t.data.toList sep.data.toList).1.length := ba_size _
  have h2 : (cutB t sep).2.1.size = (Lib.cut t.data.toList sep.data.toList).2.1.length := ba_size _
  rw [h1, h2, ← ba_len t]
  unfold Lib.cut
  split
  · exact ⟨by rw [List.length_take]; exact Nat.min_le_right _ _, by rw [List.length_drop]; omega⟩
  · exact ⟨Nat.le_refl _, Nat.zero_le _⟩
theorem trimPre_le (t p : ByteArray) : (trimPre t p).size ≤ t.size := by
  have h1 : (trimPre t p).size = (Lib.trimPrefix t.data.toList p.data.toList).length := ba_size _
  rw [h1, ← ba_len t]
  unfold Lib.trimPrefix
  split
  · rw [List.length_drop]; omega
  · exact Nat.le_refl _
theorem has_suffix_spec (s p : ByteArray) (hs : s.size < 1000000) : Triple (BB Ip GOk) 218 0 0 [.str s, .str p] [] (fun K => ∀ d, d = Lib.hasSuffix s.data.toList p.data.toList → K (.ret (.bool d)) []) := by
  refine triple_lib (.ret (.bool (Lib.hasSuffix s.data.toList p.data.toList))) (fun K h => h _ rfl) Tryz.call218 fun G hG ρ w _ _ => (Tryz.strings_HasSuffix s p w (by omega)).mono ?_
  rintro e w' ⟨rfl, rfl⟩
  exact ⟨rfl, Nat.le_refl _, fun _ _ => rfl, rfl⟩
theorem odd_spec (r : Int) : Triple (BB Ip GOk) 47 0 0 [.int .i32 r] [] (fun K => ∀ b, b = oddR r → K (.ret (.bool b)) []) := by
  refine triple_of BB_ok (tb := ty) rfl (n0 := 0) (fun _ : Unit => _) pl47 Tryz.call47 Tryz.func47 rfl (by kernel_rfl) (Nat.le_of_ble_eq_true rfl) (by decide) rfl pre_none ?_
  rintro G hG K hK W bi bc bs bk bu bb bo bg bl bp bn be Ncond Nob Nop Nloop Nscope hN Nfin hf _ _
  obtain ⟨k, hk⟩ : ∃ k, W .u8 (bi .and .i32 r 127) = k := ⟨_, rfl⟩
  have hM : oddR r = (decide (r < 33) || (decide (Lib.indexByte (⟨#[123, 125, 34, 60, 62, 38, 92]⟩ : ByteArray).data.toList k.toNat.toUInt8 ≥ 0) && decide (r < 128))) := by
    rw [← hk, hN.W, bi_ hN]; rfl
  rw [hM] at hK
  clear hM
  cbv
  refine cond_ hN (fun h1 => ?_) (fun h1 => ?_)
  · cbv
    exact hf _ _ (fin_as (.bool true) (fun _ => rfl) (fin_ [] rfl rfl (hK true (by rw [clt hN] at h1; rw [h1]; rfl))))
  · rw [clt hN] at h1
    rw [h1, Bool.false_or] at hK
    cbv
    simp only [hk]
    refine op_ hN (call_ (index_byte_spec ⟨#[123, 125, 34, 60, 62, 38, 92]⟩ k) hG [] rfl rfl rfl rfl rfl ?_)
    intro d hd
    rw [← hd] at hK
    clear hd
    cbv
    refine cond_ hN (fun h2 => ?_) (fun h2 => ?_)
    · rw [cge hN] at h2
      rw [h2, Bool.true_and] at hK
      cbv
      exact hf _ _ (fin_ [] rfl rfl (hK _ (by rw [clt hN])))
    · rw [cge hN] at h2
      rw [h2, Bool.false_and] at hK
      cbv
      exact hf _ _ (fin_as (.bool false) (fun _ => rfl) (fin_ [] rfl rfl (hK false rfl)))
theorem index_odd_spec (s : ByteArray) : Triple (BB Ip GOk) 68 0 0 [.str s, .fn (.func 47) [] [], .tt] [] (fun K => ∀ d : Int, decide (d ≥ 0) = oddGo s (s.size + 1) 0 → K (.ret (.int .i64 d)) []) := by
  refine triple_of BB_ok (tb := ty) rfl (n0 := 0) (fun _ : Unit => _) pl68 Tryz.call68 Tryz.func68 rfl (by kernel_rfl) (Nat.le_of_ble_eq_true rfl) (by decide) rfl pre_none ?_
  rintro G hG K hK W bi bc bs bk bu bb bo bg bl bp bn be Ncond Nob Nop Nloop Nscope hN Nfin hf _ _
  cbv
  refine op_ hN (range_str ty_ok rfl rfl rfl ?_)
  cbv
  refine loopN_ hN (loop_ hN ty_ok mixed (ι := Nat × Nat) (fun y => ⟨[(1, .fn (.func 47) [] []), (2, .tt), (10, .ptr 0 0)], [.obj 0 (.stringIter s y.1)], 1⟩) (fun y => s.size - y.1 < y.2 ∧ oddGo s y.2 y.1 = oddGo s (s.size + 1) 0) (fun y => y.2) (Leads.idx (0, s.size + 1) [0] ⟨by simp only; omega, rfl⟩ ⟨⟨rfl, rfl, rfl, trivial⟩, rfl, Nat.le_of_ble_eq_true rfl⟩) ?_)
  rintro ⟨pos, m⟩ ⟨h1, h2⟩ Nnext hn _
  simp only at h1 h2
  cbv
  refine op_ hN (next_str ty_ok rfl (fun hlt => ?_) (fun hlt => ?_))
  · have hw := Lib.width_pos s pos
    cases m with
    | zero => omega
    | succ n =>
      rw [oddGo, if_pos hlt] at h2
      generalize (Utf8.decode s pos).2 = wd at hw h2 ⊢
      generalize (Utf8.decode s pos).1 = r at h2 ⊢
      obtain ⟨pos2, hpos2⟩ : ∃ x, x = pos + wd := ⟨_, rfl⟩
      have h2 : (oddR ((r : Nat) : Int) || oddGo s n (pos + wd)) = oddGo s (s.size + 1) 0 := h2
      rw [← hpos2] at h2 ⊢
      generalize ((r : Nat) : Int) = ri at h2 ⊢
      cbv
      refine op_ hN (call_ (odd_spec ri) hG [] rfl rfl rfl rfl rfl ?_)
      intro b hb
      rw [← hb] at h2
      cases b with
      | true =>
        cbv
        refine cond_T hN rfl ?_
        cbv
        exact hf _ _ (fin_ [] rfl rfl (hK (Int.ofNat pos) (by rw [← h2]; simp)))
      | false =>
        rw [Bool.false_or] at h2
        cbv
        refine cond_F hN rfl ?_
        cbv
        exact hn _ (Leads.nxt (pos2, n) [0] ⟨by simp only; omega, h2⟩ (by simp only; omega) ⟨⟨rfl, rfl, rfl, trivial⟩, rfl, Nat.le_of_ble_eq_true rfl⟩)
  · cbv
    refine hf _ _ (fin_ [] rfl rfl (hK (-1) ?_))
    rw [← h2]
    cases m with
    | zero => rfl
    | succ n => rw [oddGo, if_neg hlt]; rfl
theorem contains_odd_spec (s : ByteArray) : Triple (BB Ip GOk) 49 0 0 [.str s, .fn (.func 47) [] []] [] (fun K => ∀ b, b = oddGo s (s.size + 1) 0 → K (.ret (.bool b)) []) := by
  refine triple_of BB_ok (tb := ty) rfl (n0 := 0) (fun _ : Unit => _) pl49 Tryz.call49 Tryz.func49 rfl (by kernel_rfl) (Nat.le_of_ble_eq_true rfl) (by decide) rfl pre_none ?_
  rintro G hG K hK W bi bc bs bk bu bb bo bg bl bp bn be Ncond Nob Nop Nloop Nscope hN Nfin hf _ _
  cbv
  refine op_ hN (inline_ BB_ok (tb := ty) rfl pl56 Tryz.call56 Tryz.func56 rfl (by kernel_rfl) (Nat.le_of_ble_eq_true rfl) ?_)
  intro W2 bi2 bc2 bs2 bk2 bu2 bb2 bo2 bg2 bl2 bp2 bn2 be2 Ncond2 Nob2 Nop2 Nloop2 Nscope2 hN2
  cbv
  refine op_ hN2 (call_ (index_odd_spec s) hG [] rfl rfl rfl rfl rfl ?_)
  intro d hd
  cbv
  exact hf _ _ (fin_ [] rfl rfl (hK _ (by rw [cge hN]; exact hd)))
/-- src.Runes -/
theorem runes_spec (hT : GTab GOk) (s : ByteArray) (hs : s.size < 1099511627776) : Triple (BB Ip GOk) 44 0 1 [.str s] [] (fun K => ∀ v, v = Lib.validD s.data.toList → ∀ p lo len cap xs, K (.ret (.tuple [.vec p 0 1 lo len cap, .bool v])) [.arr p true 0 3 encI xs]) := by
  refine triple_of BB_ok (tb := ty) rfl (n0 := 0) (fun _ : Unit => _) pl44 Tryz.call44 Tryz.func44 rfl (by kernel_rfl) (Nat.le_of_ble_eq_true rfl) (by decide) rfl pre_none ?_
  rintro G hG K hK W bi bc bs bk bu bb bo bg bl bp bn be Ncond Nob Nop Nloop Nscope hN Nfin hf _ _
  cbv
  refine op_ hN (call_ (valid_string_spec hT s hs) hG [] rfl rfl rfl rfl rfl ?_)
  intro v hv
  cases v with
  | false =>
    cbv
    refine cond_T hN rfl ?_
    cbv
    exact hf _ _ (fin_as (.tuple [.vec false 50 1 0 0 0, .bool false]) (fun _ => rfl) (fin_noArr true 50 3 encI [] (fin_ [50] rfl rfl (hK false hv false 0 0 0 []))))
  | true =>
    cbv
    refine cond_F hN rfl ?_
    cbv
    refine op_ hN (range_str ty_ok rfl rfl rfl ?_)
    cbv
    refine loopN_ hN (loop_ hN ty_ok mixed (ι := Nat × Bool × Nat × Nat × Nat × List Int) (fun y => ⟨[(4, .vec y.2.1 1 1 y.2.2.1 y.2.2.2.1 y.2.2.2.2.1), (11, .ptr 0 0)], [.obj 0 (.stringIter s y.1), .arr y.2.1 true 1 3 encI y.2.2.2.2.2], 2⟩)
      (fun y => (y.2.1 = false → y.2.2.2.2.1 = 0) ∧ y.2.2.1 + y.2.2.2.2.1 ≤ y.2.2.2.2.2.length ∧ y.2.2.2.1 ≤ y.2.2.2.2.1 ∧ y.2.2.2.1 ≤ y.1) (fun y => s.size - y.1) ?_ ?_)
    · refine leads_noArr true 1 2 3 encI [] rfl ?_
      refine leads_eset 4 .nilslice (.vec false 1 1 0 0 0) rfl (fun _ => rfl) ?_
      exact Leads.idx (0, false, 0, 0, 0, []) [0, 1] ⟨fun _ => rfl, Nat.le_refl _, Nat.le_refl _, Nat.le_refl _⟩ ⟨⟨rfl, rfl, trivial⟩, rfl, Nat.le_of_ble_eq_true rfl⟩
    rintro ⟨pos, p, lo, len, cap, xs⟩ ⟨h1, h2, h3, h4⟩ Nnext hn _
    simp only at h1 h2 h3 h4
    cbv
    refine op_ hN (next_str ty_ok rfl (fun hlt => ?_) (fun hlt => ?_))
    · have hw := Lib.width_pos s pos
      generalize (Utf8.decode s pos).2 = wd at hw ⊢
      generalize (Utf8.decode s pos).1 = r
      obtain ⟨pos2, hpos2⟩ : ∃ x, x = pos + wd := ⟨_, rfl⟩
      rw [← hpos2]
      cbv
      obtain ⟨x, hx⟩ : ∃ x, x = W .i64 (Int.ofNat r) := ⟨_, rfl⟩
      rw [← hx]
      refine op_ hN (append_vec (new := [x]) (z := 0) ty_ok rfl rfl rfl rfl (fun k => by simp) rfl rfl wideI rfl rfl (src_cells wideI rfl (fun _ _ _ _ => rfl) rfl) h1 h2 h3 (by simp; omega) (by decide) ?_)
      intro p' lo' m' cap' xs' hm' e1 e2 e3 e4
      cbv
      exact hn _ (Leads.nxt (pos2, p', lo', m', cap', xs') [0, 3] ⟨e1, e2, e3, by simp at hm'; simp only; omega⟩ (by simp only; omega) ⟨⟨rfl, rfl, trivial⟩, rfl, Nat.le_of_ble_eq_true rfl⟩)
    · cbv
      exact hf _ _ (fin_as (.tuple [.vec p 1 1 lo len cap, .bool true]) (fun _ => rfl) (fin_ [1] rfl rfl (hK true hv p lo len cap xs)))
theorem space_spec (hT : GTab GOk) (s : ByteArray) (hs : s.size < 1099511627776) : Triple (BB Ip GOk) 40 0 0 [.str s] [] (fun K => ∀ b, b = spaceOk s → K (.ret (.bool b)) []) := by
  refine triple_of BB_ok (tb := ty) rfl (n0 := 0) (fun _ : Unit => _) pl40 Tryz.call40 Tryz.func40 rfl (by kernel_rfl) (Nat.le_of_ble_eq_true rfl) (by decide) rfl pre_none ?_
  rintro G hG K hK W bi bc bs bk bu bb bo bg bl bp bn be Ncond Nob Nop Nloop Nscope hN Nfin hf _ _
  cbv
  refine op_ hN (call_ (runes_spec hT s hs) hG [] rfl rfl rfl rfl rfl ?_)
  intro v hv p lo len cap xs
  have hM : spaceOk s = (v && (bs .neq s ⟨#[]⟩ && (bc .leq (bn s) 48 && !oddGo s (s.size + 1) 0))) := by
    have h48 : ((s.size : Int) ≤ 48) ↔ s.size ≤ 48 := by omega
    rw [sne_eq hN, cle hN, len_eq hN, hv]
    by_cases he : s = ⟨#[]⟩ <;> simp [spaceOk, sEmp, h48, he]
  rw [hM] at hK
  clear hM hv
  cases v with
  | false =>
    cbv
    refine cond_F hN rfl ?_
    cbv
    exact hf _ _ (fin_as (.bool false) (fun _ => rfl) (fin_ [] rfl rfl (hK false rfl)))
  | true =>
    rw [Bool.true_and] at hK
    cbv
    refine cond_T hN rfl ?_
    cbv
    refine cond_ hN ?_ ?_ <;> intro h1
    · rw [h1, Bool.true_and] at hK
      cbv
      refine cond_ hN ?_ ?_ <;> intro h2
      · rw [h2, Bool.true_and] at hK
        cbv
        refine op_ hN (call_ (contains_odd_spec s) hG [] rfl rfl rfl rfl rfl ?_)
        intro b hb
        rw [← hb] at hK
        cbv
        exact hf _ _ (fin_ [] rfl rfl (hK _ rfl))
      · rw [h2, Bool.false_and] at hK
        cbv
        exact hf _ _ (fin_as (.bool false) (fun _ => rfl) (fin_ [] rfl rfl (hK false rfl)))
    · rw [h1, Bool.false_and] at hK
      cbv
      exact hf _ _ (fin_as (.bool false) (fun _ => rfl) (fin_ [] rfl rfl (hK false rfl)))
end Hx
