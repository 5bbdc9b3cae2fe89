/-
  Part of a proof.
-/
import Derived.Test.YtlmbbchfaoeebaaGreatDoorV06
import Derived.Test.YtlmbbchfaoeebaaGreatDoorShelf
import Derived.Calls
set_option linter.unusedVariables false
set_option linter.unusedSimpArgs false
/- row.Row: More, Is, Bad, Must, Blanks: the walks. -/
namespace Hx
open Go Sx Go.Proofs
set_option maxRecDepth 100000
set_option maxHeartbeats 4000000
set_option linter.unusedVariables false
set_option linter.unusedSimpArgs false
variable {GOk : Gl → Prop}
variable {Pd : Type} {I : Pd → List Nat → HP}
/-- a row: its text, where it is, whom it tells -/
def rowc {Pd : Type} (i : Nat) (s : ByteArray) (a : Nat) (tv : Value) : Chunk Pd := .cells i 234 [.str s, .int .i64 (Int.ofNat a), .raw tv]
def flt (e a : Int) : SV := .iface 224 (.agg [.int .i64 e, .int .i64 a])
def isB (s : ByteArray) (a : Nat) (b : Int) : Bool := decide (a < s.size) && decide (bt s (Int.ofNat a) = b)
theorem more_spec (s : ByteArray) (a : Nat) (tv : Value) : Triple (BB I GOk) 167 1 1 [.ptr 0 0] [rowc 0 s a tv] (fun K => ∀ b, b = decide (a < s.size) → K (.ret (.bool b)) [rowc 0 s a tv]) := by
  refine triple_of BB_ok (tb := ty) rfl (n0 := 1) (fun _ : Unit => _) pl167 Tryz.call167 Tryz.func167 rfl (by kernel_rfl) (Nat.le_of_ble_eq_true rfl) (by decide) rfl pre_none ?_
  rintro G hG K hK W bi bc bs bk bu bb bo bg bl bp bn be Ncond Nob Nop Nloop Nscope hN Nfin hf _ _
  cbv
  repeat' (first | exact True.intro | with_reducible refine dup ?_ | refine And.intro ?_ ?_)
  all_goals exact hf _ _ (fin_ [] (out' := .ret (.bool _)) rfl rfl (hK _ (by rw [clt hN, len_eq hN]; simp)))
theorem is_spec (s : ByteArray) (a : Nat) (tv : Value) (b : Int) : Triple (BB I GOk) 163 1 1 [.ptr 0 0, .int .u8 b] [rowc 0 s a tv] (fun K => ∀ r, r = isB s a b → K (.ret (.bool r)) [rowc 0 s a tv]) := by
  refine triple_of BB_ok (tb := ty) rfl (n0 := 1) (fun _ : Unit => _) pl163 Tryz.call163 Tryz.func163 rfl (by kernel_rfl) (Nat.le_of_ble_eq_true rfl) (by decide) rfl pre_none ?_
  rintro G hG K hK W bi bc bs bk bu bb bo bg bl bp bn be Ncond Nob Nop Nloop Nscope hN Nfin hf _ _
  cbv
  repeat' (first | exact True.intro | with_reducible refine dup ?_ | refine And.intro ?_ ?_)
  all_goals
    refine op_ hN (call_ (more_spec s a tv) hG [0] rfl rfl rfl rfl rfl ?_)
    intro m hm
    cases m with
    | false =>
      cbv
      refine cond_ hN (fun h => by simp at h) (fun _ => ?_)
      cbv
      repeat' (first | exact True.intro | with_reducible refine dup ?_ | refine And.intro ?_ ?_)
      all_goals exact hf _ _ (fin_as (.bool false) (fun _ => rfl) (fin_ [] (out' := .ret (.bool _)) rfl rfl (hK _ (by simp [isB, ← hm]))))
    | true =>
      have hlt : a < s.size := by simpa using hm.symm
      have hob : obsP [.inb (Int.ofNat a) (bn s)] := ⟨⟨by simp, by rw [len_eq hN]; simp; exact hlt⟩, trivial⟩
      cbv
      refine cond_ hN (fun _ => ?_) (fun h => by simp at h)
      cbv
      repeat' (first | refine And.intro ?_ ?_ | exact True.intro | (refine ob_ hN hob ?_; cbv))
      all_goals exact hf _ _ (fin_ [] (out' := .ret (.bool _)) rfl rfl (hK _ (by rw [ceq hN, bb_ hN]; simp [isB, hlt])))
theorem fail_spec (e a : Int) : Triple (BB I GOk) 170 0 0 [.int .i64 e, .int .i64 a] [] (fun K => K (.pan (flt e a)) []) := by
  refine triple_of BB_ok (tb := ty) rfl (n0 := 0) (fun _ : Unit => _) pl170 Tryz.call170 Tryz.func170 rfl (by kernel_rfl) (Nat.le_of_ble_eq_true rfl) (by decide) rfl pre_none ?_
  rintro G hG K hK W bi bc bs bk bu bb bo bg bl bp bn be Ncond Nob Nop Nloop Nscope hN Nfin hf _ _
  cbv
  exact hf _ _ (fin_ [] rfl rfl hK)
theorem bad_spec (s : ByteArray) (a : Nat) (tv : Value) : Triple (BB I GOk) 168 1 1 [.ptr 0 0] [rowc 0 s a tv] (fun K => K (.pan (flt 2 (Int.ofNat a))) [rowc 0 s a tv]) := by
  refine triple_of BB_ok (tb := ty) rfl (n0 := 1) (fun _ : Unit => _) pl168 Tryz.call168 Tryz.func168 rfl (by kernel_rfl) (Nat.le_of_ble_eq_true rfl) (by decide) rfl pre_none ?_
  rintro G hG K hK W bi bc bs bk bu bb bo bg bl bp bn be Ncond Nob Nop Nloop Nscope hN Nfin hf _ _
  cbv
  refine op_ hN (call_ (fail_spec 2 (Int.ofNat a)) hG [] rfl rfl rfl rfl rfl ?_)
  cbv
  exact hf _ _ (fin_ [] rfl rfl hK)
theorem must_spec (s : ByteArray) (a : Nat) (tv : Value) (b : Int) (hs : s.size < 4611686018427387904) : Triple (BB I GOk) 172 1 1 [.ptr 0 0, .int .u8 b] [rowc 0 s a tv]
    (fun K => (isB s a b = true → K (.ret (.tuple [])) [rowc 0 s (a + 1) tv]) ∧ (isB s a b = false → K (.pan (flt 2 (Int.ofNat a))) [rowc 0 s a tv])) := by
  refine triple_of BB_ok (tb := ty) rfl (n0 := 1) (fun _ : Unit => _) pl172 Tryz.call172 Tryz.func172 rfl (by kernel_rfl) (Nat.le_of_ble_eq_true rfl) (by decide) rfl pre_none ?_
  rintro G hG K hK W bi bc bs bk bu bb bo bg bl bp bn be Ncond Nob Nop Nloop Nscope hN Nfin hf _ _
  cbv
  refine op_ hN (call_ (is_spec s a tv b) hG [0] rfl rfl rfl rfl rfl ?_)
  intro m hm
  cases m with
  | true =>
    have hlt : a < s.size := by have := hm.symm; simp [isB] at this; exact this.1
    have ht : bi .add .i64 (Int.ofNat a) 1 = Int.ofNat (a + 1) := inext hN (by omega)
    cbv
    refine cond_ hN (fun h => by simp at h) (fun _ => ?_)
    cbv
    simp only [ht]
    exact hf _ _ (fin_ [] rfl rfl (hK.1 hm.symm))
  | false =>
    cbv
    refine cond_ hN (fun _ => ?_) (fun h => by simp at h)
    cbv
    refine op_ hN (call_ (bad_spec s a tv) hG [0] rfl rfl rfl rfl rfl ?_)
    cbv
    exact hf _ _ (fin_ [] rfl rfl (hK.2 hm.symm))
def blanks (s : ByteArray) (a : Nat) : Nat := if isB s a 32 then blanks s (a + 1) else a
 termination_by s.size - a
 decreasing_by simp [isB] at *; omega
theorem blanks_spec (s : ByteArray) (a : Nat) (tv : Value) (hs : s.size < 4611686018427387904) : Triple (BB I GOk) 166 1 1 [.ptr 0 0] [rowc 0 s a tv]
    (fun K => ∀ b, b = blanks s a → K (.ret (.tuple [])) [rowc 0 s b tv]) := by
  refine triple_of BB_ok (tb := ty) rfl (n0 := 1) (fun _ : Unit => _) pl166 Tryz.call166 Tryz.func166 rfl (by kernel_rfl) (Nat.le_of_ble_eq_true rfl) (by decide) rfl pre_none ?_
  rintro G hG K hK W bi bc bs bk bu bb bo bg bl bp bn be Ncond Nob Nop Nloop Nscope hN Nfin hf _ _
  cbv
  refine loopN_ hN (loop_ hN ty_ok mixed (ι := Nat) (fun k => ⟨[(0, .ptr 0 0)], [rowc 0 s k tv], 1⟩) (fun k => blanks s k = blanks s a) (fun k => s.size - k) (Leads.idx a [] rfl ⟨⟨rfl, trivial⟩, rfl, Nat.le_of_ble_eq_true rfl⟩) ?_)
  intro k hk Nnext hn _
  cbv
  refine op_ hN (call_ (is_spec s k tv 32) hG [0] rfl rfl rfl rfl rfl ?_)
  intro m hm
  cases m with
  | true =>
    have hlt : k < s.size := by have := hm.symm; simp [isB] at this; exact this.1
    have ht : bi .add .i64 (Int.ofNat k) 1 = Int.ofNat (k + 1) := inext hN (by omega)
    cbv
    refine cond_ hN (fun _ => ?_) (fun h => by simp at h)
    cbv
    simp only [ht]
    refine hn _ (Leads.nxt (k + 1) [] ?_ (by omega) ⟨⟨rfl, trivial⟩, rfl, Nat.le_of_ble_eq_true rfl⟩)
    rw [← hk]; conv => rhs; rw [blanks, ← hm]
    rfl
  | false =>
    cbv
    refine cond_ hN (fun h => by simp at h) (fun _ => ?_)
    cbv
    refine hf _ _ (fin_ [] rfl rfl (hK k ?_))
    rw [← hk, blanks, ← hm]; rfl
theorem isB_lt {s : ByteArray} {a : Nat} {b : Int} (h : isB s a b = true) : a < s.size := by simp [isB] at h; exact h.1
theorem blanks_le (s : ByteArray) (a : Nat) (h : a ≤ s.size) : blanks s a ≤ s.size := by
  induction a using blanks.induct s with
  | case1 a hb ih => rw [blanks, if_pos hb]; exact ih (isB_lt hb)
  | case2 a hb => rw [blanks, if_neg hb]; exact h
end Hx
/- quote: escapes, said.Text, said.add; src.Put, src.Scan.Whole: the walks. -/
namespace Hx
open Go Sx Go.Proofs
set_option maxRecDepth 100000
set_option maxHeartbeats 4000000
set_option linter.unusedVariables false
set_option linter.unusedSimpArgs false
variable {GOk : Gl → Prop}
theorem bytes_lib : True := trivial
def escL : List (Sx.Lit × Sx.Lit) := [(.int .u8 34, .int .u8 34), (.int .u8 92, .int .u8 92), (.int .u8 47, .int .u8 47), (.int .u8 110, .int .u8 10), (.int .u8 116, .int .u8 9), (.int .u8 114, .int .u8 13), (.int .u8 98, .int .u8 8), (.int .u8 102, .int .u8 12)]
/-- what a letter behind a stroke stands for -/
def escOf (b : Int) : Option UInt8 := if b = 34 then some 34 else if b = 92 then some 92 else if b = 47 then some 47 else if b = 110 then some 10 else if b = 116 then some 9 else if b = 114 then some 13 else if b = 98 then some 8 else if b = 102 then some 12 else none
theorem escL_mem {b : Int} {v : Sx.Lit} (h : (Sx.Lit.int .u8 b, v) ∈ escL) : ∃ c : UInt8, escOf b = some c ∧ v = .int .u8 (c.toNat : Nat) := by
  simp only [escL, List.mem_cons, Prod.mk.injEq, Sx.Lit.int.injEq, true_and, List.not_mem_nil, or_false] at h
  rcases h with ⟨rfl, rfl⟩ | ⟨rfl, rfl⟩ | ⟨rfl, rfl⟩ | ⟨rfl, rfl⟩ | ⟨rfl, rfl⟩ | ⟨rfl, rfl⟩ | ⟨rfl, rfl⟩ | ⟨rfl, rfl⟩ <;> exact ⟨_, rfl, rfl⟩
theorem escL_not {b : Int} (h : ∀ x ∈ escL, x.1 ≠ Sx.Lit.int .u8 b) : escOf b = none := by
  simp only [escL, List.mem_cons, List.not_mem_nil, or_false, forall_eq_or_imp, forall_eq, ne_eq, Sx.Lit.int.injEq, true_and] at h
  simp only [escOf]
  obtain ⟨h1, h2, h3, h4, h5, h6, h7, h8⟩ := h
  rw [if_neg (fun e => h1 e.symm), if_neg (fun e => h2 e.symm), if_neg (fun e => h3 e.symm), if_neg (fun e => h4 e.symm), if_neg (fun e => h5 e.symm), if_neg (fun e => h6 e.symm), if_neg (fun e => h7 e.symm), if_neg (fun e => h8 e.symm)]
theorem escapes_spec : Triple (BB Ip GOk) 192 0 1 [] [] (fun K => K (.ret (.map 0)) [.map 0 escL]) := by
  refine triple_of BB_ok (tb := ty) rfl (n0 := 0) (fun _ : Unit => _) pl192 Tryz.call192 Tryz.func192 rfl (by kernel_rfl) (Nat.le_of_ble_eq_true rfl) (by decide) rfl pre_none ?_
  rintro G hG K hK W bi bc bs bk bu bb bo bg bl bp bn be Ncond Nob Nop Nloop Nscope hN Nfin hf _ _
  cbv
  refine op_ hN (update_ ty_ok (.int .u8 34) (.int .u8 34) (.inr rfl) rfl rfl rfl rfl rfl rfl (fun _ => rfl) rfl (by simp) (by simp) ?_)
  cbv
  refine op_ hN (update_ ty_ok (.int .u8 92) (.int .u8 92) (.inr rfl) rfl rfl rfl rfl rfl rfl (fun _ => rfl) rfl (by simp [keyK, MapKept.IsKey, Sx.Lit.val]) (by simp) ?_)
  cbv
  refine op_ hN (update_ ty_ok (.int .u8 47) (.int .u8 47) (.inr rfl) rfl rfl rfl rfl rfl rfl (fun _ => rfl) rfl (by simp [keyK, MapKept.IsKey, Sx.Lit.val]) (by simp) ?_)
  cbv
  refine op_ hN (update_ ty_ok (.int .u8 110) (.int .u8 10) (.inr rfl) rfl rfl rfl rfl rfl rfl (fun _ => rfl) rfl (by simp [keyK, MapKept.IsKey, Sx.Lit.val]) (by simp) ?_)
  cbv
  refine op_ hN (update_ ty_ok (.int .u8 116) (.int .u8 9) (.inr rfl) rfl rfl rfl rfl rfl rfl (fun _ => rfl) rfl (by simp [keyK, MapKept.IsKey, Sx.Lit.val]) (by simp) ?_)
  cbv
  refine op_ hN (update_ ty_ok (.int .u8 114) (.int .u8 13) (.inr rfl) rfl rfl rfl rfl rfl rfl (fun _ => rfl) rfl (by simp [keyK, MapKept.IsKey, Sx.Lit.val]) (by simp) ?_)
  cbv
  refine op_ hN (update_ ty_ok (.int .u8 98) (.int .u8 8) (.inr rfl) rfl rfl rfl rfl rfl rfl (fun _ => rfl) rfl (by simp [keyK, MapKept.IsKey, Sx.Lit.val]) (by simp) ?_)
  cbv
  refine op_ hN (update_ ty_ok (.int .u8 102) (.int .u8 12) (.inr rfl) rfl rfl rfl rfl rfl rfl (fun _ => rfl) rfl (by simp [keyK, MapKept.IsKey, Sx.Lit.val]) (by simp) ?_)
  cbv
  exact hf _ _ (fin_ [0] rfl rfl hK)
/-- a quoted text's bytes: so many more, or too many -/
def qtAdd (q : Qt) (l : List UInt8) : Int × Qt := if q.bytes.length + l.length > 48 then (4, q) else (0, { q with bytes := q.bytes ++ l })
theorem qt_text_spec (q : Qt) : Triple (BB Ip GOk) 189 1 1 [.ptr 0 0] [.abs (.qt q) [0]] (fun K => ∀ s : ByteArray, s.data.toList = q.bytes → K (.ret (.str s)) []) := by
  refine triple_of BB_ok (tb := ty) rfl (n0 := 2) (fun y : {cs' // Tm (.qt q) cs'} => csRen (sg [0] 1) y.1 ++ []) pl189 Tryz.call189 Tryz.func189 rfl (by kernel_rfl) (Nat.le_of_ble_eq_true rfl) (by decide) rfl (pre_open rfl rfl rfl) ?_
  rintro G hG K hK W bi bc bs bk bu bb bo bg bl bp bn be Ncond Nob Nop Nloop Nscope hN Nfin hf _ ⟨cs', hT⟩
  obtain ⟨p, lo, len, cap, xs, hv, hle, rfl⟩ := id hT
  cbv
  refine op_ hN (bytes_str ty_ok rfl rfl rfl rfl rfl rfl rfl (by have := hv.room; have := hv.fits; omega) (fun h => by have := hv.pr h; have := hv.fits; omega) ?_)
  intro s hs
  cbv
  exact hf _ _ (fin_ [] rfl rfl (hK s (hs.trans hv.eq)))
theorem scan_whole_spec (l : Int) (a b : Int) : Triple (BB Ip GOk) 33 1 1 [.ptr 0 0] [.cells 0 94 [.int .i64 l, .int .u8 a, .int .u8 b]] (fun K => ∀ r, r = decide (l = 0) → K (.ret (.bool r)) [.cells 0 94 [.int .i64 l, .int .u8 a, .int .u8 b]]) := by
  refine triple_of BB_ok (tb := ty) rfl (n0 := 1) (fun _ : Unit => _) pl33 Tryz.call33 Tryz.func33 rfl (by kernel_rfl) (Nat.le_of_ble_eq_true rfl) (by decide) rfl pre_none ?_
  rintro G hG K hK W bi bc bs bk bu bb bo bg bl bp bn be Ncond Nob Nop Nloop Nscope hN Nfin hf _ _
  cbv
  exact hf _ _ (fin_ [] (out' := .ret (.bool _)) rfl rfl (hK _ (by rw [ceq hN])))
end Hx
/- Contracts of the library: IndexByte, ValidRune. -/
namespace Hx
open Go Sx Go.Proofs
set_option maxRecDepth 100000
set_option maxHeartbeats 4000000
set_option linter.unusedVariables false
set_option linter.unusedSimpArgs false
variable {GOk : Gl → Prop}
variable {Pd : Type} {I : Pd → List Nat → HP}
theorem index_byte_spec (s : ByteArray) (c : Int) : Triple (BB I GOk) 48 0 0 [.str s, .int .u8 c] [] (fun K => ∀ d, d = Lib.indexByte s.data.toList c.toNat.toUInt8 → K (.ret (.int .i64 d)) []) := by
  refine triple_lib (.ret (.int .i64 (Lib.indexByte s.data.toList c.toNat.toUInt8))) (fun K h => h _ rfl) Tryz.call48 fun G hG ρ w _ _ => (Tryz.strings_IndexByte s c w).mono ?_
  rintro e w' ⟨rfl, rfl⟩
  exact ⟨rfl, Nat.le_refl _, fun _ _ => rfl, rfl⟩
theorem valid_rune_spec (r : Int) : Triple (BB I GOk) 126 0 0 [.int .i32 r] [] (fun K => ∀ b, b = Lib.validRune r → K (.ret (.bool b)) []) := by
  refine triple_lib (.ret (.bool (Lib.validRune r))) (fun K h => h _ rfl) Tryz.call126 fun G hG ρ w _ _ => (Tryz.utf8_ValidRune r w).mono ?_
  rintro e w' ⟨rfl, rfl⟩
  exact ⟨rfl, Nat.le_refl _, fun _ _ => rfl, rfl⟩
end Hx
/- quote.Quote.digit, src.Put: the walks. -/
namespace Hx
open Go Sx Go.Proofs
set_option maxRecDepth 100000
set_option maxHeartbeats 4000000
set_option linter.unusedVariables false
set_option linter.unusedSimpArgs false
variable {GOk : Gl → Prop}
/-- a character's bytes -/
def putS (n : Int) : Option ByteArray := if decide (n < 0) || (decide (n > 1114111) || !Lib.validRune n) then none else some (Utf8.encode n)
def putR (n : Int) : ByteArray × Bool := match putS n with
  | some s => (s, true)
  | none => (⟨#[]⟩, false)
theorem put_spec (n : Int) : Triple (BB Ip GOk) 194 0 0 [.int .i64 n] [] (fun K => ∀ s ok, (s, ok) = putR n → K (.ret (.tuple [.str s, .bool ok])) []) := by
  refine triple_of BB_ok (tb := ty) rfl (n0 := 0) (fun _ : Unit => _) pl194 Tryz.call194 Tryz.func194 rfl (by kernel_rfl) (Nat.le_of_ble_eq_true rfl) (by decide) rfl pre_none ?_
  rintro G hG K hK W bi bc bs bk bu bb bo bg bl bp bn be Ncond Nob Nop Nloop Nscope hN Nfin hf _ _
  have hW : bc .lss n 0 = false → bc .gtr n 1114111 = false → W .i32 n = n := by
    rw [clt hN, cgt hN, hN.W]; intro h1 h2; simp at h1 h2
    simp [IntKind.wrap, IntKind.bits, IntKind.signed]; split <;> omega
  cbv
  refine cond_ hN (fun h1 => ?_) (fun h1 => ?_)
  · cbv
    refine hf _ _ (fin_as (.tuple [.str ⟨#[]⟩, .bool false]) (fun _ => rfl) (fin_ [] rfl rfl (hK _ _ ?_)))
    rw [clt hN] at h1; simp only [putR, putS, h1, Bool.true_or, if_true]
  · cbv
    refine cond_ hN (fun h2 => ?_) (fun h2 => ?_)
    · cbv
      refine hf _ _ (fin_as (.tuple [.str ⟨#[]⟩, .bool false]) (fun _ => rfl) (fin_ [] rfl rfl (hK _ _ ?_)))
      rw [cgt hN] at h2; simp only [putR, putS, h2, Bool.true_or, Bool.or_true, if_true]
    · have hw := hW h1 h2
      cbv
      refine op_ hN (call_ (valid_rune_spec (W .i32 n)) hG [] rfl rfl rfl rfl rfl ?_)
      intro b hb
      rw [hw] at hb
      rw [clt hN] at h1
      rw [cgt hN] at h2
      cases b with
      | true =>
        cbv
        refine cond_ hN (fun h => by simp at h) (fun _ => ?_)
        cbv
        refine hf _ _ (fin_as (.tuple [.str (be (W .i32 n)), .bool true]) (fun _ => rfl) (fin_ [] rfl rfl (hK _ _ ?_)))
        rw [hw, be_ hN]; simp only [putR, putS, h1, h2, ← hb, Bool.or_false, Bool.not_true, Bool.false_eq_true, if_false]
      | false =>
        cbv
        refine cond_ hN (fun _ => ?_) (fun h => by simp at h)
        cbv
        refine hf _ _ (fin_as (.tuple [.str ⟨#[]⟩, .bool false]) (fun _ => rfl) (fin_ [] rfl rfl (hK _ _ ?_)))
        simp only [putR, putS, ← hb, Bool.not_false, Bool.or_true, if_true]
def hexS : ByteArray := ⟨#[48, 49, 50, 51, 52, 53, 54, 55, 56, 57, 97, 98, 99, 100, 101, 102]⟩
def hexOf (b : Int) : Int := Lib.indexByte hexS.data.toList (bitI .or .u8 b 32).toNat.toUInt8
def qtNum (q : Qt) (d : Int) : Qt := { q with left := q.left - 1, number := bitI .add .i64 (bitI .mul .i64 16 q.number) d }
def qtDigit (q : Qt) (b : Int) : Int × Qt :=
  if decide (b < 48) || (decide (hexOf b < 0) || (decide (hexOf b < 10) && decide (b > 57))) then (9, q)
  else if q.left > 1 then (0, qtNum q (hexOf b))
  else match putS (qtNum q (hexOf b)).number with
    | none => (9, qtNum q (hexOf b))
    | some s => qtAdd (qtNum q (hexOf b)) s.data.toList
theorem encode_size (n : Int) : (Utf8.encode n).size ≤ 4 := by
  unfold Utf8.encode
  simp only
  generalize (if Utf8.valid n = true then n.toNat else Utf8.runeError) = c
  split
  · exact Nat.le_of_ble_eq_true rfl
  · split
    · exact Nat.le_of_ble_eq_true rfl
    · split <;> exact Nat.le_of_ble_eq_true rfl
theorem putS_size {n : Int} {s : ByteArray} (h : putS n = some s) : s.size ≤ 4 := by
  unfold putS at h
  split at h
  · cases h
  · simp only [Option.some.injEq] at h; rw [← h]; exact encode_size n
theorem qt_digit_spec (q : Qt) (b : Int) (hq : 0 < q.left) : Triple (BB Ip GOk) 191 1 1 [.ptr 0 0, .int .u8 b] [.abs (.qt q) [0]] (fun K => ∀ e q', (e, q') = qtDigit q b → K (.ret (.int .i64 e)) [.abs (.qt q') [0]]) := by
  refine triple_of BB_ok (tb := ty) rfl (n0 := 2) (fun y : {cs' // Tm (.qt q) cs'} => csRen (sg [0] 1) y.1 ++ []) pl191 Tryz.call191 Tryz.func191 rfl (by kernel_rfl) (Nat.le_of_ble_eq_true rfl) (by decide) rfl (pre_open rfl rfl rfl) ?_
  rintro G hG K hK W bi bc bs bk bu bb bo bg bl bp bn be Ncond Nob Nop Nloop Nscope hN Nfin hf _ ⟨cs', hT⟩
  obtain ⟨p, lo, len, cap, xs, hv, hle, rfl⟩ := id hT
  obtain ⟨bytes, escape, left, number, over⟩ := q
  simp only at hq hle hv
  have hsub : bi .sub .i64 (Int.ofNat left) 1 = Int.ofNat (left - 1) := by rw [isub hN (by simp; omega) (by simp; omega)]; simp; omega
  cbv
  refine op_ hN (call_ (index_byte_spec hexS (bi .or .u8 b 32)) hG [] rfl rfl rfl rfl rfl ?_)
  intro d hd
  have hd2 : hexOf b = d := by rw [hd, bi_ hN]; rfl
  clear hd
  have hnum : bi .add .i64 (bi .mul .i64 16 number) d = (qtNum ⟨bytes, escape, left, number, over⟩ d).number := by rw [bi_ hN]; rfl
  have hbad : qtDigit ⟨bytes, escape, left, number, over⟩ b = (if bc .lss b 48 || (bc .lss d 0 || (bc .lss d 10 && bc .gtr b 57)) then (9, ⟨bytes, escape, left, number, over⟩)
      else if left > 1 then (0, qtNum ⟨bytes, escape, left, number, over⟩ d) else match putS (qtNum ⟨bytes, escape, left, number, over⟩ d).number with
    | none => (9, qtNum ⟨bytes, escape, left, number, over⟩ d)
    | some s => qtAdd (qtNum ⟨bytes, escape, left, number, over⟩ d) s.data.toList) := by rw [bc_ hN]; simp only [qtDigit, hd2]; rfl
  generalize hnn : (qtNum ⟨bytes, escape, left, number, over⟩ d).number = nn at *
  have fin9 : ∀ cs, (if bc .lss b 48 || (bc .lss d 0 || (bc .lss d 10 && bc .gtr b 57)) then true else false) = true → cs = [Chunk.cells 0 258 [.vec p 1 1 lo len cap, .bool escape, .int .i64 (Int.ofNat left), .int .i64 number, .bool over], .arr p true 1 5 encB xs] → Nfin (.ret (.int .i64 9)) cs := by
    rintro _ hc rfl
    refine hf _ _ (fin_close rfl (.qt ⟨bytes, escape, left, number, over⟩) [0] [1] _ ⟨p, lo, len, cap, xs, hv, hle, rfl⟩ rfl (fin_ [] rfl rfl (hK _ _ ?_)))
    rw [hbad]
    split
    · rfl
    · rename_i h; rw [if_neg h] at hc; cases hc
  cbv
  repeat' (first | exact True.intro | with_reducible refine dup ?_ | refine And.intro ?_ ?_ | (refine cond_ hN (fun _ => ?_) (fun _ => ?_) <;> try cbv))
  all_goals first
    | (refine fin9 _ ?_ rfl
       simp only [*, Bool.true_or, Bool.or_true, Bool.true_and, Bool.and_true, Bool.false_or, Bool.or_false, if_true]
       done)
    | skip
  all_goals
    have hgood : qtDigit ⟨bytes, escape, left, number, over⟩ b = if left > 1 then (0, qtNum ⟨bytes, escape, left, number, over⟩ d) else match putS nn with
      | none => (9, qtNum ⟨bytes, escape, left, number, over⟩ d)
      | some s => qtAdd (qtNum ⟨bytes, escape, left, number, over⟩ d) s.data.toList := by
      rw [hbad]; simp only [*, Bool.true_or, Bool.or_true, Bool.true_and, Bool.and_true, Bool.false_or, Bool.or_false, Bool.and_false, Bool.false_and, Bool.false_eq_true, if_false]
    have hq1 : qtNum ⟨bytes, escape, left, number, over⟩ d = ⟨bytes, escape, left - 1, nn, over⟩ := by rw [← hnn]; rfl
    rw [hq1] at hgood
    simp only [hnum, hsub]
    first
    | (refine hf _ _ (fin_close rfl (.qt ⟨bytes, escape, left - 1, nn, over⟩) [0] [1] _ ⟨p, lo, len, cap, xs, hv, ⟨hle.1, by simp only; omega⟩, rfl⟩ rfl (fin_ [] rfl rfl (hK _ _ ?_)))
       have h := ‹bc .gtr (bi .sub .i64 (Int.ofNat left) 1) 0 = true›
       rw [hsub, cgt hN] at h; simp at h
       rw [hgood, if_pos (by omega)]
       done)
    | skip
  all_goals
      have h := ‹bc .gtr (bi .sub .i64 (Int.ofNat left) 1) 0 = false›
      rw [hsub, cgt hN] at h; simp at h
      rw [if_neg (by omega)] at hgood
      have hle1 : left - 1 ≤ 4 := by omega
      clear hsub hbad fin9 hq1
      generalize left - 1 = left1 at *
      refine op_ hN (call_ (put_spec nn) hG [] rfl rfl rfl rfl rfl ?_)
      intro s ok hs
      cases ok with
      | false =>
        cbv
        refine cond_ hN (fun _ => ?_) (fun h => by simp at h)
        cbv
        refine hf _ _ (fin_close rfl (.qt ⟨bytes, escape, left1, nn, over⟩) [0] [1] _ ⟨p, lo, len, cap, xs, hv, ⟨hle.1, hle1⟩, rfl⟩ rfl (fin_ [] rfl rfl (hK _ _ ?_)))
        rw [hgood]
        unfold putR at hs
        split at hs
        · exact absurd (show false = true from congrArg Prod.snd hs) (by decide)
        · rename_i hn; rw [hn]
      | true =>
        have hps : putS nn = some s := by
          unfold putR at hs
          split at hs
          · rename_i u hn; rw [hn, show s = u from congrArg Prod.fst hs]
          · exact absurd (show true = false from congrArg Prod.snd hs) (by decide)
        rw [hps] at hgood
        have hsz : s.data.toList.length = s.size := by rw [Array.length_toList]; rfl
        cbv
        refine cond_ hN (fun h => by simp at h) (fun _ => ?_)
        cbv
        refine op_ hN (str_bytes ty_ok rfl rfl rfl rfl rfl rfl rfl ?_)
        intro m cap2 ys hm hcap hmc hys
        cbv
        refine op_ hN (inline_ BB_ok (tb := ty) rfl pl193 Tryz.call193 Tryz.func193 rfl (by kernel_rfl) (Nat.le_of_ble_eq_true rfl) ?_)
        intro W2 bi2 bc2 bs2 bk2 bu2 bb2 bo2 bg2 bl2 bp2 bn2 be2 Ncond2 Nob2 Nop2 Nloop2 Nscope2 hN2
        cbv
        have hs4 := putS_size hps
        have hlen : len = bytes.length := hv.length.symm
        have hadd : bi2 .add .i64 (Int.ofNat len) (Int.ofNat m) = Int.ofNat (len + m) := by rw [iadd hN2 (by simp; omega) (by simp; omega)]; simp
        refine cond_ hN2 (fun h => ?_) (fun h => ?_)
        · cbv
          rw [hadd, cgt hN2] at h
          simp only [decide_eq_true_eq, decide_eq_false_iff_not, Int.ofNat_eq_natCast, gt_iff_lt, ge_iff_le, Bool.not_eq_true', Bool.not_eq_false', Int.not_lt, Int.not_le] at h
          refine hf _ _ (fin_close rfl (.qt ⟨bytes, escape, left1, nn, over⟩) [0] [1] _ ⟨p, lo, len, cap, xs, hv, ⟨hle.1, hle1⟩, rfl⟩ rfl (fin_ [] rfl rfl (hK _ _ ?_)))
          rw [hgood]; simp only [qtAdd]; rw [if_pos (by omega)]
        · rw [hadd, cgt hN2] at h
          simp only [decide_eq_true_eq, decide_eq_false_iff_not, Int.ofNat_eq_natCast, gt_iff_lt, ge_iff_le, Bool.not_eq_true', Bool.not_eq_false', Int.not_lt, Int.not_le] at h
          have h48 : len + m ≤ 48 := by
            omega
          cbv
          refine op_ hN2 (append_vec (new := s.data.toList) (z := 0) ty_ok rfl rfl rfl rfl (fun k => by simp) rfl rfl wideB rfl rfl (src_vec wideB rfl (by omega) (fun h => by cases h) (by rw [List.drop_zero, hys])) hv.pr hv.room hv.fits (by simp; omega) (by decide) ?_)
          intro p' lo' m' cap' xs' hm' e1 e2 e3 e4
          cbv
          refine hf _ _ (fin_close rfl (.qt ⟨bytes ++ s.data.toList, escape, left1, nn, over⟩) [0] [3] _ ⟨p', lo', m', cap', xs', ⟨e1, e2, e3, by rw [e4, hv.eq]⟩, ⟨by simp only [List.length_append]; omega, hle1⟩, rfl⟩ rfl (fin_ [] rfl rfl (hK _ _ ?_)))
          rw [hgood]; simp only [qtAdd]; rw [if_neg (by omega)]
end Hx
/- Names on a row: what is computed. -/
namespace Hx
open Go Sx Go.Proofs
set_option maxRecDepth 100000
set_option maxHeartbeats 4000000
set_option linter.unusedVariables false
set_option linter.unusedSimpArgs false
variable {GOk : Gl → Prop}
/-- does a name go on here? f: where it began; p: may it have points? -/
def nameC (s : ByteArray) (f : Nat) (p : Bool) (k : Nat) : Bool :=
  decide (k < s.size) && ((p || !isB s k 46) && (localOk (⟨#[97]⟩ ++ Utf8.encode (bt s (Int.ofNat k))) && (decide (k > f) || localOk (Utf8.encode (bt s (Int.ofNat k))))))
/-- where a name ends; which error (0: none) -/
def nameGo (s : ByteArray) (f : Nat) (p : Bool) (k : Nat) : Nat × Int :=
  if nameC s f p k then (if k - f ≥ 16 then (k, 4) else nameGo s f p (k + 1)) else if k = f then (k, 2) else (k, 0)
 termination_by s.size - k
 decreasing_by
  have h : nameC s f p k = true := by assumption
  simp [nameC] at h; omega
theorem nameGo_le (s : ByteArray) (f : Nat) (p : Bool) (k : Nat) (h : k ≤ s.size) : (nameGo s f p k).1 ≤ s.size ∧ k ≤ (nameGo s f p k).1 := by
  induction k using nameGo.induct s f p with
  | case1 k hc h16 => rw [nameGo, if_pos hc, if_pos h16]; exact ⟨h, Nat.le_refl _⟩
  | case2 k hc h16 ih =>
    rw [nameGo, if_pos hc, if_neg h16]
    have : k < s.size := by simp [nameC] at hc; exact hc.1
    have := ih this
    exact ⟨this.1, by omega⟩
  | case3 hc => rw [nameGo, if_neg hc, if_pos rfl]; exact ⟨h, Nat.le_refl _⟩
  | case4 k hc hk => rw [nameGo, if_neg hc, if_neg hk]; exact ⟨h, Nat.le_refl _⟩
end Hx
/- names.Local tells whether a text is a local name: the walk. -/
namespace Hx
open Go Sx Go.Proofs
set_option maxHeartbeats 4000000
set_option maxRecDepth 100000
set_option linter.unusedVariables false
set_option linter.unusedSimpArgs false
variable {Pd : Type} {I : Pd → List Nat → HP} {GOk : Gl → Prop}
theorem local_spec (s : ByteArray) : Triple (BB I GOk) 41 0 0 [.str s] [] (fun K => ∀ b, b = localOk s → K (.ret (.bool b)) []) := by
  refine triple_of BB_ok (tb := ty) rfl (n0 := 0) (fun _ : Unit => _) pl41 Tryz.call41 Tryz.func41 rfl (by kernel_rfl) (Nat.le_of_ble_eq_true rfl) (by decide) rfl pre_none ?_
  intro G hG K hK W bi bc bs bk bu bb bo bg bl bp bn be Ncond Nob Nop Nloop Nscope hN Nfin hf _ _
  cbv
  have finb : ∀ b cs, localOk s = b → Nfin (.ret (.bool b)) cs := fun b cs h => hf _ _ (fin_ [] (out' := .ret (.bool b)) rfl rfl (hK _ h.symm))
  have fint : ∀ cs, localOk s = true → Nfin (.ret .tt) cs := fun cs h => hf _ _ (fin_as (.bool true) (fun _ => rfl) (fin_ [] (out' := .ret (.bool true)) rfl rfl (hK _ h.symm)))
  have finf : ∀ cs, localOk s = false → Nfin (.ret .ff) cs := fun cs h => hf _ _ (fin_as (.bool false) (fun _ => rfl) (fin_ [] (out' := .ret (.bool false)) rfl rfl (hK _ h.symm)))
  refine cond_ hN (fun h1 => ?_) (fun h1 => ?_)
  · cbv
    refine finf _ ?_
    rw [seq_eq hN] at h1; simp at h1; subst h1; rfl
  · cbv
    refine cond_ hN (fun h2 => ?_) (fun h2 => ?_)
    · cbv
      refine finf _ ?_
      rw [cgt hN, len_eq hN] at h2; simp at h2
      simp only [localOk]; rw [if_pos (.inr (by omega))]
    · cbv
      refine op_ hN (str_bytes ty_ok rfl rfl rfl rfl rfl rfl rfl ?_)
      intro m cap xs hm hcap hmc hxs
      cbv
      rw [seq_eq hN] at h1; rw [cgt hN, len_eq hN] at h2; simp at h1 h2
      have hloc : localOk s = localGo 0 s.data.toList := by
        have : ¬ (s.size = 0 ∨ s.size > 16) := by
          rintro (h | h)
          · exact h1 (by obtain ⟨⟨l⟩⟩ := s; cases l with | nil => rfl | cons a r => simp [ByteArray.size] at h)
          · omega
        rw [localOk, if_neg this]
      have hm16 : m ≤ 16 := by omega
      refine loopN_ hN (loop_ hN ty_ok mixed (ι := Nat) (fun k => ⟨[(15, .vec true 0 1 0 m cap), (16, .int .i64 m), (17, .int .i64 k)], [.arr true true 0 5 encB xs], 1⟩) (fun k => k ≤ m ∧ localGo k (s.data.toList.drop k) = localGo 0 s.data.toList) (fun k => m - k) (Leads.idx 0 [0] ⟨Nat.zero_le _, rfl⟩ ⟨⟨rfl, rfl, rfl, trivial⟩, rfl, Nat.le_of_ble_eq_true rfl⟩) ?_)
      intro k hk Nnext hn _
      cbv
      refine cond_ hN (fun h3 => ?_) (fun h3 => ?_)
      · cbv
        have h3' : k < m := by rw [clt hN] at h3; simpa using h3
        refine ob_ hN ⟨⟨by simp, by simpa using h3'⟩, rfl, trivial⟩ ?_
        cbv
        refine op_ hN (load_byte ty_ok rfl rfl rfl rfl (by rw [plus0 hN]; omega) ?_)
        intro x b hx hb
        rw [plus0 hN] at hx
        have hdrop : s.data.toList.drop k = x :: s.data.toList.drop (k + 1) := by
          rw [← hxs, List.drop_take, List.drop_take]
          have hlt : k < xs.length := by omega
          rw [List.drop_eq_getElem_cons hlt, show m - k = (m - (k + 1)) + 1 by omega, List.take_succ_cons]
          rw [List.getElem?_eq_getElem hlt] at hx
          simp at hx; rw [hx]
        have hstep : localGo k (s.data.toList.drop k) = (if (!((bc .geq (bi .or .u8 b 32) 97 && bc .leq (bi .or .u8 b 32) 122) || bc .eql b 95)) && (bc .eql (Int.ofNat k) 0 || !(((bc .geq b 48 && bc .leq b 57) || bc .eql b 45) || bc .eql b 46)) then false else localGo (k + 1) (s.data.toList.drop (k + 1))) := by
          rw [hdrop]; subst hb; rw [bi_ hN, bc_ hN]
          simp only [localGo, letterB, moreB, bitC]
          congr 2
          cases k <;> simp <;> rfl
        clear hdrop hb hx
        cbv
        have fin1 : ∀ s' : St Pd, s'.cs = [.arr true true 0 5 encB xs] → eget s'.env 15 = some (.vec true 0 1 0 m cap) → eget s'.env 16 = some (.int .i64 m) → eget s'.env 17 = some (.int .i64 (bi .add .i64 (Int.ofNat k) (Int.ofNat 1))) → Nat.ble 0 s'.n = true → localGo k (s.data.toList.drop k) = localGo (k + 1) (s.data.toList.drop (k + 1)) → Nnext s' := by
          intro s' c1 c2 c3 c4 cn c5
          refine hn _ (Leads.nxt (k + 1) [0] ⟨h3', c5 ▸ hk.2⟩ (by omega) ⟨⟨c2, c3, ?_, trivial⟩, by rw [c1]; rfl, Nat.le_of_ble_eq_true cn⟩)
          rw [c4, inext hN (by omega)]; rfl
        have fin2 : ∀ cs, localGo k (s.data.toList.drop k) = false → Nfin (.ret .ff) cs := fun cs c => finf _ (by rw [hloc, ← hk.2, c])
        repeat' (refine cond_ hN (fun _ => ?_) (fun _ => ?_) <;> cbv)
        all_goals
          rcases Bool.eq_false_or_eq_true (bc .eql b 95) with h95 | h95 <;> rcases Bool.eq_false_or_eq_true (bc .eql b 46) with h46 | h46 <;> (try simp only [h95, reduceCtorEq] at *) <;> (try simp only [h46, reduceCtorEq] at *) <;> first
            | (refine fin1 _ rfl rfl rfl rfl rfl (hstep.trans ?_); simp only [*, Bool.true_and, Bool.and_true, Bool.false_and, Bool.and_false, Bool.true_or, Bool.or_true, Bool.false_or, Bool.or_false, Bool.not_true, Bool.not_false, Bool.false_eq_true, if_true, if_false]; done)
            | (refine fin2 _ (hstep.trans ?_); simp only [*, Bool.true_and, Bool.and_true, Bool.false_and, Bool.and_false, Bool.true_or, Bool.or_true, Bool.false_or, Bool.or_false, Bool.not_true, Bool.not_false, Bool.false_eq_true, if_true, if_false]; done)
      · cbv
        refine fint _ ?_
        rw [clt hN] at h3; simp at h3
        have : k = m := by omega
        rw [hloc, ← hk.2, this, List.drop_eq_nil_of_le (by rw [hm]; exact Nat.le_refl _)]
        rfl
end Hx
