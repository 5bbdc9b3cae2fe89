/-
  Part of a proof.
-/
import Derived.Test.YtkkifbjdbhjhaaaGreatDoorV10
import Derived.Test.YtkkifbjdbhjhaaaGreatDoorV05
import Derived.Test.YtkkifbjdbhjhaaaGreatDoorV08
import Derived.Test.YtkkifbjdbhjhaaaGreatDoorShelf
import Derived.Lib.AppendIntMem
import Derived.Lib.AtoiErrMem
import Derived.Lib.TrimU
import Derived.Calls
set_option linter.unusedVariables false
set_option linter.unusedSimpArgs false
/- pull.Core.tell, fails; events.Check.Done, events.New; src.New: the walks. -/
namespace Hx
open Go Sx Go.Proofs
set_option maxRecDepth 100000
set_option maxHeartbeats 4000000
set_option linter.unusedVariables false
set_option linter.unusedSimpArgs false
variable {GOk : Gl → Prop}
theorem done_spec (c : Chk) : Triple (BB Ip GOk) 63 1 1 [.ptr 0 0] [.abs (.chk c) [0]] (fun K => ∀ b, b = (c.over && c.opens.isEmpty) → K (.ret (.bool b)) [.abs (.chk c) [0]]) := by
  refine triple_of BB_ok (tb := ty) rfl (n0 := 2) (fun y : {cs' // Tm (.chk c) cs'} => csRen (sg [0] 1) y.1 ++ []) pl63 Tryz.call63 Tryz.func63 rfl (by kernel_rfl) (Nat.le_of_ble_eq_true rfl) (by decide) rfl (pre_open rfl rfl rfl) ?_
  rintro G hG K hK W bi bc bs bk bu bb bo bg bl bp bn be Ncond Nob Nop Nloop Nscope hN Nfin hf _ ⟨cs', hT⟩
  obtain ⟨hle, rfl⟩ := id hT
  have key : ∀ (ov : Bool) (p : Bool) (lo len cap : Nat), c.over = ov → (len = 0 ↔ c.opens = []) → (c.over && c.opens.isEmpty) = (ov && bc .eql (Int.ofNat len) 0) := by
    intro ov p lo len cap h1 h2
    rw [h1, ceq hN]
    congr 1
    cases hc : c.opens with
    | nil => have := h2.2 hc; subst this; rfl
    | cons o r => have : len ≠ 0 := fun e => by have := h2.1 e; rw [hc] at this; cases this
                  simp; omega
  cbv
  refine op_ hN (op_open rfl 0 4 rfl rfl rfl rfl ?_)
  rintro cs2 ⟨p, lo, len, cap, xs, hT2⟩
  have hT3 : Tm (.chkL c) cs2 := ⟨p, lo, len, cap, xs, hT2⟩
  generalize hov : c.over = ov at hT2
  cases hc : c.opens with
  | nil =>
    rw [hc] at hT2
    obtain ⟨hv, rfl⟩ := hT2
    have hl : len = 0 := by have := hv.length; simpa using this.symm
    have hk := key ov p lo len cap hov ⟨fun _ => hc, fun _ => hl⟩
    refine load_ ty_ok rfl ?_
    cbv
    repeat' (first | exact True.intro | with_reducible refine dup ?_ | refine And.intro ?_ ?_ | (refine cond_ hN (fun _ => ?_) (fun _ => ?_) <;> try cbv))
    · refine hf _ _ (fin_close rfl (.chkL c) [0, 1] [2] _ hT3 rfl (fin_close rfl (.chk c) [0] [1] [Chunk.abs (Pd.chkL c) [0, 1]] ⟨hle, rfl⟩ rfl (fin_ [] rfl rfl (hK _ ?_))))
      rw [hk]; simp only [*, Bool.true_and, Bool.and_true, Bool.false_and, Bool.and_false, Bool.true_or, Bool.or_true, Bool.false_or, Bool.or_false, Bool.not_true, Bool.not_false, Bool.false_eq_true, if_true, if_false, reduceCtorEq]
    · refine hf _ _ (fin_as (.bool false) (fun _ => rfl) (fin_close rfl (.chkL c) [0, 1] [2] _ hT3 rfl (fin_close rfl (.chk c) [0] [1] [Chunk.abs (Pd.chkL c) [0, 1]] ⟨hle, rfl⟩ rfl (fin_ [] rfl rfl (hK _ ?_)))))
      rw [hk]; simp only [*, Bool.true_and, Bool.and_true, Bool.false_and, Bool.and_false, Bool.true_or, Bool.or_true, Bool.false_or, Bool.or_false, Bool.not_true, Bool.not_false, Bool.false_eq_true, if_true, if_false, reduceCtorEq]
  | cons o r =>
    rw [hc] at hT2
    obtain ⟨g, l, hv, hlr, rfl⟩ := hT2
    have hl : len ≠ 0 := by have := hv.length; simp [ptrsOf] at this; omega
    have hk := key ov p lo len cap hov ⟨fun h => absurd h hl, fun h => by rw [hc] at h; cases h⟩
    refine load_ ty_ok rfl ?_
    cbv
    repeat' (first | exact True.intro | with_reducible refine dup ?_ | refine And.intro ?_ ?_ | (refine cond_ hN (fun _ => ?_) (fun _ => ?_) <;> try cbv))
    · refine hf _ _ (fin_close rfl (.chkL c) [0, 1] [2, 3] _ hT3 rfl (fin_close rfl (.chk c) [0] [1] [Chunk.abs (Pd.chkL c) [0, 1]] ⟨hle, rfl⟩ rfl (fin_ [] rfl rfl (hK _ ?_))))
      rw [hk]; simp only [*, Bool.true_and, Bool.and_true, Bool.false_and, Bool.and_false, Bool.true_or, Bool.or_true, Bool.false_or, Bool.or_false, Bool.not_true, Bool.not_false, Bool.false_eq_true, if_true, if_false, reduceCtorEq]
    · refine hf _ _ (fin_as (.bool false) (fun _ => rfl) (fin_close rfl (.chkL c) [0, 1] [2, 3] _ hT3 rfl (fin_close rfl (.chk c) [0] [1] [Chunk.abs (Pd.chkL c) [0, 1]] ⟨hle, rfl⟩ rfl (fin_ [] rfl rfl (hK _ ?_)))))
      rw [hk]; simp only [*, Bool.true_and, Bool.and_true, Bool.false_and, Bool.and_false, Bool.true_or, Bool.or_true, Bool.false_or, Bool.or_false, Bool.not_true, Bool.not_false, Bool.false_eq_true, if_true, if_false, reduceCtorEq]
def chk0 : Chk := ⟨[], false⟩
theorem ev_new_spec : Triple (BB Ip GOk) 60 0 1 [] [] (fun K => K (.ret (.ptr 0 0)) [.abs (.chk chk0) [0]]) := by
  refine triple_of BB_ok (tb := ty) rfl (n0 := 0) (fun _ : Unit => _) pl60 Tryz.call60 Tryz.func60 rfl (by kernel_rfl) (Nat.le_of_ble_eq_true rfl) (by decide) rfl pre_none ?_
  rintro G hG K hK W bi bc bs bk bu bb bo bg bl bp bn be Ncond Nob Nop Nloop Nscope hN Nfin hf _ _
  cbv
  refine hf _ _ ?_
  refine fin_noArr true 5 129 encP [] ?_
  refine fin_cput 0 [.vec false 5 1 0 0 0, .bool false] rfl (fun _ => rfl) ?_
  refine fin_close rfl (.chkL chk0) [0, 1] [5] [.cells 0 127 [.vec false 2 1 0 0 0, .bool false], .arr false true 2 129 encP []] ⟨false, 0, 0, 0, [], ⟨fun _ => rfl, Nat.le_refl _, Nat.le_refl _, rfl⟩, rfl⟩ rfl ?_
  exact fin_close rfl (.chk chk0) [0] [1] [Chunk.abs (Pd.chkL chk0) [0, 1]] ⟨Nat.zero_le _, rfl⟩ rfl (fin_ [0] rfl rfl hK)
theorem src_new_spec : Triple (BB Ip GOk) 52 0 1 [] [] (fun K => K (.ret (.ptr 0 0)) [.cells 0 120 [.int .i64 0, .int .u8 128, .int .u8 191]]) := by
  refine triple_of BB_ok (tb := ty) rfl (n0 := 0) (fun _ : Unit => _) pl52 Tryz.call52 Tryz.func52 rfl (by kernel_rfl) (Nat.le_of_ble_eq_true rfl) (by decide) rfl pre_none ?_
  rintro G hG K hK W bi bc bs bk bu bb bo bg bl bp bn be Ncond Nob Nop Nloop Nscope hN Nfin hf _ _
  cbv
  exact hf _ _ (fin_ [0] rfl rfl hK)
theorem tell_spec (tv td : Nat) (c : Core) (x : Ev) (hq : c.queue.length < 4294967296) : Triple (BB Ip GOk) 55 2 2 [.ptr 0 0, .agg [.int .i64 x.kind, .str x.text, .str x.val]] [.abs (.core c tv td) [0, 1]]
    (fun K => K (.ret (.tuple [])) [.abs (.core { c with queue := c.queue ++ [x] } tv td) [0, 1]]) := by
  obtain ⟨kind, text, val⟩ := x
  refine triple_of BB_ok (tb := ty) rfl (n0 := 6) (fun y : {cs' // Tm (.core c tv td) cs'} => csRen (sg [0, 1] 2) y.1 ++ []) pl55 Tryz.call55 Tryz.func55 rfl (by kernel_rfl) (Nat.le_of_ble_eq_true rfl) (by decide) rfl (pre_open rfl rfl rfl) ?_
  rintro G hG K hK W bi bc bs bk bu bb bo bg bl bp bn be Ncond Nob Nop Nloop Nscope hN Nfin hf _ ⟨cs', hT⟩
  obtain ⟨⟨sl, sa, sb⟩, queue, cat, closed, over, err, told⟩ := c
  obtain ⟨p, lo, len, cap, xs, hv, rfl⟩ := id hT
  simp only at hv hq
  have hlen := hv.length
  cbv
  repeat' (first | exact True.intro | with_reducible refine dup ?_ | refine And.intro ?_ ?_)
  all_goals
    refine op_ hN (append_vec (new := [(⟨kind, text, val⟩ : Ev)]) (z := ⟨0, ⟨#[]⟩, ⟨#[]⟩⟩) ty_ok rfl rfl rfl rfl (fun k => by simp) rfl rfl wideE rfl rfl (src_cells wideE rfl (fun _ _ _ _ => rfl) rfl) hv.pr hv.room hv.fits (by simp; omega) (by decide) ?_)
    intro p' lo' m' cap' xs' hm' e1 e2 e3 e4
    cbv
    repeat' (first | exact True.intro | with_reducible refine dup ?_ | refine And.intro ?_ ?_)
    all_goals
      refine hf _ _ (fin_close rfl (.core ⟨⟨sl, sa, sb⟩, queue ++ [⟨kind, text, val⟩], cat, closed, over, err, told⟩ tv td) [0, 1] [2, 18] _ ⟨p', lo', m', cap', xs', ⟨e1, e2, e3, by rw [e4, hv.eq]⟩, rfl⟩ rfl (fin_ [] rfl rfl hK))
end Hx
/- The monad of a machine and the decoder that it tells. -/
namespace Hx
open Go Sx Go.Proofs
set_option maxRecDepth 100000
set_option maxHeartbeats 4000000
set_option linter.unusedVariables false
set_option linter.unusedSimpArgs false
variable {GOk : Gl → Prop}
inductive Res (α : Type) where
  | ok (a : α)
  | err (e at_ : Int)
  | ovf
/-- the machine, and the decoder that it tells -/
structure OS (M : Type) where
  m : M
  c : Core
abbrev OM (M α : Type) := OS M → Res α × OS M
def OM.bind {M α β : Type} (x : OM M α) (f : α → OM M β) : OM M β := fun s => match x s with
  | (.ok a, s') => f a s'
  | (.err e a, s') => (.err e a, s')
  | (.ovf, s') => (.ovf, s')
def OM.ret {M α : Type} (a : α) : OM M α := fun s => (.ok a, s)
def OM.fail {M α : Type} (e a : Int) : OM M α := fun s => (.err e a, s)
def ev0 (k : Int) : Ev := ⟨k, ⟨#[]⟩, ⟨#[]⟩⟩
theorem okE0 (k : Int) (h : k ≠ 10) (h2 : k ≠ 11) : okE (ev0 k) := ⟨Nat.le_of_ble_eq_true rfl, Nat.le_of_ble_eq_true rfl, fun _ => Nat.le_of_ble_eq_true rfl, trivial⟩
/- on a row: where it goes on -/
def bytesOf (l : List UInt8) : ByteArray := ⟨l.toArray⟩
def wNull : ByteArray := ⟨#[110, 117, 108, 108]⟩
def wTrue : ByteArray := ⟨#[116, 114, 117, 101]⟩
def wFalse : ByteArray := ⟨#[102, 97, 108, 115, 101]⟩
end Hx
/- delim's machine: the model. -/
namespace Hx
open Go Sx Go.Proofs
set_option maxRecDepth 100000
set_option maxHeartbeats 4000000
set_option linter.unusedVariables false
set_option linter.unusedSimpArgs false
variable {GOk : Gl → Prop}
abbrev DS := Dlm × List Ev
def dTell (x : Ev) (s : DS) : Option DS := if s.2.length ≥ 4294967296 then none else some (s.1, s.2 ++ [x])
def dSays (b : UInt8) (s : DS) : Option (Int × DS) := if s.1.cell.length ≥ 48 then some (4, s) else some (0, ({ s.1 with cell := s.1.cell ++ [b] }, s.2))
def dNames (t : ByteArray) (more : Bool) (s : DS) : Option (Int × DS) :=
  if s.1.header.length ≥ 900000 then none
  else if hasB s.1.header t then some (6, s)
  else if more && decide (s.1.header.length + 1 ≥ 8) then some (16, ({ s.1 with header := s.1.header ++ [t] }, s.2))
  else if more then some (0, ({ s.1 with header := s.1.header ++ [t] }, s.2))
  else some (0, ({ s.1 with header := s.1.header ++ [t], named := true, row := false }, s.2))
def dRow (t : ByteArray) (more : Bool) (s : DS) : Option (Int × DS) :=
  match (if s.1.cells = 0 then dTell (ev0 7) s else some s) with
  | none => none
  | some s1 => match s1.1.header[s1.1.cells]? with
    | none => none
    | some h => match dTell ⟨8, h, ⟨#[]⟩⟩ s1 with
      | none => none
      | some s2 => match dTell ⟨4, t, ⟨#[]⟩⟩ s2 with
        | none => none
        | some s3 =>
          if (more != decide (s3.1.cells + 1 < s3.1.header.length)) = true then some (17, ({ s3.1 with cells := s3.1.cells + 1 }, s3.2))
          else if more then some (0, ({ s3.1 with cells := s3.1.cells + 1 }, s3.2))
          else match dTell (ev0 9) s3 with
            | none => none
            | some s4 => some (0, ({ s4.1 with cells := 0, row := false }, s4.2))
def dEnds (more : Bool) (s : DS) : Option (Int × DS) :=
  if s.1.named then dRow (bytesOf s.1.cell) more ({ s.1 with cell := [], state := 0 }, s.2) else dNames (bytesOf s.1.cell) more ({ s.1 with cell := [], state := 0 }, s.2)
def dStart (s : DS) : Option DS := if s.1.started then some s else dTell (ev0 5) ({ s.1 with started := true }, s.2)
def dByte (b : UInt8) (s : DS) : Option (Int × DS) :=
  if s.1.state = 2 ∧ b = 34 then some (0, ({ s.1 with state := 3 }, s.2))
  else if s.1.state = 2 then dSays b s
  else if b = 44 then dEnds true s
  else if b = 10 then dEnds false s
  else if s.1.state = 3 ∧ b = 34 then dSays b ({ s.1 with state := 2 }, s.2)
  else if s.1.state = 3 ∨ b < 32 ∨ (s.1.state = 1 ∧ b = 34) then some (2, s)
  else if b = 34 then some (0, ({ s.1 with state := 2 }, s.2))
  else dSays b ({ s.1 with state := 1 }, s.2)
def dStep (b : UInt8) (s : DS) : Option (Int × DS) := match dStart s with
  | none => none
  | some s1 => dByte b ({ s1.1 with row := true }, s1.2)
def dEnd (s : DS) : Option (Int × DS) := match (if s.1.started then some s else dTell (ev0 5) s) with
  | none => none
  | some s1 =>
    if s1.1.state = 2 then some (2, s1)
    else match (if s1.1.row then dEnds false s1 else some (0, s1)) with
      | none => none
      | some (e, s2) => if e ≠ 0 then some (e, s2) else match dTell (ev0 6) s2 with
        | none => none
        | some s3 => some (0, s3)
def dlm0 : Dlm := ⟨0, false, false, [], false, [], 0⟩
def dlmStep (b : UInt8) (s : OS Dlm) : Option (Int × OS Dlm) := match dStep b (s.m, s.c.queue) with
  | none => none
  | some (e, m, q) => some (e, ⟨m, { s.c with queue := q }⟩)
def dlmEnd (s : OS Dlm) : Option (Int × OS Dlm) := match dEnd (s.m, s.c.queue) with
  | none => none
  | some (e, m, q) => some (e, ⟨m, { s.c with queue := q }⟩)
end Hx
/- What a checker keeps; events that can all be taken. -/
namespace Hx
open Go Sx Go.Proofs
set_option maxRecDepth 100000
set_option maxHeartbeats 4000000
set_option linter.unusedVariables false
set_option linter.unusedSimpArgs false
variable {GOk : Gl → Prop}
section
variable {right : Ev → Bool}
/-- a checker goes through events, which all may be -/
def stepsC (right : Ev → Bool) : Chk → List Ev → Option Chk
  | c, [] => some c
  | c, x :: r => if (chkStep right c x).1 = 0 then stepsC right (chkStep right c x).2 r else none
theorem stepsC_snoc {x : Ev} : ∀ {l : List Ev} {c c1 : Chk}, stepsC right c l = some c1 → (chkStep right c1 x).1 = 0 → stepsC right c (l ++ [x]) = some (chkStep right c1 x).2
  | [], c, c1, h, hx => by
    simp only [stepsC, Option.some.injEq] at h; subst h
    simp only [List.nil_append, stepsC]; rw [if_pos hx]
  | y :: r, c, c1, h, hx => by
    simp only [stepsC, List.cons_append] at h ⊢
    split at h
    · rename_i hy; rw [if_pos hy]; exact stepsC_snoc h hx
    · exact nomatch h
/-- what is told: right events, not too many -/
def QOk (l : List Ev) : Prop := (∀ x ∈ l, okE x) ∧ l.length ≤ 4294967296
def dOf (k : Int) : Nat := if k57a k then 1 else 0
def eOf (k : Int) : Nat := if k1234 k || k57a k || k == 8 || k == 11 then 0 else 1
theorem chkStep_dep (c : Chk) (x : Ev) (h : (chkStep right c x).1 = 0) : (chkStep right c x).2.opens.length + eOf x.kind = c.opens.length + dOf x.kind ∧ (c.over = true → (chkStep right c x).2.over = true) ∧
    (k57a x.kind = true → c.opens = [] → (chkStep right c x).2.over = true) := by
  have hs : (chkStands c x).opens.length = c.opens.length := by unfold chkStands; split <;> simp [*]
  have ho : c.over = true → (chkStands c x).over = true := by unfold chkStands; split <;> simp
  have ho2 : c.opens = [] → (chkStands c x).over = true := by intro h; unfold chkStands; rw [h]
  revert h
  unfold chkStep
  split
  · intro h; simp at h
  · split
    · rename_i h1
      have h2 : k57a x.kind = false := by
        simp only [k1234, Bool.or_eq_true, beq_iff_eq] at h1
        rcases h1 with h | h | h | h <;> rw [h] <;> rfl
      split
      · intro h; simp at h
      · intro _
        refine ⟨?_, ho, fun h => by rw [h2] at h; cases h⟩
        rw [show eOf x.kind = 0 by unfold eOf; rw [h1]; rfl, show dOf x.kind = 0 by unfold dOf; rw [h2]; rfl, hs]
    · rename_i h1
      have h1 : k1234 x.kind = false := by simpa using h1
      split
      · rename_i h2
        split
        · intro h; simp at h
        · split
          · intro h; simp at h
          · intro _
            refine ⟨?_, fun h => ho h, fun _ h => ho2 h⟩
            rw [show eOf x.kind = 0 by unfold eOf; rw [h1, h2]; rfl, show dOf x.kind = 1 by unfold dOf; rw [h2]; rfl]
            simp only [chkOpen, List.length_cons, hs]
      · rename_i h2
        have h2 : k57a x.kind = false := by simpa using h2
        have hd : dOf x.kind = 0 := by unfold dOf; rw [h2]; rfl
        split
        · intro h; simp at h
        · rename_i o r hc
          split
          · rename_i h8
            split
            · intro h; simp at h
            · intro _
              refine ⟨?_, id, fun h => by rw [h2] at h; cases h⟩
              rw [hd, show eOf x.kind = 0 by unfold eOf; rw [h1, h2, h8]; rfl, hc]; rfl
          · rename_i h8
            split
            · rename_i h11
              split
              · intro h; simp at h
              · intro _
                refine ⟨?_, id, fun h => by rw [h2] at h; cases h⟩
                rw [hd, show eOf x.kind = 0 by unfold eOf; rw [h1, h2, h11]; simp, hc]; rfl
            · rename_i h11
              split
              · intro h; simp at h
              · intro _
                refine ⟨?_, id, fun h => by rw [h2] at h; cases h⟩
                have h8 : (x.kind == 8) = false := by simpa using h8
                have h11 : (x.kind == 11) = false := by simpa using h11
                rw [hd, show eOf x.kind = 1 by unfold eOf; rw [h1, h2, h8, h11]; rfl, hc]; rfl
theorem chkStep_e (c : Chk) (x : Ev) : 0 ≤ (chkStep right c x).1 := by
  have hnm : ∀ o : Opn, 0 ≤ (opnNamed o x).1 := by intro o; unfold opnNamed; split <;> (try split) <;> simp
  unfold chkStep
  split
  · simp
  · split
    · split <;> simp
    · split
      · split
        · simp
        · split <;> simp
      · split
        · simp
        · split
          · split
            · simp
            · exact hnm _
          · split
            · split
              · simp
              · exact hnm _
            · split <;> simp
def chkDone (c : Chk) : Bool := c.over && c.opens.isEmpty
def wholeGo (right : Ev → Bool) : Chk → List Ev → Nat → Nat × Int
  | c, [], i => (i, if chkDone c then 0 else 19)
  | c, x :: r, i => if (chkStep right c x).1 ≠ 0 then (i, (chkStep right c x).1) else wholeGo right (chkStep right c x).2 r (i + 1)
theorem whole_law : ∀ (l : List Ev) (c c1 : Chk) (i : Nat), stepsC right c l = some c1 → wholeGo right c l i = (i + l.length, if chkDone c1 then 0 else 19)
  | [], c, c1, i, h => by simp only [stepsC, Option.some.injEq] at h; subst h; rfl
  | x :: r, c, c1, i, h => by
    simp only [stepsC] at h
    split at h
    · rename_i hx
      simp only [wholeGo]; rw [if_neg (by simpa using hx), whole_law r _ c1 _ h]
      simp only [List.length_cons]; rw [show i + 1 + r.length = i + (r.length + 1) by omega]
    · exact nomatch h
 end
end Hx
/- Contracts of the library: IndexByte, ValidRune. -/
namespace Hx
open Go Sx Go.Proofs
set_option maxRecDepth 100000
set_option maxHeartbeats 4000000
set_option linter.unusedVariables false
set_option linter.unusedSimpArgs false
variable {GOk : Gl → Prop}
variable {Pd : Type} {I : Pd → List Nat → HP}
theorem index_byte_spec (s : ByteArray) (c : Int) : Triple (BB I GOk) 120 0 0 [.str s, .int .u8 c] [] (fun K => ∀ d, d = Lib.indexByte s.data.toList c.toNat.toUInt8 → K (.ret (.int .i64 d)) []) := by
  refine triple_lib (.ret (.int .i64 (Lib.indexByte s.data.toList c.toNat.toUInt8))) (fun K h => h _ rfl) Tryz.call120 fun G hG ρ w _ _ => (Tryz.strings_IndexByte s c w).mono ?_
  rintro e w' ⟨rfl, rfl⟩
  exact ⟨rfl, Nat.le_refl _, fun _ _ => rfl, rfl⟩
theorem valid_rune_spec (r : Int) : Triple (BB I GOk) 204 0 0 [.int .i32 r] [] (fun K => ∀ b, b = Lib.validRune r → K (.ret (.bool b)) []) := by
  refine triple_lib (.ret (.bool (Lib.validRune r))) (fun K h => h _ rfl) Tryz.call204 fun G hG ρ w _ _ => (Tryz.utf8_ValidRune r w).mono ?_
  rintro e w' ⟨rfl, rfl⟩
  exact ⟨rfl, Nat.le_refl _, fun _ _ => rfl, rfl⟩
theorem bt_get (s : ByteArray) (k : Nat) (h : k < s.data.toList.length) : bt s (Int.ofNat k) = ((s.data.toList[k]'h).toNat : Nat) := by
  have h2 : k < s.data.size := by simpa using h
  have h3 : k < s.size := h2
  simp [bt, Array.getD, h3]
end Hx
/- Contracts of the library: ValidString, CutPrefix, Cut, ToLower, TrimRight, Atoi, Itoa. -/
namespace Hx
open Go Sx Go.Proofs
set_option maxRecDepth 100000
set_option maxHeartbeats 4000000
set_option linter.unusedVariables false
set_option linter.unusedSimpArgs false
variable {GOk : Gl → Prop}
/-- the tables that the library reads, as the program's text lays them -/
structure TabsOk (w : World) : Prop where
  utf8 : Lib.Utf8Tabs 1 2 w
  max : ∃ m, w.cell? ⟨0, 0, none⟩ = some (.int .i64 m)
  err1 : ∃ ev, w.cell? ⟨4, 0, none⟩ = some ev ∧ (ev = .nilIface ∨ ∃ te pe, ev = .iface te pe)
  err2 : ∃ ev, w.cell? ⟨5, 0, none⟩ = some ev ∧ (ev = .nilIface ∨ ∃ te pe, ev = .iface te pe)
  pow : Lib.TabIs Tryz.prog w "internal/strconv.uint64pow10" .u64 Lib.pow10Tab
def GTab (GOk : Gl → Prop) : Prop := ∀ G, GOk G → ∀ w : World, (∀ b, b < G.base → w.heap[b]? = G.w0 b) → G.base ≤ w.heap.size → TabsOk w
variable {Pd : Type} {I : Pd → List Nat → HP}
theorem valid_string_spec (hT : GTab GOk) (s : ByteArray) (hs : s.size < 1099511627776) : Triple (BB I GOk) 136 0 0 [.str s] [] (fun K => ∀ b, b = Lib.validD s.data.toList → K (.ret (.bool b)) []) := by
  refine triple_lib (.ret (.bool (Lib.validD s.data.toList))) (fun K h => h _ rfl) Tryz.call136 fun G hG ρ w h1 h2 => (Tryz.utf8_ValidString s w (by omega) (hT G hG w h1 h2).utf8).mono ?_
  rintro e w' ⟨rfl, h⟩
  exact ⟨rfl, h.size, h.block, Prod.ext h.os h.output⟩
theorem cut_prefix_spec (s p : ByteArray) : Triple (BB I GOk) 92 0 0 [.str s, .str p] [] (fun K => ∀ (r : ByteArray) b, r.data.toList = Lib.trimPrefix s.data.toList p.data.toList → b = Lib.hasPrefix s.data.toList p.data.toList → K (.ret (.tuple [.str r, .bool b])) []) := by
  refine triple_lib (.ret (.tuple [.str ⟨(Lib.trimPrefix s.data.toList p.data.toList).toArray⟩, .bool (Lib.hasPrefix s.data.toList p.data.toList)])) (fun K h => h _ _ rfl rfl) Tryz.call92 fun G hG ρ w _ _ => (Tryz.strings_CutPrefix s p w).mono ?_
  rintro e w' ⟨rfl, rfl⟩
  exact ⟨rfl, Nat.le_refl _, fun _ _ => rfl, rfl⟩
theorem scut_spec (hT : GTab GOk) (s sep : ByteArray) (hs : s.size < 1500000) : Triple (BB I GOk) 93 0 0 [.str s, .str sep] [] (fun K => ∀ (a b : ByteArray) c, (a.data.toList, b.data.toList, c) = Lib.cut s.data.toList sep.data.toList → K (.ret (.tuple [.str a, .str b, .bool c])) []) := by
  refine triple_lib (.ret (.tuple [.str ⟨(Lib.cut s.data.toList sep.data.toList).1.toArray⟩, .str ⟨(Lib.cut s.data.toList sep.data.toList).2.1.toArray⟩, .bool (Lib.cut s.data.toList sep.data.toList).2.2])) (fun K h => h _ _ _ rfl) Tryz.call93 fun G hG ρ w h1 h2 => ?_
  obtain ⟨m, hm⟩ := (hT G hG w h1 h2).max
  refine (Tryz.strings_Cut s sep m w (by omega) hm).mono ?_
  rintro e w' ⟨rfl, n, rfl⟩
  have h := Lib.below_grow w.heap.size w (Nat.le_refl _) n #[]
  have h2 : (Go.Sort.grow (w.drewN n) #[]).heap = (w.drewN n).heap := by simp [Go.Sort.grow]
  have h3 : (Go.Sort.grow (w.drewN n) #[]).os = (w.drewN n).os := by simp [Go.Sort.grow]
  have h4 : (Go.Sort.grow (w.drewN n) #[]).output = (w.drewN n).output := by simp [Go.Sort.grow]
  exact ⟨rfl, h2 ▸ h.size, fun b hb => h2 ▸ h.block b hb, Prod.ext (h3.symm.trans h.os) (h4.symm.trans h.output)⟩
theorem to_lower_spec (s : ByteArray) (hs : s.size < 1000000) (ha : ∀ b ∈ s.data.toList, b.toNat < 128) : Triple (BB I GOk) 153 0 0 [.str s] [] (fun K => ∀ r : ByteArray, r.data.toList = Lib.toLowerA s.data.toList → K (.ret (.str r)) []) := by
  refine triple_lib (.ret (.str ⟨(Lib.toLowerA s.data.toList).toArray⟩)) (fun K h => h _ rfl) Tryz.call153 fun G hG ρ w _ _ => (Tryz.strings_ToLower_ascii s w (by omega) (fun j b hj => ha b (List.mem_of_getElem? hj))).mono ?_
  rintro e w' ⟨rfl, h⟩
  exact ⟨rfl, h.size, h.block, Prod.ext h.os h.output⟩
theorem trim_right0_spec (s : ByteArray) (hs : s.size < 1000000) : Triple (BB I GOk) 156 0 0 [.str s, .str ⟨#[48]⟩] [] (fun K => ∀ r : ByteArray, r.data.toList = Lib.trimRightB s.data.toList 48 → K (.ret (.str r)) []) := by
  refine triple_lib (.ret (.str ⟨(Lib.trimRightB s.data.toList 48).toArray⟩)) (fun K h => h _ rfl) Tryz.call156 fun G hG ρ w _ _ => (Tryz.strings_TrimRight_one s 48 (by decide) w (by omega)).mono ?_
  rintro e w' ⟨rfl, rfl⟩
  exact ⟨rfl, Nat.le_refl _, fun _ _ => rfl, rfl⟩
theorem trim_left0_spec (s : ByteArray) : Triple (BB I GOk) 155 0 0 [.str s, .str ⟨#[48]⟩] [] (fun K => ∀ r : ByteArray, r.data.toList = Lib.trimLeftB s.data.toList 48 → K (.ret (.str r)) []) := by
  refine triple_lib (.ret (.str ⟨(Lib.trimLeftB s.data.toList 48).toArray⟩)) (fun K h => h _ rfl) Tryz.call155 fun G hG ρ w _ _ => (Tryz.strings_TrimLeft_one s 48 (by decide) w).mono ?_
  rintro e w' ⟨rfl, rfl⟩
  exact ⟨rfl, Nat.le_refl _, fun _ _ => rfl, rfl⟩
theorem itoa_spec (hT : GTab GOk) (n : Int) (h0 : -1000 ≤ n) (h1 : n ≤ 1000) : Triple (BB I GOk) 145 0 0 [.int .i64 n] [] (fun K => ∀ r : ByteArray, r.data.toList = Lib.itoa n → K (.ret (.str r)) []) := by
  refine triple_lib (.ret (.str ⟨(Lib.itoa n).toArray⟩)) (fun K h => h _ rfl) Tryz.call145 fun G hG ρ w g1 g2 => (Tryz.strconv_Itoa n (by omega) (by omega) w (hT G hG w g1 g2).pow).mono ?_
  rintro e w' ⟨rfl, k, os, rfl⟩
  have h := Lib.below_grow w.heap.size w (Nat.le_refl _) k os
  exact ⟨rfl, h.size, h.block, Prod.ext h.os h.output⟩
def atoiV (l : List UInt8) : Option Int := match Lib.atoiAll l with
  | .ok v => some v
  | _ => none
theorem atoi_spec (hT : GTab GOk) (s : ByteArray) (hs : s.size < 1000000) : Triple (BB I GOk) 154 0 0 [.str s] [] (fun K => (∀ v, atoiV s.data.toList = some v → K (.ret (.tuple [.int .i64 v, .niliface])) []) ∧ (atoiV s.data.toList = none → ∀ n u, K (.ret (.tuple [.int .i64 n, .iface 203 (.raw u)])) [])) := by
  rcases h : Lib.atoiAll s.data.toList with v | _ | _
  · skip
    refine triple_lib (.ret (.tuple [.int .i64 v, .niliface])) (fun K hk => hk.1 v (by simp only [atoiV, h])) Tryz.call154 fun G hG ρ w g1 g2 => (Tryz.strconv_Atoi_ok s (by omega) v h w).mono ?_
    rintro e w' ⟨rfl, rfl | ⟨t, rfl⟩⟩
    · exact ⟨rfl, Nat.le_refl _, fun _ _ => rfl, rfl⟩
    · have h := Lib.bytesWorld_below w 5 t
      exact ⟨rfl, h.size, h.block, Prod.ext h.os h.output⟩
  · skip
    refine triple_libE (α := Int × Value) (fun x => .ret (.tuple [.int .i64 x.1, .iface 203 (.raw x.2)])) (fun _ => True) (fun K hk x _ => hk.2 (by simp only [atoiV, h]) x.1 x.2) Tryz.call154 fun G hG ρ w g1 g2 => ?_
    obtain ⟨ev, hv, hev⟩ := (hT G hG w g1 g2).err1
    have hc : Calls Tryz.prog 154 #[.string s] w fun e w' => ∃ N, e = .returned (.tuple #[.int .i64 (0), .iface 203 (.pointer (some ⟨N, 0, none⟩))]) ∧ w.heap.size ≤ N ∧ w'.heap[N]? = some (.cells #[.string ⟨#[65, 116, 111, 105]⟩, .string s, ev] 219 (0, 0)) ∧ Go.RowKit.Below w.heap.size w w' := Any.strconv_Atoi_syntax Tryz.laysC172 s (by omega) h ev w hv hev
    refine hc.mono ?_
    rintro e w' ⟨N, rfl, -, -, h⟩
    exact ⟨⟨(0, .pointer (some ⟨N, 0, none⟩)), trivial, rfl⟩, h.size, h.block, Prod.ext h.os h.output⟩
  · skip
    refine triple_libE (α := Int × Value) (fun x => .ret (.tuple [.int .i64 x.1, .iface 203 (.raw x.2)])) (fun _ => True) (fun K hk x _ => hk.2 (by simp only [atoiV, h]) x.1 x.2) Tryz.call154 fun G hG ρ w g1 g2 => ?_
    obtain ⟨ev, hv, hev⟩ := (hT G hG w g1 g2).err2
    refine (Tryz.strconv_Atoi_range s (by omega) h ev w hv hev).mono ?_
    rintro e w' ⟨N, rfl, -, -, h⟩
    exact ⟨⟨(Lib.atoiSat s.data.toList, .pointer (some ⟨N, 0, none⟩)), trivial, rfl⟩, h.size, h.block, Prod.ext h.os h.output⟩
end Hx
/- events.may: src.Runes is gone through in place. -/
namespace Hx
open Go Sx Go.Proofs
set_option maxRecDepth 100000
set_option maxHeartbeats 4000000
set_option linter.unusedVariables false
set_option linter.unusedSimpArgs false
variable {GOk : Gl → Prop}
def mayT (s : ByteArray) : Bool := Lib.validD s.data.toList && decide (s.size ≤ 48)
theorem may_spec (hT : GTab GOk) (s : ByteArray) (hs : s.size < 1099511627776) : Triple (BB Ip GOk) 115 0 0 [.str s] [] (fun K => ∀ b, b = mayT s → K (.ret (.bool b)) []) := by
  refine triple_of BB_ok (tb := ty) rfl (n0 := 0) (fun _ : Unit => _) pl115 Tryz.call115 Tryz.func115 rfl (by kernel_rfl) (Nat.le_of_ble_eq_true rfl) (by decide) rfl pre_none ?_
  rintro G hG K hK W bi bc bs bk bu bb bo bg bl bp bn be Ncond Nob Nop Nloop Nscope hN Nfin hf _ _
  cbv
  refine op_ hN (inline_ BB_ok (tb := ty) rfl pl118 Tryz.call118 Tryz.func118 rfl (by kernel_rfl) (Nat.le_of_ble_eq_true rfl) ?_)
  intro W2 bi2 bc2 bs2 bk2 bu2 bb2 bo2 bg2 bl2 bp2 bn2 be2 Ncond2 Nob2 Nop2 Nloop2 Nscope2 hN2
  cbv
  refine op_ hN2 (call_ (valid_string_spec hT s hs) hG [] rfl rfl rfl rfl rfl ?_)
  intro v hv
  cases v with
  | false =>
    cbv
    refine cond_T hN2 rfl ?_
    cbv
    exact hf _ _ (fin_as (.bool false) (fun _ => rfl) (fin_ [] rfl rfl (hK false (by simp [mayT, ← hv]))))
  | true =>
    cbv
    refine cond_F hN2 rfl ?_
    cbv
    refine op_ hN2 (range_str ty_ok rfl rfl rfl ?_)
    cbv
    refine loopN_ hN2 (loop_ hN2 ty_ok mixed (ι := Nat × Bool × Nat × Nat × Nat × List Int) (fun y => ⟨[(4, .vec y.2.1 1 1 y.2.2.1 y.2.2.2.1 y.2.2.2.2.1), (11, .ptr 0 0)], [.obj 0 (.stringIter s y.1), .arr y.2.1 true 1 3 encI y.2.2.2.2.2], 2⟩)
      (fun y => (y.2.1 = false → y.2.2.2.2.1 = 0) ∧ y.2.2.1 + y.2.2.2.2.1 ≤ y.2.2.2.2.2.length ∧ y.2.2.2.1 ≤ y.2.2.2.2.1 ∧ y.2.2.2.1 ≤ y.1) (fun y => s.size - y.1) ?_ ?_)
    · refine leads_noArr true 1 2 3 encI [] rfl ?_
      refine leads_eset 4 .nilslice (.vec false 1 1 0 0 0) rfl (fun _ => rfl) ?_
      exact Leads.idx (0, false, 0, 0, 0, []) [0, 1] ⟨fun _ => rfl, Nat.le_refl _, Nat.le_refl _, Nat.le_refl _⟩ ⟨⟨rfl, rfl, trivial⟩, rfl, Nat.le_of_ble_eq_true rfl⟩
    rintro ⟨pos, p, lo, len, cap, xs⟩ ⟨h1, h2, h3, h4⟩ Nnext hn _
    simp only at h1 h2 h3 h4
    cbv
    refine op_ hN2 (next_str ty_ok rfl (fun hlt => ?_) (fun hlt => ?_))
    · have hw := Lib.width_pos s pos
      generalize (Utf8.decode s pos).2 = wd at hw ⊢
      generalize (Utf8.decode s pos).1 = r
      obtain ⟨pos2, hpos2⟩ : ∃ x, x = pos + wd := ⟨_, rfl⟩
      rw [← hpos2]
      cbv
      obtain ⟨x, hx⟩ : ∃ x, x = W2 .i64 (Int.ofNat r) := ⟨_, rfl⟩
      rw [← hx]
      refine op_ hN2 (append_vec (new := [x]) (z := 0) ty_ok rfl rfl rfl rfl (fun k => by simp) rfl rfl wideI rfl rfl (src_cells wideI rfl (fun _ _ _ _ => rfl) rfl) h1 h2 h3 (by simp; omega) (by decide) ?_)
      intro p' lo' m' cap' xs' hm' e1 e2 e3 e4
      cbv
      exact hn _ (Leads.nxt (pos2, p', lo', m', cap', xs') [0, 3] ⟨e1, e2, e3, by simp at hm'; simp only; omega⟩ (by simp only; omega) ⟨⟨rfl, rfl, trivial⟩, rfl, Nat.le_of_ble_eq_true rfl⟩)
    · cbv
      exact hf _ _ (fin_ [] rfl rfl (hK _ (by rw [cle hN, len_eq hN]; simp [mayT, ← hv]; omega)))
end Hx
/- num.step is the state behind a byte: the walk. -/
namespace Hx
open Go Sx Go.Proofs
set_option maxRecDepth 100000
set_option maxHeartbeats 4000000
set_option linter.unusedVariables false
set_option linter.unusedSimpArgs false
def numStep (st b : Int) : Int :=
  if st == 0 && b == 45 then 1
  else if st == 0 || st == 1 then (if b == 48 then 2 else if (decide (b ≥ 48) && decide (b ≤ 57)) then 3 else 9)
  else if st == 3 && (decide (b ≥ 48) && decide (b ≤ 57)) then 3
  else if st == 3 || st == 2 then (if b == 46 then 4 else if b == 101 || b == 69 then 6 else 9)
  else if st == 4 then (if (decide (b ≥ 48) && decide (b ≤ 57)) then 5 else 9)
  else if st == 5 then (if (decide (b ≥ 48) && decide (b ≤ 57)) then 5 else if b == 101 || b == 69 then 6 else 9)
  else if st == 6 && (b == 43 || b == 45) then 7
  else if st == 6 || (st == 7 || st == 8) then (if (decide (b ≥ 48) && decide (b ≤ 57)) then 8 else 9)
  else 9
variable {Pd : Type} {I : Pd → List Nat → HP} {GOk : Gl → Prop}
theorem step_spec (st b : Int) : Triple (BB I GOk) 158 0 0 [.int .i64 st, .int .u8 b] [] (fun K => ∀ r, r = numStep st b → K (.ret (.int .i64 r)) []) := by
  refine triple_of BB_ok (tb := ty) rfl (n0 := 0) (fun _ : Unit => _) pl158 Tryz.call158 Tryz.func158 rfl (by kernel_rfl) (Nat.le_of_ble_eq_true rfl) (by decide) rfl pre_none ?_
  intro G hG K hK W bi bc bs bk bu bb bo bg bl bp bn be Ncond Nob Nop Nloop Nscope hN Nfin hf _ _
  cbv
  have hval : numStep st b = (if bc .eql st 0 && bc .eql b 45 then 1
  else if bc .eql st 0 || bc .eql st 1 then (if bc .eql b 48 then 2 else if (bc .geq b 48 && bc .leq b 57) then 3 else 9)
  else if bc .eql st 3 && (bc .geq b 48 && bc .leq b 57) then 3
  else if bc .eql st 3 || bc .eql st 2 then (if bc .eql b 46 then 4 else if bc .eql b 101 || bc .eql b 69 then 6 else 9)
  else if bc .eql st 4 then (if (bc .geq b 48 && bc .leq b 57) then 5 else 9)
  else if bc .eql st 5 then (if (bc .geq b 48 && bc .leq b 57) then 5 else if bc .eql b 101 || bc .eql b 69 then 6 else 9)
  else if bc .eql st 6 && (bc .eql b 43 || bc .eql b 45) then 7
  else if bc .eql st 6 || (bc .eql st 7 || bc .eql st 8) then (if (bc .geq b 48 && bc .leq b 57) then 8 else 9)
  else 9) := by
    rw [bc_ hN]; rfl
  have fini : ∀ r cs, numStep st b = r → Nfin (.ret (.int .i64 r)) cs := fun r cs h => hf _ _ (fin_ [] (out' := .ret (.int .i64 r)) rfl rfl (hK _ h.symm))
  repeat' (refine cond_ hN (fun _ => ?_) (fun _ => ?_) <;> cbv)
  all_goals (refine fini _ _ (hval.trans ?_); first | (simp only [*, Bool.true_and, Bool.and_true, Bool.false_and, Bool.and_false, Bool.true_or, Bool.or_true, Bool.false_or, Bool.or_false, Bool.not_true, Bool.not_false, Bool.false_eq_true, if_true, if_false]; done) | (exfalso; simp_all; done))
end Hx
/- num.May tells whether a number begins so, and whether a text is one: the walk. -/
namespace Hx
open Go Sx Go.Proofs
set_option maxRecDepth 100000
set_option maxHeartbeats 4000000
set_option linter.unusedVariables false
set_option linter.unusedSimpArgs false
def numState (st : Int) (l : List UInt8) : Int := l.foldl (fun st b => numStep st (b.toNat : Nat)) st
def numIs (st : Int) : Bool := st == 2 || (st == 3 || (st == 5 || st == 8))
def mayBegin (s : ByteArray) : Bool := !(numState 0 s.data.toList == 9)
def mayIs (s : ByteArray) : Bool := numIs (numState 0 s.data.toList)
variable {Pd : Type} {I : Pd → List Nat → HP} {GOk : Gl → Prop}
theorem num_May_spec (s : ByteArray) (hs : s.size < 9223372036854775807) : Triple (BB I GOk) 152 0 0 [.str s] [] (fun K => ∀ r q, r = mayBegin s → q = mayIs s → K (.ret (.tuple [.bool r, .bool q])) []) := by
  refine triple_of BB_ok (tb := ty) rfl (n0 := 0) (fun _ : Unit => _) pl152 Tryz.call152 Tryz.func152 rfl (by kernel_rfl) (Nat.le_of_ble_eq_true rfl) (by decide) rfl pre_none ?_
  intro G hG K hK W bi bc bs bk bu bb bo bg bl bp bn be Ncond Nob Nop Nloop Nscope hN Nfin hf _ _
  have fini : ∀ (v : SV) (r q : Bool) cs, mayBegin s = r → mayIs s = q → (∀ ρ, v.den ρ = (SV.tuple [.bool r, .bool q]).den ρ) → Nfin (.ret v) cs := fun v r q cs h1 h2 h => hf _ _ (fin_as _ h (fin_ [] (out' := .ret (.tuple [.bool r, .bool q])) rfl rfl (hK _ _ h1.symm h2.symm)))
  cbv
  refine op_ hN (str_bytes ty_ok rfl rfl rfl rfl rfl rfl rfl ?_)
  intro m cap xs hm hcap hmc hxs
  cbv
  refine loopN_ hN (loop_ hN ty_ok mixed (ι := Nat × Int) (fun y => ⟨[(8, .vec true 0 1 0 m cap), (9, .int .i64 m), (10, .int .i64 y.1), (4, .int .i64 y.2)], [.arr true true 0 5 encB xs], 1⟩) (fun y => y.1 ≤ m ∧ numState y.2 (s.data.toList.drop y.1) = numState 0 s.data.toList) (fun y => m - y.1) (Leads.idx (0, 0) [0] ⟨Nat.zero_le _, rfl⟩ ⟨⟨rfl, rfl, rfl, rfl, trivial⟩, rfl, Nat.le_of_ble_eq_true rfl⟩) ?_)
  rintro ⟨k, st⟩ hk Nnext hn _
  simp only at hk
  cbv
  refine cond_ hN (fun h3 => ?_) (fun h3 => ?_)
  · cbv
    have h3' : k < m := by rw [clt hN] at h3; simpa using h3
    refine ob_ hN ⟨⟨by simp, by simpa using h3'⟩, rfl, trivial⟩ ?_
    cbv
    refine op_ hN (load_byte ty_ok rfl rfl rfl rfl (by rw [plus0 hN]; omega) ?_)
    intro x b hx hb
    rw [plus0 hN] at hx
    have hdrop := drop_byte hxs h3' (by omega) hx
    cbv
    refine op_ hN (call_ (step_spec st b) hG [] rfl rfl rfl rfl rfl ?_)
    intro r hr
    cbv
    refine hn _ (Leads.nxt (k + 1, r) [0] ⟨h3', ?_⟩ (by simp only; omega) ⟨⟨rfl, rfl, ?_, rfl, trivial⟩, rfl, Nat.le_of_ble_eq_true rfl⟩)
    · rw [← hk.2, hdrop]; subst hb; subst hr; rfl
    · exact congrArg (fun z => some (SV.int .i64 z)) (inext hN (by omega))
  · have hst : st = numState 0 s.data.toList := by
      rw [clt hN] at h3; simp at h3
      have : k = m := by omega
      rw [← hk.2, this, List.drop_eq_nil_of_le (by rw [hm]; exact Nat.le_refl _)]; rfl
    clear hk
    have hr : mayBegin s = !bc .eql st 9 := by rw [bc_ hN, hst]; rfl
    have hq : mayIs s = (bc .eql st 2 || (bc .eql st 3 || (bc .eql st 5 || bc .eql st 8))) := by rw [bc_ hN, hst]; rfl
    have h29 : bc .eql st 2 = true → bc .eql st 9 = false := by simp only [ceq hN]; intro h; simp at h ⊢; omega
    have h39 : bc .eql st 3 = true → bc .eql st 9 = false := by simp only [ceq hN]; intro h; simp at h ⊢; omega
    have h59 : bc .eql st 5 = true → bc .eql st 9 = false := by simp only [ceq hN]; intro h; simp at h ⊢; omega
    have h89 : bc .eql st 8 = true → bc .eql st 9 = false := by simp only [ceq hN]; intro h; simp at h ⊢; omega
    have h9 : bc .eql st 9 = true → bc .eql st 2 = false ∧ bc .eql st 3 = false ∧ bc .eql st 5 = false ∧ bc .eql st 8 = false := by
      simp only [ceq hN]; intro h; simp at h ⊢; subst h; decide
    clear hst
    cbv
    repeat' (refine cond_ hN (fun _ => ?_) (fun _ => ?_) <;> cbv)
    all_goals first
      | (refine fini _ false false _ ?_ ?_ (fun _ => rfl) <;> (first | rw [hr] | rw [hq]) <;> simp_all; done)
      | (refine fini _ true true _ ?_ ?_ (fun _ => rfl) <;> (first | rw [hr] | rw [hq]) <;> simp_all; done)
      | (refine fini _ true false _ ?_ ?_ (fun _ => rfl) <;> (first | rw [hr] | rw [hq]) <;> simp_all; done)
end Hx
