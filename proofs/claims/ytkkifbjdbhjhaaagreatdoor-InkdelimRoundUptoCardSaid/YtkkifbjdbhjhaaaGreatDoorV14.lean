/-
  Part of a proof.
-/
import Derived.Test.YtkkifbjdbhjhaaaGreatDoorV11
import Derived.Test.YtkkifbjdbhjhaaaGreatDoorV13
import Derived.Test.YtkkifbjdbhjhaaaGreatDoorV05
set_option linter.unusedVariables false
set_option linter.unusedSimpArgs false
/- delim: what was printed is read. -/
namespace Hx
open Go Sx Go.Proofs
set_option maxRecDepth 100000
set_option maxHeartbeats 4000000
set_option linter.unusedVariables false
set_option linter.unusedSimpArgs false
variable {GOk : Gl → Prop}
def needQ (s : List UInt8) : Bool := s.any fun b => decide (b < 32) || (b == 34 || b == 44)
def dbl : List UInt8 → List UInt8
  | [] => []
  | b :: r => if b = 34 then 34 :: 34 :: dbl r else b :: dbl r
def cellP (s : List UInt8) : List UInt8 := if needQ s then 34 :: (dbl s ++ [34]) else s
def joinC : List (List UInt8) → List UInt8
  | [] => []
  | [a] => a
  | a :: b :: r => a ++ 44 :: joinC (b :: r)
def lineP (cells : List (List UInt8)) : List UInt8 := joinC (cells.map cellP) ++ [10]
def drun : List UInt8 → DS → Option DS
  | [], s => some s
  | b :: r, s => match dStep b s with
    | none => none
    | some (e, s') => if e = 0 then drun r s' else none
theorem drun_append : ∀ (a b : List UInt8) (s : DS), drun (a ++ b) s = (drun a s).bind (drun b)
  | [], b, s => rfl
  | x :: a, b, s => by
    simp only [List.cons_append, drun]
    split
    · rfl
    · split
      · exact drun_append a b _
      · rfl
theorem drun_cons {b : UInt8} {r : List UInt8} {s s' : DS} (h : dStep b s = some (0, s')) : drun (b :: r) s = drun r s' := by simp [drun, h]
theorem step_started (b : UInt8) (st : Int) (row : Bool) (hd : List ByteArray) (nm : Bool) (cell : List UInt8) (cs : Nat) (q : List Ev) :
    dStep b (⟨st, true, row, hd, nm, cell, cs⟩, q) = dByte b (⟨st, true, true, hd, nm, cell, cs⟩, q) := rfl
section
variable {hd : List ByteArray} {nm : Bool} {cs : Nat} {q : List Ev}
theorem run_plain : ∀ (s cell : List UInt8) (st : Int) (row : Bool), (st = 0 ∨ st = 1) → needQ s = false → cell.length + s.length ≤ 48 →
    ∃ st' row', (st' = 0 ∨ st' = 1) ∧ drun s (⟨st, true, row, hd, nm, cell, cs⟩, q) = some (⟨st', true, row', hd, nm, cell ++ s, cs⟩, q)
  | [], cell, st, row, hst, _, _ => ⟨st, row, hst, by simp [drun]⟩
  | b :: r, cell, st, row, hst, hn, hl => by
    simp only [needQ, List.any_cons, Bool.or_eq_false_iff, decide_eq_false_iff_not, beq_eq_false_iff_ne, ne_eq] at hn
    obtain ⟨⟨h32, h34, h44⟩, hr⟩ := hn
    simp only [List.length_cons] at hl
    have h10 : b ≠ 10 := fun e => h32 (by rw [e]; decide)
    have hs : dStep b (⟨st, true, row, hd, nm, cell, cs⟩, q) = some (0, (⟨1, true, true, hd, nm, cell ++ [b], cs⟩, q)) := by
      rw [step_started]
      unfold dByte dSays
      rcases hst with rfl | rfl <;> simp [h32, h34, h44, h10, show ¬ 48 ≤ cell.length by omega]
    obtain ⟨st', row', h1, h2⟩ := run_plain r (cell ++ [b]) 1 true (.inr rfl) hr (by simp; omega)
    exact ⟨st', row', h1, by rw [drun_cons hs, h2]; simp⟩
theorem run_quoted : ∀ (s cell : List UInt8) (row : Bool), cell.length + s.length ≤ 48 →
    ∃ row', drun (dbl s) (⟨2, true, row, hd, nm, cell, cs⟩, q) = some (⟨2, true, row', hd, nm, cell ++ s, cs⟩, q)
  | [], cell, row, _ => ⟨row, by simp [dbl, drun]⟩
  | b :: r, cell, row, hl => by
    simp only [List.length_cons] at hl
    obtain ⟨row', h2⟩ := run_quoted r (cell ++ [b]) true (by simp; omega)
    refine ⟨row', ?_⟩
    unfold dbl
    by_cases hb : b = 34
    · subst hb
      rw [if_pos rfl]
      have h3 : dStep 34 (⟨2, true, row, hd, nm, cell, cs⟩, q) = some (0, (⟨3, true, true, hd, nm, cell, cs⟩, q)) := by
        rw [step_started]; simp [dByte]
      have h4 : dStep 34 (⟨3, true, true, hd, nm, cell, cs⟩, q) = some (0, (⟨2, true, true, hd, nm, cell ++ [34], cs⟩, q)) := by
        rw [step_started]; simp [dByte, dSays, show ¬ 48 ≤ cell.length by omega]
      rw [drun_cons h3, drun_cons h4, h2]; simp
    · rw [if_neg hb]
      have h3 : dStep b (⟨2, true, row, hd, nm, cell, cs⟩, q) = some (0, (⟨2, true, true, hd, nm, cell ++ [b], cs⟩, q)) := by
        rw [step_started]; simp [dByte, dSays, hb, show ¬ 48 ≤ cell.length by omega]
      rw [drun_cons h3, h2]; simp
/-- what ends a cell -/
def sepB (more : Bool) : UInt8 := if more then 44 else 10
theorem cell_run (s : List UInt8) (hs : s.length ≤ 48) (row more : Bool) (y : DS) (hy : dEnds more (⟨0, true, true, hd, nm, s, cs⟩, q) = some (0, y)) (r : List UInt8) :
    drun (cellP s ++ sepB more :: r) (⟨0, true, row, hd, nm, [], cs⟩, q) = drun r y := by
  have hend : ∀ st row, st ≠ 2 → dStep (sepB more) (⟨st, true, row, hd, nm, s, cs⟩, q) = some (0, y) := by
    intro st row hst
    rw [step_started]
    have he : dEnds more (⟨st, true, true, hd, nm, s, cs⟩, q) = some (0, y) := by rw [← hy]; rfl
    rw [← he]
    cases more <;> simp [sepB, dByte, hst]
  unfold cellP
  by_cases hn : needQ s = true
  · rw [if_pos hn]
    have h1 : dStep 34 (⟨0, true, row, hd, nm, [], cs⟩, q) = some (0, (⟨2, true, true, hd, nm, [], cs⟩, q)) := by
      rw [step_started]; simp [dByte]
    obtain ⟨row', h2⟩ := run_quoted (hd := hd) (nm := nm) (cs := cs) (q := q) s [] true (by simpa using hs)
    have h3 : dStep 34 (⟨2, true, row', hd, nm, s, cs⟩, q) = some (0, (⟨3, true, true, hd, nm, s, cs⟩, q)) := by
      rw [step_started]; simp [dByte]
    rw [List.cons_append, drun_cons h1, List.append_assoc, drun_append, h2]
    simp only [Option.bind_some, List.nil_append, List.singleton_append]
    rw [drun_cons h3, drun_cons (hend 3 true (by decide))]
  · have hn : needQ s = false := by simpa using hn
    rw [hn]
    simp only [Bool.false_eq_true, if_false]
    obtain ⟨st', row', h1, h2⟩ := run_plain (hd := hd) (nm := nm) (cs := cs) (q := q) s [] 0 row (.inl rfl) hn (by simpa using hs)
    rw [drun_append, h2]
    simp only [Option.bind_some, List.nil_append]
    rw [drun_cons (hend st' row' (by rcases h1 with rfl | rfl <;> decide))]
 end
theorem bytesOf_inj {a b : List UInt8} (h : bytesOf a = bytesOf b) : a = b := by
  have := congrArg (fun x => x.data.toList) h
  simpa [bytesOf] using this
theorem joinC_cons (a : List UInt8) (r : List (List UInt8)) : joinC (a :: r) ++ [10] = a ++ sepB (decide (0 < r.length)) :: (if r = [] then [] else joinC r ++ [10]) := by
  cases r with
  | nil => simp [joinC, sepB]
  | cons b r => simp [joinC, sepB]
/-- the header -/
theorem run_header (q : List Ev) : ∀ (hs : List (List UInt8)) (hd : List ByteArray) (row : Bool) (r : List UInt8), hs ≠ [] → (hd ++ hs.map bytesOf).Nodup → hd.length + hs.length ≤ 8 → (∀ s ∈ hs, s.length ≤ 48) →
    drun (lineP hs ++ r) (⟨0, true, row, hd, false, [], 0⟩, q) = drun r (⟨0, true, false, hd ++ hs.map bytesOf, true, [], 0⟩, q)
  | [], _, _, _, h, _, _, _ => absurd rfl h
  | a :: hs, hd, row, r, _, hnd, hlen, hsz => by
    unfold lineP
    rw [List.map_cons, joinC_cons, List.append_assoc, List.cons_append]
    have hnot : hasB hd (bytesOf a) = false := by
      refine hasB_not fun hm => ?_
      rw [List.map_cons, List.nodup_append] at hnd
      exact hnd.2.2 _ hm _ (by simp) rfl
    simp only [List.length_cons, List.length_map] at hlen ⊢
    cases hs with
    | nil =>
      have he : dEnds false (⟨0, true, true, hd, false, a, 0⟩, q) = some (0, (⟨0, true, false, hd ++ [bytesOf a], true, [], 0⟩, q)) := by
        simp [dEnds, dNames, hnot, show ¬ 900000 ≤ hd.length by omega]
      simp only [List.length_nil, Nat.lt_irrefl, decide_false, List.map_nil, if_true, List.nil_append]
      rw [cell_run a (hsz a (by simp)) row false _ he]
      simp
    | cons b hs =>
      have he : dEnds true (⟨0, true, true, hd, false, a, 0⟩, q) = some (0, (⟨0, true, true, hd ++ [bytesOf a], false, [], 0⟩, q)) := by
        simp only [List.length_cons] at hlen
        simp [dEnds, dNames, hnot, show ¬ 900000 ≤ hd.length by omega, show ¬ 8 ≤ hd.length + 1 by omega]
      have hd1 : decide (0 < (b :: hs).length) = true := by simp
      have hne : ¬ List.map cellP (b :: hs) = [] := by simp
      simp only [List.length_cons, Nat.zero_lt_succ, decide_true] at hd1 ⊢
      rw [if_neg hne, cell_run a (hsz a (by simp)) row true _ he]
      have := run_header q (b :: hs) (hd ++ [bytesOf a]) true r (by simp) (by simpa using hnd) (by simp at hlen ⊢; omega) (fun s hs' => hsz s (by simp at hs' ⊢; exact .inr hs'))
      unfold lineP at this
      rw [this]
      simp
def fieldE (h : ByteArray) (t : List UInt8) : List Ev := [⟨8, h, ⟨#[]⟩⟩, ⟨4, bytesOf t, ⟨#[]⟩⟩]
def fieldsE : List ByteArray → List (List UInt8) → List Ev
  | h :: hs, t :: ts => fieldE h t ++ fieldsE hs ts
  | _, _ => []
theorem fieldsE_nil (hs : List ByteArray) : fieldsE hs [] = [] := by cases hs <;> rfl
theorem fieldsE_len : ∀ (hs : List ByteArray) (ts : List (List UInt8)), (fieldsE hs ts).length ≤ 2 * ts.length
  | [], _ => by simp [fieldsE]
  | _ :: _, [] => by simp [fieldsE]
  | h :: hs, t :: ts => by have := fieldsE_len hs ts; simp [fieldsE, fieldE]; omega
/-- a row -/
theorem run_row (hd : List ByteArray) : ∀ (ts : List (List UInt8)) (cs : Nat) (q : List Ev) (row : Bool) (r : List UInt8), ts ≠ [] → cs + ts.length = hd.length → q.length + 2 * ts.length + (if cs = 0 then 1 else 0) + 2 < 4294967296 → (∀ s ∈ ts, s.length ≤ 48) →
    drun (lineP ts ++ r) (⟨0, true, row, hd, true, [], cs⟩, q) = drun r (⟨0, true, false, hd, true, [], 0⟩, q ++ ((if cs = 0 then [ev0 7] else []) ++ (fieldsE (hd.drop cs) ts ++ [ev0 9])))
  | [], _, _, _, _, h, _, _, _ => absurd rfl h
  | t :: ts, cs, q, row, r, _, hlen, hq, hsz => by
    unfold lineP
    rw [List.map_cons, joinC_cons, List.append_assoc, List.cons_append]
    simp only [List.length_cons, List.length_map] at hlen hq ⊢
    have hlt : cs < hd.length := by omega
    have hget : hd[cs]? = some hd[cs] := List.getElem?_eq_getElem hlt
    have hdrop : hd.drop cs = hd[cs] :: hd.drop (cs + 1) := List.drop_eq_getElem_cons hlt
    have hq1 : ∀ more y, (match dTell ⟨4, bytesOf t, ⟨#[]⟩⟩ (⟨0, true, true, hd, true, [], cs⟩, q ++ (if cs = 0 then [ev0 7] else []) ++ [⟨8, hd[cs], ⟨#[]⟩⟩]) with
      | none => none
      | some s3 =>
          if (more != decide (s3.1.cells + 1 < s3.1.header.length)) = true then some (17, ({ s3.1 with cells := s3.1.cells + 1 }, s3.2))
          else if more then some (0, ({ s3.1 with cells := s3.1.cells + 1 }, s3.2))
          else match dTell (ev0 9) s3 with
            | none => none
            | some s4 => some (0, ({ s4.1 with cells := 0, row := false }, s4.2))) = y → dEnds more (⟨0, true, true, hd, true, t, cs⟩, q) = y := by
      intro more y hy
      rw [← hy]
      simp only [dEnds, if_true, dRow]
      by_cases h0 : cs = 0
      · subst h0
        simp only [if_true]
        rw [show dTell (ev0 7) (⟨0, true, true, hd, true, [], 0⟩, q) = some (⟨0, true, true, hd, true, [], 0⟩, q ++ [ev0 7]) by unfold dTell; rw [if_neg (by simp only; omega)]]
        simp only [hget]
        rw [show dTell ⟨8, hd[0], ⟨#[]⟩⟩ (⟨0, true, true, hd, true, [], 0⟩, q ++ [ev0 7]) = some (⟨0, true, true, hd, true, [], 0⟩, q ++ [ev0 7] ++ [⟨8, hd[0], ⟨#[]⟩⟩]) by unfold dTell; rw [if_neg (by simp; omega)]]
        rfl
      · simp only [if_neg h0, List.append_nil, hget]
        rw [show dTell ⟨8, hd[cs], ⟨#[]⟩⟩ (⟨0, true, true, hd, true, [], cs⟩, q) = some (⟨0, true, true, hd, true, [], cs⟩, q ++ [⟨8, hd[cs], ⟨#[]⟩⟩]) by unfold dTell; rw [if_neg (by simp only; omega)]]
        rfl
    have ht : dTell ⟨4, bytesOf t, ⟨#[]⟩⟩ (⟨0, true, true, hd, true, [], cs⟩, q ++ (if cs = 0 then [ev0 7] else []) ++ [⟨8, hd[cs], ⟨#[]⟩⟩]) = some (⟨0, true, true, hd, true, [], cs⟩, q ++ (if cs = 0 then [ev0 7] else []) ++ fieldE hd[cs] t) := by
      unfold dTell
      rw [if_neg]
      · simp [fieldE]
      · split <;> simp <;> omega
    cases ts with
    | nil =>
      simp only [List.length_nil] at hlen hq
      have he : dEnds false (⟨0, true, true, hd, true, t, cs⟩, q) = some (0, (⟨0, true, false, hd, true, [], 0⟩, q ++ ((if cs = 0 then [ev0 7] else []) ++ (fieldsE (hd.drop cs) [t] ++ [ev0 9])))) := by
        refine hq1 false _ ?_
        rw [ht]
        simp only [show ¬ cs + 1 < hd.length by omega, decide_false, bne_self_eq_false, Bool.false_eq_true, if_false]
        rw [show dTell (ev0 9) (⟨0, true, true, hd, true, [], cs⟩, q ++ (if cs = 0 then [ev0 7] else []) ++ fieldE hd[cs] t) = some (⟨0, true, true, hd, true, [], cs⟩, q ++ (if cs = 0 then [ev0 7] else []) ++ fieldE hd[cs] t ++ [ev0 9]) by
          unfold dTell; rw [if_neg]; simp only [List.length_append, fieldE, List.length_cons, List.length_nil]; split <;> simp <;> omega]
        rw [hdrop]
        simp only [fieldsE, fieldsE_nil, List.append_assoc, List.append_nil, List.nil_append]
      simp only [List.length_nil, Nat.lt_irrefl, decide_false, List.map_nil, if_true, List.nil_append]
      rw [cell_run t (hsz t (by simp)) row false _ he]
    | cons b ts =>
      simp only [List.length_cons] at hlen hq
      have he : dEnds true (⟨0, true, true, hd, true, t, cs⟩, q) = some (0, (⟨0, true, true, hd, true, [], cs + 1⟩, q ++ (if cs = 0 then [ev0 7] else []) ++ fieldE hd[cs] t)) := by
        refine hq1 true _ ?_
        rw [ht]
        simp only [show cs + 1 < hd.length by omega, decide_true, bne_self_eq_false, Bool.false_eq_true, if_false, if_true]
      have hne : ¬ List.map cellP (b :: ts) = [] := by simp
      simp only [List.length_cons, Nat.zero_lt_succ, decide_true]
      rw [if_neg hne, cell_run t (hsz t (by simp)) row true _ he]
      have := run_row hd (b :: ts) (cs + 1) (q ++ (if cs = 0 then [ev0 7] else []) ++ fieldE hd[cs] t) true r (by simp) (by simp; omega) (by simp only [List.length_append, fieldE, List.length_cons, List.length_nil]; rw [if_neg (Nat.succ_ne_zero cs)]; split at hq <;> simp [*] <;> omega) (fun s hs' => hsz s (by simp at hs' ⊢; exact .inr hs'))
      unfold lineP at this
      rw [this, hdrop, if_neg (Nat.succ_ne_zero cs)]
      simp only [fieldsE, List.append_assoc, List.nil_append]
end Hx
/- pull.Core: fails, met. -/
namespace Hx
open Go Sx Go.Proofs
set_option maxRecDepth 100000
set_option maxHeartbeats 4000000
set_option linter.unusedVariables false
set_option linter.unusedSimpArgs false
variable {GOk : Gl → Prop}
def failC (c : Core) (e : Int) : Core := { c with over := true, err := e }
theorem fails_spec (tv td : Nat) (c : Core) (e : Int) : Triple (BB Ip GOk) 54 2 2 [.ptr 0 0, .int .i64 e] [.abs (.core c tv td) [0, 1]] (fun K => K (.ret (.tuple [])) [.abs (.core (failC c e) tv td) [0, 1]]) := by
  obtain ⟨⟨sl, sa, sb⟩, queue, cat, closed, over, err, told⟩ := c
  refine triple_of BB_ok (tb := ty) rfl (n0 := 4) (fun y : {cs' // Tm (.core ⟨⟨sl, sa, sb⟩, queue, cat, closed, over, err, told⟩ tv td) cs'} => csRen (sg [0, 1] 2) y.1 ++ []) pl54 Tryz.call54 Tryz.func54 rfl (by kernel_rfl) (Nat.le_of_ble_eq_true rfl) (by decide) rfl (pre_open rfl rfl rfl) ?_
  rintro G hG K hK W bi bc bs bk bu bb bo bg bl bp bn be Ncond Nob Nop Nloop Nscope hN Nfin hf _ ⟨cs', hT⟩
  obtain ⟨p, lo, len, cap, xs, hv, rfl⟩ := id hT
  simp only at hv
  cbv
  exact hf _ _ (fin_cput 0 [.iface tv (.ptr 1 0), .ptr 2 0, .vec p 3 3 lo len cap, .int .i64 (Int.ofNat cat), .bool closed, .bool true, .int .i64 e, .bool told] rfl (fun _ => rfl) (fin_close rfl (.core ⟨⟨sl, sa, sb⟩, queue, cat, closed, true, e, told⟩ tv td) [0, 1] [2, 3] _ ⟨p, lo, len, cap, xs, hv, rfl⟩ rfl (fin_ [] rfl rfl hK)))
/-- what a machine that is pulled must do: M: its states; pd: how they lie; t: is there one to tell? -/
structure MachOk (GOk : Gl → Prop) {M : Type} (pd : M → Bool → Pd) (tv td : Nat) (stepM : UInt8 → OS M → Option (Int × OS M)) (endM : OS M → Option (Int × OS M)) (atM : M → Option Nat) : Prop where
  step : ∃ f, (∀ v w, (method (P.types.size + Made.depth) tv v "Step").run P w = .ok (f, v) w) ∧ ∀ (s : OS M) (t : Bool) (x : UInt8) (b : Int), ((x.toNat : Nat) : Int) = b →
    Triple (BB Ip GOk) f 2 2 [.ptr 0 0, .int .u8 b, .fn (.func 55) [.ptr 1 0] []] [.abs (pd s.m t) [0, 1], .abs (.core s.c tv td) [1, 0]]
      (fun K => match stepM x s with
        | none => False
        | some (e, s') => ∀ t', K (.ret (.int .i64 e)) [.abs (pd s'.m t') [0, 1], .abs (.core s'.c tv td) [1, 0]])
  fin : ∃ f, (∀ v w, (method (P.types.size + Made.depth) tv v "End").run P w = .ok (f, v) w) ∧ ∀ (s : OS M) (t : Bool),
    Triple (BB Ip GOk) f 2 2 [.ptr 0 0, .fn (.func 55) [.ptr 1 0] []] [.abs (pd s.m t) [0, 1], .abs (.core s.c tv td) [1, 0]]
      (fun K => match endM s with
        | none => False
        | some (e, s') => ∀ t', K (.ret (.int .i64 e)) [.abs (pd s'.m t') [0, 1], .abs (.core s'.c tv td) [1, 0]])
  place : (∃ f, (∀ v w, (method (P.types.size + Made.depth) tv v "At").run P w = .ok (f, v) w) ∧ (∀ (u : Value) (w : World), (Instr.typeAssert (.iface tv u) 46 122 true).run P w = .ok (.tuple #[.iface tv u, .bool true]) w) ∧
      ∀ (m : M) (t : Bool), ∃ k, atM m = some k ∧ Triple (BB Ip GOk) f 2 2 [.ptr 0 0] [.abs (pd m t) [0, 1]] (fun K => K (.ret (.int .i64 (Int.ofNat k))) [.abs (pd m t) [0, 1]])) ∨
    ((∀ (u : Value) (w : World), (Instr.typeAssert (.iface tv u) 46 122 true).run P w = .ok (.tuple #[.nilIface, .bool false]) w) ∧ ∀ m, atM m = none)
/-- an error was met, or the end -/
def metG {M : Type} (atM : M → Option Nat) (e : Int) (s : OS M) : OS M := { s with c := { s.c with over := true, err := e, at_ := if e ≠ 0 then (atM s.m).getD s.c.at_ else s.c.at_ } }
variable {M : Type} {pd : M → Bool → Pd} {tv td : Nat} {stepM : UInt8 → OS M → Option (Int × OS M)} {endM : OS M → Option (Int × OS M)} {atM : M → Option Nat}
theorem met_spec (hm : MachOk GOk pd tv td stepM endM atM) (s : OS M) (t : Bool) (e : Int) : Triple (BB Ip GOk) 56 2 2 [.ptr 0 0, .int .i64 e] [.abs (.core s.c tv td) [0, 1], .abs (pd s.m t) [1, 0]]
    (fun K => K (.ret (.tuple [])) [.abs (.core (metG atM e s).c tv td) [0, 1], .abs (pd s.m t) [1, 0]]) := by
  obtain ⟨m, ⟨⟨sl, sa, sb⟩, queue, cat, closed, over, err, told⟩⟩ := s
  refine triple_of BB_ok (tb := ty) rfl (n0 := 2) (fun _ : Unit => _) pl56 Tryz.call56 Tryz.func56 rfl (by kernel_rfl) (Nat.le_of_ble_eq_true rfl) (by decide) rfl pre_none ?_
  rintro G hG K hK W bi bc bs bk bu bb bo bg bl bp bn be Ncond Nob Nop Nloop Nscope hN Nfin hf _ _
  cbv
  refine op_ hN (call_ (fails_spec tv td ⟨⟨sl, sa, sb⟩, queue, cat, closed, over, err, told⟩ e) hG [0, 1] rfl rfl rfl rfl rfl ?_)
  cbv
  refine op_ hN (op_open rfl 0 2 rfl rfl rfl rfl ?_)
  rintro _ ⟨p, lo, len, cap, xs, hv, rfl⟩
  simp only at hv
  refine load_ ty_ok rfl ?_
  cbv
  rcases hm.place with ⟨f, hmeth, hass, hat⟩ | ⟨hass, hat⟩
  · refine op_ hN (assert_if hass ?_)
    cbv
    refine cond_ hN (fun h => ?_) (fun h => ?_)
    · rw [cne hN] at h
      have he : e ≠ 0 := by simpa using h
      obtain ⟨k, hk, hT⟩ := hat m t
      have hM : (metG atM e ⟨m, ⟨⟨sl, sa, sb⟩, queue, cat, closed, over, err, told⟩⟩).c = ⟨⟨sl, sa, sb⟩, queue, k, closed, true, e, told⟩ := by simp only [metG]; rw [if_pos he, hk]; rfl
      simp only [hM] at hK
      cbv
      refine op_ hN (invoke_ hT hG [1, 0] hmeth rfl rfl rfl rfl rfl ?_)
      cbv
      exact hf _ _ (fin_cput 0 [.iface tv (.ptr 1 0), .ptr 2 0, .vec p 3 3 lo len cap, .int .i64 (Int.ofNat k), .bool closed, .bool true, .int .i64 e, .bool told] rfl (fun _ => rfl) (fin_close rfl (.core ⟨⟨sl, sa, sb⟩, queue, k, closed, true, e, told⟩ tv td) [0, 1] [2, 3] _ ⟨p, lo, len, cap, xs, hv, rfl⟩ rfl (fin_ [] rfl rfl hK)))
    · rw [cne hN] at h
      have he : ¬ e ≠ 0 := by simpa using h
      have hM : (metG atM e ⟨m, ⟨⟨sl, sa, sb⟩, queue, cat, closed, over, err, told⟩⟩).c = ⟨⟨sl, sa, sb⟩, queue, cat, closed, true, e, told⟩ := by simp only [metG]; rw [if_neg he]
      simp only [hM] at hK
      cbv
      exact hf _ _ (fin_close rfl (.core ⟨⟨sl, sa, sb⟩, queue, cat, closed, true, e, told⟩ tv td) [0, 1] [2, 3] _ ⟨p, lo, len, cap, xs, hv, rfl⟩ rfl (fin_ [] rfl rfl hK))
  · have hM : (metG atM e ⟨m, ⟨⟨sl, sa, sb⟩, queue, cat, closed, over, err, told⟩⟩).c = ⟨⟨sl, sa, sb⟩, queue, cat, closed, true, e, told⟩ := by simp only [metG, hat]; split <;> rfl
    simp only [hM] at hK
    refine op_ hN (assert_no hass ?_)
    cbv
    exact hf _ _ (fin_close rfl (.core ⟨⟨sl, sa, sb⟩, queue, cat, closed, true, e, told⟩ tv td) [0, 1] [2, 3] _ ⟨p, lo, len, cap, xs, hv, rfl⟩ rfl (fin_ [] rfl rfl hK))
end Hx
/- pull.Core.Feed. -/
namespace Hx
open Go Sx Go.Proofs
set_option maxRecDepth 100000
set_option maxHeartbeats 4000000
set_option linter.unusedVariables false
set_option linter.unusedSimpArgs false
variable {GOk : Gl → Prop}
def feedG {M : Type} (stepM : UInt8 → OS M → Option (Int × OS M)) (atM : M → Option Nat) : List UInt8 → OS M → Option (OS M)
  | [], s => some s
  | x :: r, s => if s.c.over then some s else
    match scanStep s.c.scan (x.toNat : Nat) with
    | (false, sc) => some { s with c := { s.c with scan := sc, over := true, err := 3 } }
    | (true, sc) => match stepM x { s with c := { s.c with scan := sc } } with
      | none => none
      | some (e, s') => if e ≠ 0 then some (metG atM e s') else if s'.c.at_ > 1000000 then none else feedG stepM atM r { s' with c := { s'.c with at_ := s'.c.at_ + 1 } }
variable {M : Type} {pd : M → Bool → Pd} {tv td : Nat} {stepM : UInt8 → OS M → Option (Int × OS M)} {endM : OS M → Option (Int × OS M)} {atM : M → Option Nat}
def PostF {M : Type} (pd : M → Bool → Pd) (tv td : Nat) (rest : List (Chunk Pd)) (v : SV) (K : Out → List (Chunk Pd) → Prop) : Option (OS M) → Prop
  | none => False
  | some s => ∀ t, K (.ret v) ([.abs (.core s.c tv td) [0, 1], .abs (pd s.m t) [1, 0]] ++ rest)
theorem feed_spec (hm : MachOk GOk pd tv td stepM endM atM) (s : OS M) (t0 : Bool) (hcl : s.c.closed = false) (pt : Bool) (lo cap : Nat) (len : Nat) (xs text : List UInt8) (hv : VecOk pt lo len cap xs text) (hlen : len < 1000000) :
    Triple (BB Ip GOk) 29 3 3 [.ptr 0 0, .vec pt 2 1 lo len cap] [.abs (.core s.c tv td) [0, 1], .abs (pd s.m t0) [1, 0], .arr pt false 2 5 encB xs]
    (fun K => PostF pd tv td [.arr pt false 2 5 encB xs] (.bool true) K (feedG stepM atM text s)) := by
  obtain ⟨m, ⟨⟨sl, sa, sb⟩, queue, cat, closed, over, err, told⟩⟩ := s
  simp only at hcl
  subst hcl
  refine triple_of BB_ok (tb := ty) rfl (n0 := 5) (fun y : {cs' // Tm (.core ⟨⟨sl, sa, sb⟩, queue, cat, false, over, err, told⟩ tv td) cs'} => csRen (sg [0, 1] 3) y.1 ++ [.abs (pd m t0) [1, 0], .arr pt false 2 5 encB xs]) pl29 Tryz.call29 Tryz.func29 rfl (by kernel_rfl) (Nat.le_of_ble_eq_true rfl) (by decide) rfl (pre_open rfl rfl rfl) ?_
  rintro G hG K hK W bi bc bs bk bu bb bo bg bl bp bn be Ncond Nob Nop Nloop Nscope hN Nfin hf _ ⟨cs', hT⟩
  obtain ⟨p, lo1, len1, cap1, ys, hv1, rfl⟩ := id hT
  have hlt := hv.length
  have hroom := hv.room
  have hfits := hv.fits
  cbv
  refine cond_F hN rfl ?_
  cbv
  refine loopN_ hN (loop_ hN ty_ok mixed (ι := Nat × OS M × Bool) (fun y => ⟨[(0, .ptr 0 0), (12, .vec pt 2 1 lo len cap), (13, .int .i64 (Int.ofNat len)), (14, .int .i64 (Int.ofNat y.1))], [.abs (.core y.2.1.c tv td) [0, 1], .abs (pd y.2.1.m y.2.2) [1, 0], .arr pt false 2 5 encB xs], 3⟩)
    (fun y => y.1 ≤ len ∧ feedG stepM atM (text.drop y.1) y.2.1 = feedG stepM atM text ⟨m, ⟨⟨sl, sa, sb⟩, queue, cat, false, over, err, told⟩⟩) (fun y => len - y.1) ?_ ?_)
  · refine leads_close rfl (.core ⟨⟨sl, sa, sb⟩, queue, cat, false, over, err, told⟩ tv td) [0, 1] [3, 4] _ hT rfl ?_
    exact Leads.idx (0, ⟨m, ⟨⟨sl, sa, sb⟩, queue, cat, false, over, err, told⟩⟩, t0) [] ⟨Nat.zero_le _, rfl⟩ ⟨⟨rfl, rfl, rfl, rfl, trivial⟩, rfl, Nat.le_of_ble_eq_true rfl⟩
  rintro ⟨i, s1, t⟩ ⟨hi, hgo⟩ Nnext hn _
  simp only at hi hgo
  cbv
  refine cond_ hN (fun h => ?_) (fun h => ?_)
  · rw [clt hN] at h
    simp only [decide_eq_true_eq, decide_eq_false_iff_not, Int.ofNat_eq_natCast, gt_iff_lt, ge_iff_le, Bool.not_eq_true', Bool.not_eq_false', Int.not_lt, Int.not_le] at h
    have hilt : i < len := by have : (i : Int) < (len : Int) := h; omega
    have hpt : pt = true := by
      cases pt with
      | true => rfl
      | false => have := hv.pr rfl; omega
    have hidx : bp lo (Int.ofNat i) = lo + i := by rw [bp_ hN]; simp
    have hil : i < text.length := by omega
    have hx : xs[lo + i]? = some (text[i]'hil) := by
      have h5 : ((xs.drop lo).take len)[i]? = some (text[i]'hil) := by rw [hv.eq]; exact List.getElem?_eq_getElem hil
      rw [List.getElem?_take, if_pos hilt, List.getElem?_drop] at h5
      exact h5
    have hdrop : text.drop i = (text[i]'hil) :: text.drop (i + 1) := List.drop_eq_getElem_cons hil
    generalize (text[i]'hil) = x at hx hdrop
    rw [hdrop] at hgo
    cbv
    refine ob_ hN ⟨⟨by simp, by simpa using hilt⟩, hpt, trivial⟩ ?_
    cbv
    refine op_ hN (load_byte ty_ok rfl hpt rfl rfl (by rw [hidx]; omega) ?_)
    intro x2 b hx2 hxb
    rw [hidx, hx] at hx2
    obtain rfl := (Option.some.inj hx2).symm
    obtain ⟨m1, ⟨⟨sl1, sa1, sb1⟩, queue1, cat1, closed1, over1, err1, told1⟩⟩ := s1
    cbv
    refine op_ hN (op_open rfl 0 2 rfl rfl rfl rfl ?_)
    rintro _ ⟨p, lo1, len1, cap1, ys, hv1, rfl⟩
    simp only at hv1
    have hcore : ∀ sl sa sb cat over err, Tm (.core ⟨⟨sl, sa, sb⟩, queue1, cat, closed1, over, err, told1⟩ tv td) [.cells 0 td [.iface tv (.ptr 1 0), .ptr 2 0, .vec p 3 3 lo1 len1 cap1, .int .i64 (Int.ofNat cat), .bool closed1, .bool over, .int .i64 err, .bool told1], .cells 2 120 [.int .i64 sl, .int .u8 sa, .int .u8 sb], .arr p true 3 56 encE ys] :=
      fun sl sa sb cat over err => ⟨p, lo1, len1, cap1, ys, hv1, rfl⟩
    refine load_ ty_ok rfl ?_
    simp only [feedG] at hgo
    cbv
    refine cond_ hN (fun h2 => ?_) (fun h2 => ?_)
    · subst h2
      rw [if_pos rfl] at hgo
      rw [← hgo] at hK
      cbv
      exact hf _ _ (fin_as (.bool true) (fun _ => rfl) (fin_close rfl (.core ⟨⟨sl1, sa1, sb1⟩, queue1, cat1, closed1, true, err1, told1⟩ tv td) [0, 1] [3, 4] _ (hcore _ _ _ _ _ _) rfl (fin_ [] rfl rfl (hK t))))
    · subst h2
      rw [if_neg (by simp), ← hxb] at hgo
      cbv
      refine op_ hN (call_ (scan_step_spec ⟨sl1, sa1, sb1⟩ b) hG [3] rfl rfl rfl rfl rfl ?_)
      intro r sc hsc
      rw [← hsc] at hgo
      obtain ⟨sl2, sa2, sb2⟩ := sc
      cases r with
      | false =>
        simp only at hgo
        rw [← hgo] at hK
        cbv
        refine cond_T hN rfl ?_
        cbv
        refine op_ hN (op_close rfl (.core ⟨⟨sl2, sa2, sb2⟩, queue1, cat1, closed1, false, err1, told1⟩ tv td) [0, 1] [3, 4] _ (hcore _ _ _ _ _ _) rfl rfl ?_)
        refine call_ (fails_spec tv td ⟨⟨sl2, sa2, sb2⟩, queue1, cat1, closed1, false, err1, told1⟩ 3) hG [0, 1] rfl rfl rfl rfl rfl ?_
        cbv
        exact hf _ _ (fin_as (.bool true) (fun _ => rfl) (fin_ [] rfl rfl (hK t)))
      | true =>
        simp only at hgo
        cbv
        refine cond_F hN rfl ?_
        cbv
        refine op_ hN (op_close rfl (.core ⟨⟨sl2, sa2, sb2⟩, queue1, cat1, closed1, false, err1, told1⟩ tv td) [0, 1] [3, 4] _ (hcore _ _ _ _ _ _) rfl rfl ?_)
        obtain ⟨fs, hmeth, hstep⟩ := hm.step
        refine invoke_ (hstep ⟨m1, ⟨⟨sl2, sa2, sb2⟩, queue1, cat1, closed1, false, err1, told1⟩⟩ t x2 b hxb.symm) hG [1, 0] hmeth rfl rfl rfl rfl rfl ?_
        generalize stepM x2 ⟨m1, ⟨⟨sl2, sa2, sb2⟩, queue1, cat1, closed1, false, err1, told1⟩⟩ = y at hgo ⊢
        cases y with
        | none => simp only at hgo; rw [← hgo] at hK; exact hK.elim
        | some z =>
          obtain ⟨e, s2⟩ := z
          simp only at hgo
          intro t2
          cbv
          refine cond_ hN (fun h3 => ?_) (fun h3 => ?_)
          · rw [cne hN] at h3
            rw [if_pos (by simpa using h3)] at hgo
            rw [← hgo] at hK
            have hK2 : K (.ret (.bool true)) ([.abs (.core (metG atM e s2).c tv td) [0, 1], .abs (pd s2.m t2) [1, 0]] ++ [.arr pt false 2 5 encB xs]) := hK t2
            cbv
            refine op_ hN (call_ (met_spec hm s2 t2 e) hG [0, 1] rfl rfl rfl rfl rfl ?_)
            generalize (metG atM e s2).c = c' at hK2 ⊢
            cbv
            exact hf _ _ (fin_as (.bool true) (fun _ => rfl) (fin_ [] rfl rfl hK2))
          · rw [cne hN] at h3
            rw [if_neg (by simpa using h3)] at hgo
            by_cases hA : s2.c.at_ > 1000000
            · rw [if_pos hA] at hgo; rw [← hgo] at hK; exact hK.elim
            rw [if_neg hA] at hgo
            obtain ⟨m2, ⟨⟨sl3, sa3, sb3⟩, queue3, cat3, closed3, over3, err3, told3⟩⟩ := s2
            simp only at hA hgo
            have hadd : bi .add .i64 (Int.ofNat cat3) 1 = Int.ofNat (cat3 + 1) := inext hN (by omega)
            have hadd2 : bi .add .i64 (Int.ofNat i) 1 = Int.ofNat (i + 1) := inext hN (by omega)
            cbv
            refine op_ hN (op_open rfl 0 2 rfl rfl rfl rfl ?_)
            rintro _ ⟨p3, lo3, len3, cap3, zs, hv3, rfl⟩
            refine load_ ty_ok rfl ?_
            cbv
            simp only [hadd, hadd2]
            refine hn _ (leads_close rfl (.core ⟨⟨sl3, sa3, sb3⟩, queue3, cat3 + 1, closed3, over3, err3, told3⟩ tv td) [0, 1] [5, 6] _ ⟨p3, lo3, len3, cap3, zs, hv3, rfl⟩ rfl ?_)
            exact Leads.nxt (i + 1, ⟨m2, ⟨⟨sl3, sa3, sb3⟩, queue3, cat3 + 1, closed3, over3, err3, told3⟩⟩, t2) [] ⟨hilt, hgo⟩ (by simp only; omega) ⟨⟨rfl, rfl, rfl, rfl, trivial⟩, rfl, Nat.le_of_ble_eq_true rfl⟩
  · rw [clt hN] at h
    simp only [decide_eq_true_eq, decide_eq_false_iff_not, Int.ofNat_eq_natCast, gt_iff_lt, ge_iff_le, Bool.not_eq_true', Bool.not_eq_false', Int.not_lt, Int.not_le] at h
    have hie : i = len := by have : (len : Int) ≤ (i : Int) := h; omega
    rw [hie, ← hlt, List.drop_length] at hgo
    simp only [feedG] at hgo
    rw [← hgo] at hK
    cbv
    exact hf _ _ (fin_as (.bool true) (fun _ => rfl) (fin_ [] rfl rfl (hK t)))
end Hx
/- pull.Core.Close, All. -/
namespace Hx
open Go Sx Go.Proofs
set_option maxRecDepth 100000
set_option maxHeartbeats 4000000
set_option linter.unusedVariables false
set_option linter.unusedSimpArgs false
variable {GOk : Gl → Prop}
def closeG {M : Type} (endM : OS M → Option (Int × OS M)) (atM : M → Option Nat) (s : OS M) : Option (OS M) :=
  if s.c.closed || s.c.over then some { s with c := { s.c with closed := true } }
  else if s.c.scan.left ≠ 0 then some { s with c := { s.c with closed := true, over := true, err := 3 } }
  else match endM { s with c := { s.c with closed := true } } with
    | none => none
    | some (e, s') => some (metG atM e s')
variable {M : Type} {pd : M → Bool → Pd} {tv td : Nat} {stepM : UInt8 → OS M → Option (Int × OS M)} {endM : OS M → Option (Int × OS M)} {atM : M → Option Nat}
theorem close_spec (hm : MachOk GOk pd tv td stepM endM atM) (s : OS M) (t : Bool) :
    Triple (BB Ip GOk) 30 2 2 [.ptr 0 0] [.abs (.core s.c tv td) [0, 1], .abs (pd s.m t) [1, 0]] (fun K => PostF pd tv td [] (.tuple []) K (closeG endM atM s)) := by
  obtain ⟨m, ⟨⟨sl, sa, sb⟩, queue, cat, closed, over, err, told⟩⟩ := s
  refine triple_of BB_ok (tb := ty) rfl (n0 := 4) (fun y : {cs' // Tm (.core ⟨⟨sl, sa, sb⟩, queue, cat, closed, over, err, told⟩ tv td) cs'} => csRen (sg [0, 1] 2) y.1 ++ [.abs (pd m t) [1, 0]]) pl30 Tryz.call30 Tryz.func30 rfl (by kernel_rfl) (Nat.le_of_ble_eq_true rfl) (by decide) rfl (pre_open rfl rfl rfl) ?_
  rintro G hG K hK W bi bc bs bk bu bb bo bg bl bp bn be Ncond Nob Nop Nloop Nscope hN Nfin hf _ ⟨cs', hT⟩
  obtain ⟨p, lo, len, cap, ys, hv, rfl⟩ := id hT
  simp only at hv
  have hcore : ∀ over err, Tm (.core ⟨⟨sl, sa, sb⟩, queue, cat, true, over, err, told⟩ tv td) [.cells 0 td [.iface tv (.ptr 1 0), .ptr 2 0, .vec p 3 3 lo len cap, .int .i64 (Int.ofNat cat), .bool true, .bool over, .int .i64 err, .bool told], .cells 2 120 [.int .i64 sl, .int .u8 sa, .int .u8 sb], .arr p true 3 56 encE ys] :=
    fun over err => ⟨p, lo, len, cap, ys, hv, rfl⟩
  cases closed with
  | true =>
    have hM : closeG endM atM ⟨m, ⟨⟨sl, sa, sb⟩, queue, cat, true, over, err, told⟩⟩ = some ⟨m, ⟨⟨sl, sa, sb⟩, queue, cat, true, over, err, told⟩⟩ := by unfold closeG; rw [if_pos (by simp)]
    rw [hM] at hK
    cbv
    refine cond_T hN rfl ?_
    cbv
    exact hf _ _ (fin_cput 0 [.iface tv (.ptr 1 0), .ptr 2 0, .vec p 3 3 lo len cap, .int .i64 (Int.ofNat cat), .bool true, .bool over, .int .i64 err, .bool told] rfl (fun _ => rfl) (fin_close rfl (.core ⟨⟨sl, sa, sb⟩, queue, cat, true, over, err, told⟩ tv td) [0, 1] [2, 3] _ (hcore _ _) rfl (fin_ [] rfl rfl (hK t))))
  | false =>
    cbv
    refine cond_F hN rfl ?_
    cbv
    cases over with
    | true =>
      have hM : closeG endM atM ⟨m, ⟨⟨sl, sa, sb⟩, queue, cat, false, true, err, told⟩⟩ = some ⟨m, ⟨⟨sl, sa, sb⟩, queue, cat, true, true, err, told⟩⟩ := by unfold closeG; rw [if_pos (by simp)]
      rw [hM] at hK
      refine cond_T hN rfl ?_
      cbv
      exact hf _ _ (fin_cput 0 [.iface tv (.ptr 1 0), .ptr 2 0, .vec p 3 3 lo len cap, .int .i64 (Int.ofNat cat), .bool true, .bool true, .int .i64 err, .bool told] rfl (fun _ => rfl) (fin_close rfl (.core ⟨⟨sl, sa, sb⟩, queue, cat, true, true, err, told⟩ tv td) [0, 1] [2, 3] _ (hcore _ _) rfl (fin_ [] rfl rfl (hK t))))
    | false =>
      refine cond_F hN rfl ?_
      cbv
      refine op_ hN (inline_ BB_ok (tb := ty) rfl pl57 Tryz.call57 Tryz.func57 rfl (by kernel_rfl) (Nat.le_of_ble_eq_true rfl) ?_)
      intro W2 bi2 bc2 bs2 bk2 bu2 bb2 bo2 bg2 bl2 bp2 bn2 be2 Ncond2 Nob2 Nop2 Nloop2 Nscope2 hN2
      cbv
      refine cond_ hN (fun h => ?_) (fun h => ?_)
      · rw [ceq hN2] at h
        have hs : sl ≠ 0 := fun hs => by rw [decide_eq_true hs] at h; exact nomatch h
        have hM : closeG endM atM ⟨m, ⟨⟨sl, sa, sb⟩, queue, cat, false, false, err, told⟩⟩ = some ⟨m, ⟨⟨sl, sa, sb⟩, queue, cat, true, true, 3, told⟩⟩ := by unfold closeG; rw [if_neg (by simp), if_pos hs]
        rw [hM] at hK
        cbv
        refine op_ hN (op_cput 0 [.iface tv (.ptr 1 0), .ptr 2 0, .vec p 3 3 lo len cap, .int .i64 (Int.ofNat cat), .bool true, .bool false, .int .i64 err, .bool told] rfl (fun _ => rfl) (op_close rfl (.core ⟨⟨sl, sa, sb⟩, queue, cat, true, false, err, told⟩ tv td) [0, 1] [2, 3] _ (hcore _ _) rfl rfl ?_))
        refine call_ (fails_spec tv td ⟨⟨sl, sa, sb⟩, queue, cat, true, false, err, told⟩ 3) hG [0, 1] rfl rfl rfl rfl rfl ?_
        cbv
        exact hf _ _ (fin_ [] rfl rfl (hK t))
      · rw [ceq hN2] at h
        have hs : ¬ sl ≠ 0 := fun hs => by rw [decide_eq_false hs] at h; exact nomatch h
        have hM : closeG endM atM ⟨m, ⟨⟨sl, sa, sb⟩, queue, cat, false, false, err, told⟩⟩ = (match endM ⟨m, ⟨⟨sl, sa, sb⟩, queue, cat, true, false, err, told⟩⟩ with
          | none => none
          | some (e, s') => some (metG atM e s')) := by unfold closeG; rw [if_neg (by simp), if_neg hs]
        rw [hM] at hK
        cbv
        refine op_ hN (op_cput 0 [.iface tv (.ptr 1 0), .ptr 2 0, .vec p 3 3 lo len cap, .int .i64 (Int.ofNat cat), .bool true, .bool false, .int .i64 err, .bool told] rfl (fun _ => rfl) (op_close rfl (.core ⟨⟨sl, sa, sb⟩, queue, cat, true, false, err, told⟩ tv td) [0, 1] [2, 3] _ (hcore _ _) rfl rfl ?_))
        obtain ⟨fe, hmeth, hfin⟩ := hm.fin
        refine invoke_ (hfin ⟨m, ⟨⟨sl, sa, sb⟩, queue, cat, true, false, err, told⟩⟩ t) hG [1, 0] hmeth rfl rfl rfl rfl rfl ?_
        generalize endM ⟨m, ⟨⟨sl, sa, sb⟩, queue, cat, true, false, err, told⟩⟩ = y at hK ⊢
        cases y with
        | none => exact hK.elim
        | some z =>
          obtain ⟨e, s2⟩ := z
          intro t2
          have hK2 : K (.ret (.tuple [])) ([.abs (.core (metG atM e s2).c tv td) [0, 1], .abs (pd s2.m t2) [1, 0]] ++ []) := hK t2
          cbv
          refine op_ hN (call_ (met_spec hm s2 t2 e) hG [0, 1] rfl rfl rfl rfl rfl ?_)
          generalize (metG atM e s2).c = c' at hK2 ⊢
          cbv
          exact hf _ _ (fin_ [] rfl rfl hK2)
def allG {M : Type} (stepM : UInt8 → OS M → Option (Int × OS M)) (endM : OS M → Option (Int × OS M)) (atM : M → Option Nat) (text : List UInt8) (s : OS M) : Option (OS M) := match feedG stepM atM text s with
  | none => none
  | some s => closeG endM atM s
def PostA {M : Type} (rest : List (Chunk Pd)) (K : Out → List (Chunk Pd) → Prop) : Option (OS M) → Prop
  | none => False
  | some s => ∀ p lo len cap xs, VecOk p lo len cap xs s.c.queue → K (.ret (.tuple [.vec p 3 3 lo len cap, .int .i64 s.c.err, .int .i64 (Int.ofNat s.c.at_)])) (.arr p true 3 56 encE xs :: rest)
theorem all_spec (hm : MachOk GOk pd tv td stepM endM atM) (s : OS M) (t0 : Bool) (hcl : s.c.closed = false) (pt : Bool) (lo cap : Nat) (len : Nat) (xs text : List UInt8) (hv : VecOk pt lo len cap xs text) (hlen : len < 1000000) :
    Triple (BB Ip GOk) 16 3 4 [.ptr 0 0, .vec pt 2 1 lo len cap] [.abs (.core s.c tv td) [0, 1], .abs (pd s.m t0) [1, 0], .arr pt false 2 5 encB xs]
    (fun K => PostA [.arr pt false 2 5 encB xs] K (allG stepM endM atM text s)) := by
  refine triple_of BB_ok (tb := ty) rfl (n0 := 3) (fun _ : Unit => _) pl16 Tryz.call16 Tryz.func16 rfl (by kernel_rfl) (Nat.le_of_ble_eq_true rfl) (by decide) rfl pre_none ?_
  rintro G hG K hK W bi bc bs bk bu bb bo bg bl bp bn be Ncond Nob Nop Nloop Nscope hN Nfin hf _ _
  cbv
  simp only [allG] at hK
  refine op_ hN (call_ (feed_spec hm s t0 hcl pt lo cap len xs text hv hlen) hG [0, 1, 2] rfl rfl rfl rfl rfl ?_)
  generalize feedG stepM atM text s = y at hK ⊢
  cases y with
  | none => exact hK.elim
  | some s1 =>
    simp only at hK
    intro t1
    cbv
    refine op_ hN (call_ (close_spec hm s1 t1) hG [0, 1] rfl rfl rfl rfl rfl ?_)
    generalize closeG endM atM s1 = y at hK ⊢
    cases y with
    | none => exact hK.elim
    | some s2 =>
      intro t2
      obtain ⟨m, ⟨⟨sl, sa, sb⟩, queue, cat, closed, over, err, told⟩⟩ := s2
      cbv
      repeat' (first | exact True.intro | with_reducible refine dup ?_ | refine And.intro ?_ ?_)
      all_goals
        refine op_ hN (op_open rfl 0 2 rfl rfl rfl rfl ?_)
        rintro _ ⟨p, lo1, len1, cap1, ys, hv1, rfl⟩
        refine load_ ty_ok rfl ?_
        cbv
        repeat' (first | exact True.intro | with_reducible refine dup ?_ | refine And.intro ?_ ?_)
        all_goals
          exact hf _ _ (fin_ [19] rfl rfl (hK p lo1 len1 cap1 ys hv1))
end Hx
/- pull.Core.Feed, All over a block that stood before. -/
namespace Hx
open Go Sx Go.Proofs
set_option maxRecDepth 100000
set_option maxHeartbeats 4000000
set_option linter.unusedVariables false
set_option linter.unusedSimpArgs false
variable {GOk : Gl → Prop}
variable {M : Type} {pd : M → Bool → Pd} {tv td : Nat} {stepM : UInt8 → OS M → Option (Int × OS M)} {endM : OS M → Option (Int × OS M)} {atM : M → Option Nat}
theorem feed_old (hm : MachOk GOk pd tv td stepM endM atM) (s : OS M) (t0 : Bool) (hcl : s.c.closed = false) (pt : Bool) (lo cap : Nat) (len : Nat) (g : Nat) (text : List UInt8) (hlt : text.length = len) (hpr : pt = false → len = 0) (hS : OldB GOk g lo text) (hlen : len < 1000000) :
    Triple (BB Ip GOk) 29 3 3 [.ptr 0 0, .vec pt 2 1 lo len cap] [.abs (.core s.c tv td) [0, 1], .abs (pd s.m t0) [1, 0], .at_ 2 g]
    (fun K => PostF pd tv td [.at_ 2 g] (.bool true) K (feedG stepM atM text s)) := by
  obtain ⟨m, ⟨⟨sl, sa, sb⟩, queue, cat, closed, over, err, told⟩⟩ := s
  simp only at hcl
  subst hcl
  refine triple_of BB_ok (tb := ty) rfl (n0 := 5) (fun y : {cs' // Tm (.core ⟨⟨sl, sa, sb⟩, queue, cat, false, over, err, told⟩ tv td) cs'} => csRen (sg [0, 1] 3) y.1 ++ [.abs (pd m t0) [1, 0], .at_ 2 g]) pl29 Tryz.call29 Tryz.func29 rfl (by kernel_rfl) (Nat.le_of_ble_eq_true rfl) (by decide) rfl (pre_open rfl rfl rfl) ?_
  rintro G hG K hK W bi bc bs bk bu bb bo bg bl bp bn be Ncond Nob Nop Nloop Nscope hN Nfin hf _ ⟨cs', hT⟩
  obtain ⟨p, lo1, len1, cap1, ys, hv1, rfl⟩ := id hT
  cbv
  refine cond_F hN rfl ?_
  cbv
  refine loopN_ hN (loop_ hN ty_ok mixed (ι := Nat × OS M × Bool) (fun y => ⟨[(0, .ptr 0 0), (12, .vec pt 2 1 lo len cap), (13, .int .i64 (Int.ofNat len)), (14, .int .i64 (Int.ofNat y.1))], [.abs (.core y.2.1.c tv td) [0, 1], .abs (pd y.2.1.m y.2.2) [1, 0], .at_ 2 g], 3⟩)
    (fun y => y.1 ≤ len ∧ feedG stepM atM (text.drop y.1) y.2.1 = feedG stepM atM text ⟨m, ⟨⟨sl, sa, sb⟩, queue, cat, false, over, err, told⟩⟩) (fun y => len - y.1) ?_ ?_)
  · refine leads_close rfl (.core ⟨⟨sl, sa, sb⟩, queue, cat, false, over, err, told⟩ tv td) [0, 1] [3, 4] _ hT rfl ?_
    exact Leads.idx (0, ⟨m, ⟨⟨sl, sa, sb⟩, queue, cat, false, over, err, told⟩⟩, t0) [] ⟨Nat.zero_le _, rfl⟩ ⟨⟨rfl, rfl, rfl, rfl, trivial⟩, rfl, Nat.le_of_ble_eq_true rfl⟩
  rintro ⟨i, s1, t⟩ ⟨hi, hgo⟩ Nnext hn _
  simp only at hi hgo
  cbv
  refine cond_ hN (fun h => ?_) (fun h => ?_)
  · rw [clt hN] at h
    simp only [decide_eq_true_eq, decide_eq_false_iff_not, Int.ofNat_eq_natCast, gt_iff_lt, ge_iff_le, Bool.not_eq_true', Bool.not_eq_false', Int.not_lt, Int.not_le] at h
    have hilt : i < len := by have : (i : Int) < (len : Int) := h; omega
    have hpt : pt = true := by
      cases pt with
      | true => rfl
      | false => have := hpr rfl; omega
    have hidx : bp lo (Int.ofNat i) = lo + i := by rw [bp_ hN]; simp
    have hil : i < text.length := by omega
    have hx : text[i]? = some (text[i]'hil) := List.getElem?_eq_getElem hil
    have hdrop : text.drop i = (text[i]'hil) :: text.drop (i + 1) := List.drop_eq_getElem_cons hil
    cbv
    refine ob_ hN ⟨⟨by simp, by simpa using hilt⟩, hpt, trivial⟩ ?_
    cbv
    generalize (text[i]'hil) = x2 at hx hdrop
    rw [hdrop] at hgo
    refine op_ hN (load_old (id := 2) (g := g) ty_ok (by simp [csRen, Chunk.ren, sg]) rfl rfl hG hS hidx hx ?_)
    intro b hxb
    obtain ⟨m1, ⟨⟨sl1, sa1, sb1⟩, queue1, cat1, closed1, over1, err1, told1⟩⟩ := s1
    cbv
    refine op_ hN (op_open rfl 0 2 rfl rfl rfl rfl ?_)
    rintro _ ⟨p, lo1, len1, cap1, ys, hv1, rfl⟩
    simp only at hv1
    have hcore : ∀ sl sa sb cat over err, Tm (.core ⟨⟨sl, sa, sb⟩, queue1, cat, closed1, over, err, told1⟩ tv td) [.cells 0 td [.iface tv (.ptr 1 0), .ptr 2 0, .vec p 3 3 lo1 len1 cap1, .int .i64 (Int.ofNat cat), .bool closed1, .bool over, .int .i64 err, .bool told1], .cells 2 120 [.int .i64 sl, .int .u8 sa, .int .u8 sb], .arr p true 3 56 encE ys] :=
      fun sl sa sb cat over err => ⟨p, lo1, len1, cap1, ys, hv1, rfl⟩
    refine load_ ty_ok rfl ?_
    simp only [feedG] at hgo
    cbv
    refine cond_ hN (fun h2 => ?_) (fun h2 => ?_)
    · subst h2
      rw [if_pos rfl] at hgo
      rw [← hgo] at hK
      cbv
      exact hf _ _ (fin_as (.bool true) (fun _ => rfl) (fin_close rfl (.core ⟨⟨sl1, sa1, sb1⟩, queue1, cat1, closed1, true, err1, told1⟩ tv td) [0, 1] [3, 4] _ (hcore _ _ _ _ _ _) rfl (fin_ [] rfl rfl (hK t))))
    · subst h2
      rw [if_neg (by simp), ← hxb] at hgo
      cbv
      refine op_ hN (call_ (scan_step_spec ⟨sl1, sa1, sb1⟩ b) hG [3] rfl rfl rfl rfl rfl ?_)
      intro r sc hsc
      rw [← hsc] at hgo
      obtain ⟨sl2, sa2, sb2⟩ := sc
      cases r with
      | false =>
        simp only at hgo
        rw [← hgo] at hK
        cbv
        refine cond_T hN rfl ?_
        cbv
        refine op_ hN (op_close rfl (.core ⟨⟨sl2, sa2, sb2⟩, queue1, cat1, closed1, false, err1, told1⟩ tv td) [0, 1] [3, 4] _ (hcore _ _ _ _ _ _) rfl rfl ?_)
        refine call_ (fails_spec tv td ⟨⟨sl2, sa2, sb2⟩, queue1, cat1, closed1, false, err1, told1⟩ 3) hG [0, 1] rfl rfl rfl rfl rfl ?_
        cbv
        exact hf _ _ (fin_as (.bool true) (fun _ => rfl) (fin_ [] rfl rfl (hK t)))
      | true =>
        simp only at hgo
        cbv
        refine cond_F hN rfl ?_
        cbv
        refine op_ hN (op_close rfl (.core ⟨⟨sl2, sa2, sb2⟩, queue1, cat1, closed1, false, err1, told1⟩ tv td) [0, 1] [3, 4] _ (hcore _ _ _ _ _ _) rfl rfl ?_)
        obtain ⟨fs, hmeth, hstep⟩ := hm.step
        refine invoke_ (hstep ⟨m1, ⟨⟨sl2, sa2, sb2⟩, queue1, cat1, closed1, false, err1, told1⟩⟩ t x2 b hxb.symm) hG [1, 0] hmeth rfl rfl rfl rfl rfl ?_
        generalize stepM x2 ⟨m1, ⟨⟨sl2, sa2, sb2⟩, queue1, cat1, closed1, false, err1, told1⟩⟩ = y at hgo ⊢
        cases y with
        | none => simp only at hgo; rw [← hgo] at hK; exact hK.elim
        | some z =>
          obtain ⟨e, s2⟩ := z
          simp only at hgo
          intro t2
          cbv
          refine cond_ hN (fun h3 => ?_) (fun h3 => ?_)
          · rw [cne hN] at h3
            rw [if_pos (by simpa using h3)] at hgo
            rw [← hgo] at hK
            have hK2 : K (.ret (.bool true)) ([.abs (.core (metG atM e s2).c tv td) [0, 1], .abs (pd s2.m t2) [1, 0]] ++ [.at_ 2 g]) := hK t2
            cbv
            refine op_ hN (call_ (met_spec hm s2 t2 e) hG [0, 1] rfl rfl rfl rfl rfl ?_)
            generalize (metG atM e s2).c = c' at hK2 ⊢
            cbv
            exact hf _ _ (fin_as (.bool true) (fun _ => rfl) (fin_ [] rfl rfl hK2))
          · rw [cne hN] at h3
            rw [if_neg (by simpa using h3)] at hgo
            by_cases hA : s2.c.at_ > 1000000
            · rw [if_pos hA] at hgo; rw [← hgo] at hK; exact hK.elim
            rw [if_neg hA] at hgo
            obtain ⟨m2, ⟨⟨sl3, sa3, sb3⟩, queue3, cat3, closed3, over3, err3, told3⟩⟩ := s2
            simp only at hA hgo
            have hadd : bi .add .i64 (Int.ofNat cat3) 1 = Int.ofNat (cat3 + 1) := inext hN (by omega)
            have hadd2 : bi .add .i64 (Int.ofNat i) 1 = Int.ofNat (i + 1) := inext hN (by omega)
            cbv
            refine op_ hN (op_open rfl 0 2 rfl rfl rfl rfl ?_)
            rintro _ ⟨p3, lo3, len3, cap3, zs, hv3, rfl⟩
            refine load_ ty_ok rfl ?_
            cbv
            simp only [hadd, hadd2]
            refine hn _ (leads_close rfl (.core ⟨⟨sl3, sa3, sb3⟩, queue3, cat3 + 1, closed3, over3, err3, told3⟩ tv td) [0, 1] [5, 6] _ ⟨p3, lo3, len3, cap3, zs, hv3, rfl⟩ rfl ?_)
            exact Leads.nxt (i + 1, ⟨m2, ⟨⟨sl3, sa3, sb3⟩, queue3, cat3 + 1, closed3, over3, err3, told3⟩⟩, t2) [] ⟨hilt, hgo⟩ (by simp only; omega) ⟨⟨rfl, rfl, rfl, rfl, trivial⟩, rfl, Nat.le_of_ble_eq_true rfl⟩
  · rw [clt hN] at h
    simp only [decide_eq_true_eq, decide_eq_false_iff_not, Int.ofNat_eq_natCast, gt_iff_lt, ge_iff_le, Bool.not_eq_true', Bool.not_eq_false', Int.not_lt, Int.not_le] at h
    have hie : i = len := by have : (len : Int) ≤ (i : Int) := h; omega
    rw [hie, ← hlt, List.drop_length] at hgo
    simp only [feedG] at hgo
    rw [← hgo] at hK
    cbv
    exact hf _ _ (fin_as (.bool true) (fun _ => rfl) (fin_ [] rfl rfl (hK t)))
theorem all_old (hm : MachOk GOk pd tv td stepM endM atM) (s : OS M) (t0 : Bool) (hcl : s.c.closed = false) (pt : Bool) (lo cap : Nat) (len : Nat) (g : Nat) (text : List UInt8) (hlt : text.length = len) (hpr : pt = false → len = 0) (hS : OldB GOk g lo text) (hlen : len < 1000000) :
    Triple (BB Ip GOk) 16 3 4 [.ptr 0 0, .vec pt 2 1 lo len cap] [.abs (.core s.c tv td) [0, 1], .abs (pd s.m t0) [1, 0], .at_ 2 g]
    (fun K => PostA [.at_ 2 g] K (allG stepM endM atM text s)) := by
  refine triple_of BB_ok (tb := ty) rfl (n0 := 3) (fun _ : Unit => _) pl16 Tryz.call16 Tryz.func16 rfl (by kernel_rfl) (Nat.le_of_ble_eq_true rfl) (by decide) rfl pre_none ?_
  rintro G hG K hK W bi bc bs bk bu bb bo bg bl bp bn be Ncond Nob Nop Nloop Nscope hN Nfin hf _ _
  cbv
  simp only [allG] at hK
  refine op_ hN (call_ (feed_old hm s t0 hcl pt lo cap len g text hlt hpr hS hlen) hG [0, 1, 2] rfl rfl rfl rfl rfl ?_)
  generalize feedG stepM atM text s = y at hK ⊢
  cases y with
  | none => exact hK.elim
  | some s1 =>
    simp only at hK
    intro t1
    cbv
    refine op_ hN (call_ (close_spec hm s1 t1) hG [0, 1] rfl rfl rfl rfl rfl ?_)
    generalize closeG endM atM s1 = y at hK ⊢
    cases y with
    | none => exact hK.elim
    | some s2 =>
      intro t2
      obtain ⟨m, ⟨⟨sl, sa, sb⟩, queue, cat, closed, over, err, told⟩⟩ := s2
      cbv
      repeat' (first | exact True.intro | with_reducible refine dup ?_ | refine And.intro ?_ ?_)
      all_goals
        refine op_ hN (op_open rfl 0 2 rfl rfl rfl rfl ?_)
        rintro _ ⟨p, lo1, len1, cap1, ys, hv1, rfl⟩
        refine load_ ty_ok rfl ?_
        cbv
        repeat' (first | exact True.intro | with_reducible refine dup ?_ | refine And.intro ?_ ?_)
        all_goals
          exact hf _ _ (fin_ [19] rfl rfl (hK p lo1 len1 cap1 ys hv1))
end Hx
/- delim: a whole text that was printed. -/
namespace Hx
open Go Sx Go.Proofs
set_option maxRecDepth 100000
set_option maxHeartbeats 4000000
set_option linter.unusedVariables false
set_option linter.unusedSimpArgs false
variable {GOk : Gl → Prop}
def rowE (hd : List ByteArray) (ts : List (List UInt8)) : List Ev := ev0 7 :: (fieldsE hd ts ++ [ev0 9])
theorem run_rows (hd : List ByteArray) (hne : hd ≠ []) (h8 : hd.length ≤ 8) : ∀ (rows : List (List (List UInt8))) (q : List Ev) (r : List UInt8), (∀ ts ∈ rows, ts.length = hd.length ∧ ∀ s ∈ ts, s.length ≤ 48) → q.length + 19 * rows.length < 4294967296 →
    drun (rows.flatMap lineP ++ r) (⟨0, true, false, hd, true, [], 0⟩, q) = drun r (⟨0, true, false, hd, true, [], 0⟩, q ++ rows.flatMap (rowE hd))
  | [], q, r, _, _ => by simp
  | ts :: rows, q, r, hr, hq => by
    obtain ⟨h1, h2⟩ := hr ts (by simp)
    have hl := fieldsE_len hd ts
    have hpos : 0 < hd.length := List.length_pos_iff.2 hne
    simp only [List.length_cons] at hq
    rw [List.flatMap_cons, List.append_assoc, run_row hd ts 0 q false _ (by intro e; rw [e] at h1; simp at h1; omega) (by omega) (by rw [if_pos rfl]; omega) h2]
    rw [run_rows hd hne h8 rows _ r (fun t ht => hr t (by simp [ht])) (by simp [ev0]; omega)]
    simp [rowE]
theorem scanRun_append : ∀ (a b : List UInt8) (s : Scan), scanRun s (a ++ b) = (scanRun s a).bind fun s' => scanRun s' b
  | [], b, s => rfl
  | x :: a, b, s => by
    simp only [List.cons_append, scanRun]
    split
    · exact scanRun_append a b _
    · rfl
def okS (l : List UInt8) : Prop := scanRun sc0 l = some sc0
theorem okS_nil : okS [] := rfl
theorem okS.append {a b : List UInt8} (h : okS a) (h2 : okS b) : okS (a ++ b) := by unfold okS at *; rw [scanRun_append, h]; exact h2
theorem okS_asc {b : UInt8} (h : b.toNat < 128) : okS [b] := by unfold okS; rw [scan_cons (scan_asc _ _ (Int.le_refl 0) (by omega))]; rfl
theorem okS.cons {b : UInt8} {l : List UInt8} (h : b.toNat < 128) (h2 : okS l) : okS (b :: l) := (okS_asc h).append h2
theorem scan_least (s : Scan) (b : Int) (h : (scanStep s b).1 = true) : 34 < (scanStep s b).2.least := by
  unfold scanStep at h ⊢
  split
  · rename_i h0
    rw [if_pos h0] at h
    split
    · rename_i h1; rw [if_pos h1] at h; exact nomatch h
    · simp
  · rename_i h0
    rw [if_neg h0] at h
    split
    · simp
    · rename_i h1
      rw [if_neg h1] at h
      split
      · rename_i h2; rw [if_pos h2] at h; exact nomatch h
      · simp only
        split
        · simp
        · split
          · simp
          · split <;> simp
theorem scan_dbl : ∀ (l : List UInt8) (s s' : Scan), (0 < s.left → 34 < s.least) → scanRun s l = some s' → scanRun s (dbl l) = some s'
  | [], s, s', _, h => h
  | b :: r, s, s', hi, h => by
    unfold dbl
    by_cases hb : b = 34
    · subst hb
      rw [if_pos rfl]
      simp only [scanRun] at h
      by_cases h1 : (scanStep s (((34 : UInt8).toNat : Nat) : Int)).1 = true
      · rw [if_pos h1] at h
        have hl : s.left ≤ 0 := by
          rcases Int.lt_or_le 0 s.left with h2 | h2
          · exfalso
            have h3 := hi h2
            unfold scanStep at h1
            rw [if_pos h2, if_pos] at h1
            · exact nomatch h1
            · simp; omega
          · exact h2
        have e1 : scanStep s (((34 : UInt8).toNat : Nat) : Int) = (true, sc0) := scan_asc _ _ hl (by decide)
        have e2 : scanStep sc0 (((34 : UInt8).toNat : Nat) : Int) = (true, sc0) := scan_asc _ _ (Int.le_refl 0) (by decide)
        rw [e1] at h
        rw [scan_cons e1, scan_cons e2]
        exact scan_dbl r sc0 s' (fun h => absurd h (by decide)) h
      · rw [if_neg h1] at h; exact nomatch h
    · rw [if_neg hb]
      simp only [scanRun] at h ⊢
      by_cases h1 : (scanStep s ((b.toNat : Nat) : Int)).1 = true
      · rw [if_pos h1] at h ⊢
        exact scan_dbl r _ s' (fun _ => scan_least _ _ h1) h
      · rw [if_neg h1] at h; exact nomatch h
theorem okS_dbl {l : List UInt8} (h : okS l) : okS (dbl l) := scan_dbl l sc0 sc0 (fun h => absurd h (by decide)) h
theorem okS_cell {l : List UInt8} (h : okS l) : okS (cellP l) := by
  unfold cellP
  split
  · exact okS.cons (by decide) ((okS_dbl h).append (okS_asc (by decide)))
  · exact h
theorem okS_join : ∀ (l : List (List UInt8)), (∀ s ∈ l, okS s) → okS (joinC l)
  | [], _ => okS_nil
  | [a], h => h a (by simp)
  | a :: b :: r, h => (h a (by simp)).append (okS.cons (by decide) (okS_join (b :: r) (fun s hs => h s (List.mem_cons_of_mem _ hs))))
theorem okS_line {l : List (List UInt8)} (h : ∀ s ∈ l, okS s) : okS (lineP l) := by
  refine (okS_join _ ?_).append (okS_asc (by decide))
  intro s hs
  obtain ⟨t, ht, rfl⟩ := List.mem_map.1 hs
  exact okS_cell (h t ht)
theorem okS_lines : ∀ {l : List (List (List UInt8))}, (∀ ts ∈ l, ∀ s ∈ ts, okS s) → okS (l.flatMap lineP)
  | [], _ => okS_nil
  | a :: r, h => by
    rw [List.flatMap_cons]
    exact (okS_line (h a (by simp))).append (okS_lines fun ts ht => h ts (by simp [ht]))
theorem feed_law (cl : Bool) (er : Int) (td : Bool) : ∀ (text : List UInt8) (m0 : Dlm) (q0 : List Ev) (s0 : Scan) (k : Nat) (m : Dlm) (q : List Ev) (sc : Scan), scanRun s0 text = some sc → drun text (m0, q0) = some (m, q) → k + text.length ≤ 1000000 →
    feedG dlmStep (fun _ => none) text ⟨m0, ⟨s0, q0, k, cl, false, er, td⟩⟩ = some ⟨m, ⟨sc, q, k + text.length, cl, false, er, td⟩⟩
  | [], m0, q0, s0, k, m, q, sc, h1, h2, _ => by
    simp only [scanRun, Option.some.injEq] at h1
    simp only [drun, Option.some.injEq, Prod.mk.injEq] at h2
    obtain ⟨h2, h3⟩ := h2
    subst h1 h2 h3
    rfl
  | b :: r, m0, q0, s0, k, m, q, sc, h1, h2, h3 => by
    simp only [List.length_cons] at h3
    simp only [scanRun] at h1
    by_cases hs : (scanStep s0 ((b.toNat : Nat) : Int)).1 = true
    rotate_left
    · rw [if_neg hs] at h1; exact nomatch h1
    rw [if_pos hs] at h1
    obtain ⟨sc1, hsc⟩ : ∃ sc1, scanStep s0 ((b.toNat : Nat) : Int) = (true, sc1) := ⟨_, Prod.ext hs rfl⟩
    rw [hsc] at h1
    simp only at h1
    simp only [drun] at h2
    cases hd : dStep b (m0, q0) with
    | none => rw [hd] at h2; exact nomatch h2
    | some y =>
      obtain ⟨e, m1, q1⟩ := y
      rw [hd] at h2
      simp only at h2
      by_cases he : e = 0
      rotate_left
      · rw [if_neg he] at h2; exact nomatch h2
      subst he
      rw [if_pos rfl] at h2
      have hst : dlmStep b ⟨m0, ⟨sc1, q0, k, cl, false, er, td⟩⟩ = some (0, ⟨m1, ⟨sc1, q1, k, cl, false, er, td⟩⟩) := by
        unfold dlmStep
        simp only [hd]
      have := feed_law cl er td r m1 q1 sc1 (k + 1) m q sc h1 h2 (by omega)
      simp only [feedG, Bool.false_eq_true, if_false, hsc, hst, ne_eq, not_true_eq_false]
      rw [if_neg (by omega), this]
      simp only [List.length_cons]
      rw [show k + 1 + r.length = k + (r.length + 1) by omega]
def core0 : Core := ⟨sc0, [], 0, false, false, 0, false⟩
/-- what is printed of a table: its header, its rows -/
def tableP (rows : List (List (List UInt8))) (hs : List (List UInt8)) : List UInt8 := if rows = [] then [] else lineP hs ++ rows.flatMap lineP
def tableE (rows : List (List (List UInt8))) (hs : List (List UInt8)) : List Ev := ev0 5 :: (rows.flatMap (rowE (hs.map bytesOf)) ++ [ev0 6])
theorem dlm_all (rows : List (List (List UInt8))) (hs : List (List UInt8)) (h : rows ≠ [] → hs ≠ [] ∧ hs.length ≤ 8 ∧ hs.Nodup ∧ (∀ s ∈ hs, s.length ≤ 48 ∧ okS s)) (hr : ∀ ts ∈ rows, ts.length = hs.length ∧ ∀ s ∈ ts, s.length ≤ 48 ∧ okS s)
    (hn : rows.length ≤ 1000) (ht : (tableP rows hs).length ≤ 1000000) :
    ∃ m sc, allG dlmStep dlmEnd (fun _ => none) (tableP rows hs) ⟨dlm0, core0⟩ = some ⟨m, ⟨sc, tableE rows hs, (tableP rows hs).length, true, true, 0, false⟩⟩ := by
  by_cases hrw : rows = []
  · subst hrw
    refine ⟨dlm0, sc0, ?_⟩
    simp [tableP, allG, feedG, closeG, core0, sc0, dlmEnd, dEnd, dlm0, dTell, metG, tableE]
  obtain ⟨h1, h2, h3, h4⟩ := h hrw
  have hscan : scanRun sc0 (tableP rows hs) = some sc0 := by
    unfold tableP; rw [if_neg hrw]
    exact (okS_line fun s hs' => (h4 s hs').2).append (okS_lines fun ts hts s hs' => ((hr ts hts).2 s hs').2)
  have hnd : (hs.map bytesOf).Nodup := by
    rw [List.nodup_iff_pairwise_ne] at h3 ⊢
    exact List.pairwise_map.2 (h3.imp fun hne e => hne (bytesOf_inj e))
  have hrun : drun (tableP rows hs) (dlm0, []) = some (⟨0, true, false, hs.map bytesOf, true, [], 0⟩, ev0 5 :: rows.flatMap (rowE (hs.map bytesOf))) := by
    have hst : ∀ b r, drun (b :: r) (dlm0, []) = drun (b :: r) (⟨0, true, false, [], false, [], 0⟩, [ev0 5]) := by
      intro b r
      simp only [drun]
      have : dStep b (dlm0, []) = dStep b (⟨0, true, false, [], false, [], 0⟩, [ev0 5]) := by
        simp [dStep, dStart, dlm0, dTell]
      rw [this]
    have hrun2 := run_header [ev0 5] hs [] false (rows.flatMap lineP) h1 (by simpa using hnd) (by simpa using h2) (fun s hs' => (h4 s hs').1)
    have hrows := run_rows (hs.map bytesOf) (by simpa using h1) (by simpa using h2) rows [ev0 5] [] (fun ts hts => ⟨by simpa using (hr ts hts).1, fun s hs' => ((hr ts hts).2 s hs').1⟩) (by simp; omega)
    rw [List.append_nil] at hrows
    unfold tableP
    rw [if_neg hrw]
    have hne : lineP hs ++ rows.flatMap lineP ≠ [] := by unfold lineP; simp
    obtain ⟨b, r, hbr⟩ := List.exists_cons_of_ne_nil hne
    rw [hbr, hst, ← hbr, hrun2, List.nil_append, hrows]
    simp [drun]
  have hfeed := feed_law false 0 false (tableP rows hs) dlm0 [] sc0 0 _ _ sc0 hscan hrun (by omega)
  refine ⟨⟨0, true, false, hs.map bytesOf, true, [], 0⟩, sc0, ?_⟩
  unfold allG core0
  rw [hfeed, Nat.zero_add]
  have hlen : (rows.flatMap (rowE (hs.map bytesOf))).length ≤ rows.length * 19 := by
    have : ∀ l : List (List (List UInt8)), (∀ ts ∈ l, ts.length ≤ 8) → (l.flatMap (rowE (hs.map bytesOf))).length ≤ l.length * 19 := by
      intro l
      induction l with
      | nil => intro _; simp
      | cons a l ih =>
        intro hl
        have h5 := ih fun ts ht => hl ts (by simp [ht])
        have h6 := fieldsE_len (hs.map bytesOf) a
        have h7 := hl a (by simp)
        simp only [List.flatMap_cons, List.length_append, rowE, List.length_cons, List.length_nil]
        omega
    exact this rows fun ts hts => by rw [(hr ts hts).1]; exact h2
  unfold tableE
  generalize rows.flatMap (rowE (hs.map bytesOf)) = L at hlen ⊢
  have hL : ¬ 4294967296 ≤ (ev0 5 :: L).length := by simp only [List.length_cons]; omega
  have htl : ∀ m : Dlm, dTell (ev0 6) (m, ev0 5 :: L) = some (m, ev0 5 :: (L ++ [ev0 6])) := by
    intro m; unfold dTell; rw [if_neg hL]; rfl
  simp [closeG, sc0, dlmEnd, dEnd, htl, metG]
end Hx
