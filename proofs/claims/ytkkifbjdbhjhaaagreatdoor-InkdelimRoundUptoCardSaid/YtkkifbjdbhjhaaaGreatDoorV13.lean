/-
  Part of a proof.
-/
import Derived.Test.YtkkifbjdbhjhaaaGreatDoorV11
import Derived.Test.YtkkifbjdbhjhaaaGreatDoorV12
import Derived.Test.YtkkifbjdbhjhaaaGreatDoorV05
import Derived.Test.YtkkifbjdbhjhaaaGreatDoorV08
import Derived.Test.YtkkifbjdbhjhaaaGreatDoorV04
import Derived.Lib.ValidLaws
set_option linter.unusedVariables false
set_option linter.unusedSimpArgs false
/- events.right. -/
namespace Hx
open Go Sx Go.Proofs
set_option maxRecDepth 100000
set_option maxHeartbeats 4000000
set_option linter.unusedVariables false
set_option linter.unusedSimpArgs false
variable {GOk : Gl → Prop}
def rightM (x : Ev) : Bool :=
  if x.kind = 1 ∨ x.kind = 5 ∨ x.kind = 6 ∨ x.kind = 7 ∨ x.kind = 9 ∨ x.kind = 12 then decide (x.text = ⟨#[]⟩) && decide (x.val = ⟨#[]⟩)
  else if x.kind = 2 then decide (x.val = ⟨#[]⟩) && (decide (x.text = wTrue) || decide (x.text = wFalse))
  else if x.kind = 3 then decide (x.val = ⟨#[]⟩) && (decide ((numReadM x.text).2 = 0) && decide ((numReadM x.text).1 = x.text))
  else if x.kind = 4 ∨ x.kind = 8 then decide (x.val = ⟨#[]⟩) && mayT x.text
  else if x.kind = 10 then decide (x.val = ⟨#[]⟩) && (cutN x.text).2.2
  else if x.kind = 11 then (cutN x.text).2.2 && mayT x.val
  else false
theorem full_ev_spec (hTab : GTab GOk) (s : ByteArray) (hs : s.size < 1100000) : Triple (BB Ip GOk) 113 0 0 [.str s] [] (fun K => ∀ b, b = (cutN s).2.2 → K (.ret (.bool b)) []) := by
  refine triple_of BB_ok (tb := ty) rfl (n0 := 0) (fun _ : Unit => _) pl113 Tryz.call113 Tryz.func113 rfl (by kernel_rfl) (Nat.le_of_ble_eq_true rfl) (by decide) rfl pre_none ?_
  rintro G hG K hK W bi bc bs bk bu bb bo bg bl bp bn be Ncond Nob Nop Nloop Nscope hN Nfin hf _ _
  cbv
  refine op_ hN (call_ (ncut_spec hTab s (by omega)) hG [] rfl rfl rfl rfl rfl ?_)
  intro a b c hc
  rw [← hc] at hK
  cbv
  exact hf _ _ (fin_ [] rfl rfl (hK c rfl))
theorem right_spec (hT : GTab GOk) (x : Ev) (hx : okE x) : Triple (BB Ip GOk) 87 0 0 [.agg [.int .i64 x.kind, .str x.text, .str x.val]] [] (fun K => ∀ b, b = rightM x → K (.ret (.bool b)) []) := by
  obtain ⟨kind, text, val⟩ := x
  obtain ⟨h1, h2, hsz10, -⟩ := hx
  simp only at h1 h2 hsz10
  refine triple_of BB_ok (tb := ty) rfl (n0 := 0) (fun _ : Unit => _) pl87 Tryz.call87 Tryz.func87 rfl (by kernel_rfl) (Nat.le_of_ble_eq_true rfl) (by decide) rfl pre_none ?_
  rintro G hG K hK W bi bc bs bk bu bb bo bg bl bp bn be Ncond Nob Nop Nloop Nscope hN Nfin hf _ _
  have rA : (kind = 1 ∨ kind = 5 ∨ kind = 6 ∨ kind = 7 ∨ kind = 9 ∨ kind = 12) → rightM ⟨kind, text, val⟩ = (decide (text = ⟨#[]⟩) && decide (val = ⟨#[]⟩)) := fun h => by unfold rightM; exact if_pos h
  cbv
  refine cond_ hN (fun h => ?_) (fun g1 => ?_)
  · rw [ceq hN] at h
    have hk : kind = 1 := by simpa using h
    cbv
    refine op_ hN (eq_ev rfl ?_)
    intro b hb
    cbv
    exact hf _ _ (fin_ [] rfl rfl (hK b (by rw [hb, rA (by simp [hk]), decide_eq_true rfl, Bool.true_and])))
  rw [ceq hN] at g1
  have g1' : kind ≠ 1 := by simpa using g1
  cbv
  refine cond_ hN (fun h => ?_) (fun g5 => ?_)
  · rw [ceq hN] at h
    have hk : kind = 5 := by simpa using h
    cbv
    refine op_ hN (eq_ev rfl ?_)
    intro b hb
    cbv
    exact hf _ _ (fin_ [] rfl rfl (hK b (by rw [hb, rA (by simp [hk]), decide_eq_true rfl, Bool.true_and])))
  rw [ceq hN] at g5
  have g5' : kind ≠ 5 := by simpa using g5
  cbv
  refine cond_ hN (fun h => ?_) (fun g6 => ?_)
  · rw [ceq hN] at h
    have hk : kind = 6 := by simpa using h
    cbv
    refine op_ hN (eq_ev rfl ?_)
    intro b hb
    cbv
    exact hf _ _ (fin_ [] rfl rfl (hK b (by rw [hb, rA (by simp [hk]), decide_eq_true rfl, Bool.true_and])))
  rw [ceq hN] at g6
  have g6' : kind ≠ 6 := by simpa using g6
  cbv
  refine cond_ hN (fun h => ?_) (fun g7 => ?_)
  · rw [ceq hN] at h
    have hk : kind = 7 := by simpa using h
    cbv
    refine op_ hN (eq_ev rfl ?_)
    intro b hb
    cbv
    exact hf _ _ (fin_ [] rfl rfl (hK b (by rw [hb, rA (by simp [hk]), decide_eq_true rfl, Bool.true_and])))
  rw [ceq hN] at g7
  have g7' : kind ≠ 7 := by simpa using g7
  cbv
  refine cond_ hN (fun h => ?_) (fun g9 => ?_)
  · rw [ceq hN] at h
    have hk : kind = 9 := by simpa using h
    cbv
    refine op_ hN (eq_ev rfl ?_)
    intro b hb
    cbv
    exact hf _ _ (fin_ [] rfl rfl (hK b (by rw [hb, rA (by simp [hk]), decide_eq_true rfl, Bool.true_and])))
  rw [ceq hN] at g9
  have g9' : kind ≠ 9 := by simpa using g9
  cbv
  refine cond_ hN (fun h => ?_) (fun g12 => ?_)
  · rw [ceq hN] at h
    have hk : kind = 12 := by simpa using h
    cbv
    refine op_ hN (eq_ev rfl ?_)
    intro b hb
    cbv
    exact hf _ _ (fin_ [] rfl rfl (hK b (by rw [hb, rA (by simp [hk]), decide_eq_true rfl, Bool.true_and])))
  rw [ceq hN] at g12
  have g12' : kind ≠ 12 := by simpa using g12
  cbv
  have rB : ¬ (kind = 1 ∨ kind = 5 ∨ kind = 6 ∨ kind = 7 ∨ kind = 9 ∨ kind = 12) := by simp [g1', g5', g6', g7', g9', g12']
  refine cond_ hN (fun h => ?_) (fun g2 => ?_)
  · rw [ceq hN] at h
    have hk : kind = 2 := by simpa using h
    have hM : rightM ⟨kind, text, val⟩ = (decide (val = ⟨#[]⟩) && (decide (text = wTrue) || decide (text = wFalse))) := by unfold rightM; rw [if_neg rB, if_pos hk]
    rw [hM] at hK
    cbv
    refine cond_ hN (fun h3 => ?_) (fun h3 => ?_)
    · rw [seq_eq hN] at h3
      have h3' : decide (val = ⟨#[]⟩) = true := h3
      rw [h3', Bool.true_and] at hK
      cbv
      refine cond_ hN (fun h4 => ?_) (fun h4 => ?_)
      · rw [seq_eq hN] at h4
        have h4' : decide (text = wTrue) = true := h4
        rw [h4', Bool.true_or] at hK
        cbv
        exact hf _ _ (fin_as (.bool true) (fun _ => rfl) (fin_ [] rfl rfl (hK true rfl)))
      · rw [seq_eq hN] at h4
        have h4' : decide (text = wTrue) = false := h4
        rw [h4', Bool.false_or] at hK
        cbv
        exact hf _ _ (fin_ [] rfl rfl (hK _ (by rw [seq_eq hN]; rfl)))
    · rw [seq_eq hN] at h3
      have h3' : decide (val = ⟨#[]⟩) = false := h3
      rw [h3', Bool.false_and] at hK
      cbv
      exact hf _ _ (fin_as (.bool false) (fun _ => rfl) (fin_ [] rfl rfl (hK false rfl)))
  rw [ceq hN] at g2
  have g2' : kind ≠ 2 := by simpa using g2
  cbv
  refine cond_ hN (fun h => ?_) (fun g3 => ?_)
  · rw [ceq hN] at h
    have hk : kind = 3 := by simpa using h
    have hM : rightM ⟨kind, text, val⟩ = (decide (val = ⟨#[]⟩) && (decide ((numReadM text).2 = 0) && decide ((numReadM text).1 = text))) := by unfold rightM; rw [if_neg rB, if_neg g2', if_pos hk]
    rw [hM] at hK
    cbv
    refine op_ hN (call_ (nread_spec hT text h1) hG [] rfl rfl rfl rfl rfl ?_)
    intro r e hre
    rw [← hre] at hK
    simp only at hK
    cbv
    refine cond_ hN (fun h3 => ?_) (fun h3 => ?_)
    · rw [seq_eq hN] at h3
      have h3' : decide (val = ⟨#[]⟩) = true := h3
      rw [h3', Bool.true_and] at hK
      cbv
      refine cond_ hN (fun h4 => ?_) (fun h4 => ?_)
      · rw [ceq hN] at h4
        rw [h4, Bool.true_and] at hK
        cbv
        exact hf _ _ (fin_ [] rfl rfl (hK _ (by rw [seq_eq hN])))
      · rw [ceq hN] at h4
        rw [h4, Bool.false_and] at hK
        cbv
        exact hf _ _ (fin_as (.bool false) (fun _ => rfl) (fin_ [] rfl rfl (hK false rfl)))
    · rw [seq_eq hN] at h3
      have h3' : decide (val = ⟨#[]⟩) = false := h3
      rw [h3', Bool.false_and] at hK
      cbv
      exact hf _ _ (fin_as (.bool false) (fun _ => rfl) (fin_ [] rfl rfl (hK false rfl)))
  rw [ceq hN] at g3
  have g3' : kind ≠ 3 := by simpa using g3
  cbv
  have txt : (kind = 4 ∨ kind = 8) → rightM ⟨kind, text, val⟩ = (decide (val = ⟨#[]⟩) && mayT text) := fun h => by unfold rightM; rw [if_neg rB, if_neg g2', if_neg g3', if_pos h]
  refine cond_ hN (fun h => ?_) (fun g4 => ?_)
  · rw [ceq hN] at h
    have hk : kind = 4 := by simpa using h
    rw [txt (by simp [hk])] at hK
    cbv
    refine cond_ hN (fun h3 => ?_) (fun h3 => ?_)
    · rw [seq_eq hN] at h3
      have h3' : decide (val = ⟨#[]⟩) = true := h3
      rw [h3', Bool.true_and] at hK
      cbv
      refine op_ hN (call_ (may_spec hT text h1) hG [] rfl rfl rfl rfl rfl ?_)
      intro b hb
      cbv
      exact hf _ _ (fin_ [] rfl rfl (hK b hb))
    · rw [seq_eq hN] at h3
      have h3' : decide (val = ⟨#[]⟩) = false := h3
      rw [h3', Bool.false_and] at hK
      cbv
      exact hf _ _ (fin_as (.bool false) (fun _ => rfl) (fin_ [] rfl rfl (hK false rfl)))
  rw [ceq hN] at g4
  have g4' : kind ≠ 4 := by simpa using g4
  cbv
  refine cond_ hN (fun h => ?_) (fun g8 => ?_)
  · rw [ceq hN] at h
    have hk : kind = 8 := by simpa using h
    rw [txt (by simp [hk])] at hK
    cbv
    refine cond_ hN (fun h3 => ?_) (fun h3 => ?_)
    · rw [seq_eq hN] at h3
      have h3' : decide (val = ⟨#[]⟩) = true := h3
      rw [h3', Bool.true_and] at hK
      cbv
      refine op_ hN (call_ (may_spec hT text h1) hG [] rfl rfl rfl rfl rfl ?_)
      intro b hb
      cbv
      exact hf _ _ (fin_ [] rfl rfl (hK b hb))
    · rw [seq_eq hN] at h3
      have h3' : decide (val = ⟨#[]⟩) = false := h3
      rw [h3', Bool.false_and] at hK
      cbv
      exact hf _ _ (fin_as (.bool false) (fun _ => rfl) (fin_ [] rfl rfl (hK false rfl)))
  rw [ceq hN] at g8
  have g8' : kind ≠ 8 := by simpa using g8
  cbv
  have rE : rightM ⟨kind, text, val⟩ = (if kind = 10 then decide (val = ⟨#[]⟩) && (cutN text).2.2 else if kind = 11 then (cutN text).2.2 && mayT val else false) := by
    unfold rightM; rw [if_neg rB, if_neg g2', if_neg g3', if_neg (by simp [g4', g8'])]
  rw [rE] at hK
  refine cond_ hN (fun h => ?_) (fun g10 => ?_)
  · rw [ceq hN] at h
    have hk : kind = 10 := by simpa using h
    rw [if_pos hk] at hK
    have hsz := hsz10 (.inl hk)
    cbv
    refine cond_ hN (fun h3 => ?_) (fun h3 => ?_)
    · rw [seq_eq hN] at h3
      have h3' : decide (val = ⟨#[]⟩) = true := h3
      rw [h3', Bool.true_and] at hK
      cbv
      refine op_ hN (call_ (full_ev_spec hT text hsz) hG [] rfl rfl rfl rfl rfl ?_)
      intro b hb
      cbv
      exact hf _ _ (fin_ [] rfl rfl (hK b hb))
    · rw [seq_eq hN] at h3
      have h3' : decide (val = ⟨#[]⟩) = false := h3
      rw [h3', Bool.false_and] at hK
      cbv
      exact hf _ _ (fin_as (.bool false) (fun _ => rfl) (fin_ [] rfl rfl (hK false rfl)))
  rw [ceq hN] at g10
  have g10' : kind ≠ 10 := by simpa using g10
  rw [if_neg g10'] at hK
  cbv
  refine cond_ hN (fun h => ?_) (fun g11 => ?_)
  · rw [ceq hN] at h
    have hk : kind = 11 := by simpa using h
    rw [if_pos hk] at hK
    have hsz := hsz10 (.inr hk)
    cbv
    refine op_ hN (call_ (full_ev_spec hT text hsz) hG [] rfl rfl rfl rfl rfl ?_)
    intro b hb
    rw [← hb] at hK
    clear hb
    cases b with
    | true =>
      rw [Bool.true_and] at hK
      cbv
      refine cond_T hN rfl ?_
      cbv
      refine op_ hN (call_ (may_spec hT val h2) hG [] rfl rfl rfl rfl rfl ?_)
      intro c hc
      cbv
      exact hf _ _ (fin_ [] rfl rfl (hK c hc))
    | false =>
      cbv
      refine cond_F hN rfl ?_
      cbv
      exact hf _ _ (fin_as (.bool false) (fun _ => rfl) (fin_ [] rfl rfl (hK false rfl)))
  rw [ceq hN] at g11
  have g11' : kind ≠ 11 := by simpa using g11
  rw [if_neg g11'] at hK
  cbv
  exact hf _ _ (fin_as (.bool false) (fun _ => rfl) (fin_ [] rfl rfl (hK false rfl)))
end Hx
/- The document's answer for rows of events, as functions; what the checker takes is taken there. -/
namespace Hx
open Go Sx Go.Proofs
set_option maxRecDepth 100000
set_option maxHeartbeats 4000000
set_option linter.unusedVariables false
set_option linter.unusedSimpArgs false
variable {GOk : Gl → Prop}
def isC (k : Int) : Bool := k == 6 || (k == 9 || k == 12)
/-- the places of what is open, the innermost first -/
def opnGo : Nat → List Nat → List Ev → List Nat
  | _, s, [] => s
  | i, s, x :: r => opnGo (i + 1) (if k57a x.kind then i :: s else if isC x.kind then s.tail else s) r
/-- the places of what stands in a thing itself -/
def ownGo : Nat → Int → List Ev → List Nat
  | _, _, [] => []
  | i, d, x :: r => if isC x.kind then ownGo (i + 1) (d - 1) r else (if d = 0 then [i] else []) ++ ownGo (i + 1) (if k57a x.kind then d + 1 else d) r
def depGo : Int → List Ev → Int
  | d, [] => d
  | d, x :: r => depGo (if isC x.kind then d - 1 else if k57a x.kind then d + 1 else d) r
def evD : Ev := ⟨0, ⟨#[]⟩, ⟨#[]⟩⟩
def lastK (es : List Ev) : Int := match es.getLast? with | some x => x.kind | none => 0
def isVal (k : Int) : Bool := k57a k || k1234 k
def ownE (l : List Ev) (p : Nat) : List Ev := (ownGo (p + 1) 0 (l.drop (p + 1))).map fun i => l.getD i evD
def fitsR (k last : Int) (x : Ev) : Bool :=
  if k = 5 then isVal x.kind || x.kind == 6
  else if k = 7 then (if last = 8 then isVal x.kind else x.kind == 8 || x.kind == 9)
  else if k = 10 then x.kind == 10 || x.kind == 12 || (x.kind == 4 && !isEmpty x.text && last != 4) || (x.kind == 11 && (last == 0 || last == 11))
  else false
def refStep (rr : Ev → Bool) (l : List Ev) (x : Ev) : Int :=
  if !rr x then 19
  else match opnGo 0 [] l with
    | [] => if !isVal x.kind || decide (0 < l.length) then 19 else 0
    | p :: ps =>
      if !fitsR (l.getD p evD).kind (lastK (ownE l p)) x then 19
      else if k57a x.kind && decide (6 ≤ ps.length + 1) then 5
      else if x.kind = 8 ∨ x.kind = 11 then
        (if (ownE l p).any (fun y => y.kind == x.kind && decide (y.text = x.text)) then 6 else if 10 ≤ ((ownE l p).filter fun y => y.kind == x.kind).length then 7 else 0)
      else 0
def refSteps (rr : Ev → Bool) : List Ev → List Ev → Bool
  | _, [] => true
  | l, x :: r => decide (refStep rr l x = 0) && refSteps rr (l ++ [x]) r
/-- what the checker's stack says of a row -/
def LayR (l : List Ev) : Nat → List Nat → List (Int × List Ev) → Prop
  | _, [], [] => True
  | j, p :: ps, (k, es) :: st => (p < l.length ∧ (l.getD p evD).kind = k ∧ depGo 0 (l.drop (p + 1)) = j ∧ ownE l p = es) ∧ LayR l (j + 1) ps st
  | _, _, _ => False
theorem depGo_snoc (x : Ev) : ∀ (l : List Ev) (d : Int), depGo d (l ++ [x]) = (if isC x.kind then depGo d l - 1 else if k57a x.kind then depGo d l + 1 else depGo d l)
  | [], d => by simp [depGo]
  | y :: r, d => by simp only [List.cons_append, depGo]; exact depGo_snoc x r _
theorem ownGo_snoc (x : Ev) : ∀ (l : List Ev) (i : Nat) (d : Int), ownGo i d (l ++ [x]) = ownGo i d l ++ (if isC x.kind then [] else if depGo d l = 0 then [i + l.length] else [])
  | [], i, d => by
    simp only [List.nil_append, ownGo, depGo, List.length_nil, Nat.add_zero, List.append_nil]
    rfl
  | y :: r, i, d => by
    simp only [List.cons_append, ownGo, depGo, List.length_cons]
    split
    · rw [ownGo_snoc x r]; rw [show i + 1 + r.length = i + (r.length + 1) by omega]
    · rw [ownGo_snoc x r, List.append_assoc]; rw [show i + 1 + r.length = i + (r.length + 1) by omega]
theorem opnGo_snoc (x : Ev) : ∀ (l : List Ev) (i : Nat) (s : List Nat), opnGo i s (l ++ [x]) = (if k57a x.kind then (i + l.length) :: opnGo i s l else if isC x.kind then (opnGo i s l).tail else opnGo i s l)
  | [], i, s => by simp [opnGo]
  | y :: r, i, s => by
    simp only [List.cons_append, opnGo, List.length_cons]
    rw [opnGo_snoc x r]; rw [show i + 1 + r.length = i + (r.length + 1) by omega]
theorem ownGo_lt : ∀ (l : List Ev) (i : Nat) (d : Int), ∀ j ∈ ownGo i d l, j < i + l.length
  | [], i, d, j, h => by simp [ownGo] at h
  | y :: r, i, d, j, h => by
    simp only [ownGo] at h
    simp only [List.length_cons]
    split at h
    · have := ownGo_lt r _ _ j h; omega
    · rw [List.mem_append] at h
      rcases h with h | h
      · split at h
        · simp at h; omega
        · simp at h
      · have := ownGo_lt r _ _ j h; omega
theorem ownE_snoc {l : List Ev} {x : Ev} {p : Nat} (hp : p < l.length) : ownE (l ++ [x]) p = ownE l p ++ (if isC x.kind then [] else if depGo 0 (l.drop (p + 1)) = 0 then [x] else []) := by
  unfold ownE
  rw [List.drop_append_of_le_length (by omega), ownGo_snoc, List.map_append]
  congr 1
  · refine List.map_congr_left fun j hj => ?_
    have := ownGo_lt _ _ _ j hj
    simp only [List.length_drop] at this
    simp only [List.getD_eq_getElem?_getD]
    rw [List.getElem?_append_left (by omega)]
  · split
    · rfl
    · split
      · simp only [List.map_cons, List.map_nil, List.length_drop, List.getD_eq_getElem?_getD]
        rw [show p + 1 + (l.length - (p + 1)) = l.length by omega]
        simp
      · rfl
theorem getD_snoc {l : List Ev} {x : Ev} {p : Nat} (hp : p < l.length) : (l ++ [x]).getD p evD = l.getD p evD := by
  simp only [List.getD_eq_getElem?_getD]
  rw [List.getElem?_append_left hp]
/-- the outer ones stay as they are -/
theorem LayR.outer {l : List Ev} {x : Ev} : ∀ {ps : List Nat} {st : List (Int × List Ev)} {j : Nat}, LayR l (j + 1) ps st → LayR (l ++ [x]) (if isC x.kind then j else if k57a x.kind then j + 2 else j + 1) ps st
  | [], [], _, _ => trivial
  | p :: ps, (k, es) :: st, j, h => by
    simp only [LayR] at h
    obtain ⟨⟨h1, h2, h3, h4⟩, h5⟩ := h
    have h6 := LayR.outer (x := x) h5
    simp only [LayR]
    refine ⟨⟨by simp; omega, by rw [getD_snoc h1]; exact h2, ?_, ?_⟩, ?_⟩
    · rw [List.drop_append_of_le_length (by omega), depGo_snoc, h3]
      split
      · push_cast; omega
      · split <;> push_cast <;> omega
    · rw [ownE_snoc h1, h3, h4]
      have : ¬ ((j + 1 : Nat) : Int) = 0 := by omega
      rw [if_neg this]; simp
    · revert h6
      split
      · exact id
      · split <;> exact id
  | [], _ :: _, _, h => by simp [LayR] at h
  | _ :: _, [], _, h => by simp [LayR] at h
/-- what is added -/
def stkAdd (st : List (Int × List Ev)) (x : Ev) : List (Int × List Ev) :=
  match st with
  | [] => []
  | (k, es) :: r => (k, es ++ [x]) :: r
def stkStep (st : List (Int × List Ev)) (x : Ev) : List (Int × List Ev) :=
  if k57a x.kind then (x.kind, []) :: stkAdd st x else if isC x.kind then st.tail else stkAdd st x
theorem k57_C {k : Int} (h : k57a k = true) : isC k = false := by
  simp only [k57a, Bool.or_eq_true, beq_iff_eq] at h
  rcases h with h | h | h <;> rw [h] <;> rfl
theorem lay_step {l : List Ev} {x : Ev} {ps : List Nat} {st : List (Int × List Ev)} (h : LayR l 0 ps st) (hps : opnGo 0 [] l = ps) : ∃ ps', opnGo 0 [] (l ++ [x]) = ps' ∧ LayR (l ++ [x]) 0 ps' (stkStep st x) := by
  refine ⟨_, rfl, ?_⟩
  rw [opnGo_snoc, hps]
  unfold stkStep
  by_cases ho : k57a x.kind = true
  · have hc := k57_C ho
    simp only [ho, if_true, Nat.zero_add]
    cases ps with
    | nil =>
      cases st with
      | nil => simp [LayR, stkAdd, depGo, ownE, ownGo]
      | cons a b => simp [LayR] at h
    | cons p ps =>
      obtain _ | ⟨⟨k, es⟩, st⟩ := st
      · simp [LayR] at h
      simp only [LayR] at h
      obtain ⟨⟨h1, h2, h3, h4⟩, h5⟩ := h
      have h6 := LayR.outer (x := x) h5
      rw [hc, ho] at h6
      simp only [Bool.false_eq_true, if_false, if_true] at h6
      simp only [stkAdd, LayR]
      refine ⟨⟨by simp, by simp, by simp [depGo], by simp [ownE, ownGo]⟩, ⟨by simp; omega, by rw [getD_snoc h1]; exact h2, ?_, ?_⟩, h6⟩
      · rw [List.drop_append_of_le_length (by omega), depGo_snoc, h3, hc, ho]; rfl
      · rw [ownE_snoc h1, h3, h4, hc]; simp
  · have ho : k57a x.kind = false := by simpa using ho
    simp only [ho, Bool.false_eq_true, if_false]
    by_cases hc : isC x.kind = true
    · simp only [hc, if_true]
      cases ps with
      | nil =>
        cases st with
        | nil => simp [LayR]
        | cons a b => simp [LayR] at h
      | cons p ps =>
        obtain _ | ⟨⟨k, es⟩, st⟩ := st
        · simp [LayR] at h
        simp only [LayR] at h
        have h6 := LayR.outer (x := x) h.2
        rw [hc] at h6
        exact h6
    · have hc : isC x.kind = false := by simpa using hc
      simp only [hc, Bool.false_eq_true, if_false]
      cases ps with
      | nil =>
        cases st with
        | nil => simp [LayR, stkAdd]
        | cons a b => simp [LayR] at h
      | cons p ps =>
        obtain _ | ⟨⟨k, es⟩, st⟩ := st
        · simp [LayR] at h
        simp only [LayR] at h
        obtain ⟨⟨h1, h2, h3, h4⟩, h5⟩ := h
        have h6 := LayR.outer (x := x) h5
        rw [hc, ho] at h6
        simp only [Bool.false_eq_true, if_false] at h6
        simp only [stkAdd, LayR]
        refine ⟨⟨by simp; omega, by rw [getD_snoc h1]; exact h2, ?_, ?_⟩, h6⟩
        · rw [List.drop_append_of_le_length (by omega), depGo_snoc, h3, hc, ho]; rfl
        · rw [ownE_snoc h1, h3, h4, hc]; simp
end Hx
/- What the checker takes is taken by the document's answer. -/
namespace Hx
open Go Sx Go.Proofs
set_option maxRecDepth 100000
set_option maxHeartbeats 4000000
set_option linter.unusedVariables false
set_option linter.unusedSimpArgs false
variable {GOk : Gl → Prop}
structure ORel (o : Opn) (k : Int) (es : List Ev) : Prop where
  kind : o.kind = k
  is : k = 5 ∨ k = 7 ∨ k = 10
  map : k = 7 → (o.key = true ↔ lastK es = 8) ∧ o.had = (es.filter fun y => y.kind == 8).map Ev.text
  elem : k = 10 → (o.text = true ↔ lastK es = 4) ∧ (o.full = false → lastK es = 0 ∨ lastK es = 11) ∧ o.had = (es.filter fun y => y.kind == 11).map Ev.text
def CRel : List Opn → List (Int × List Ev) → Prop
  | [], [] => True
  | o :: r, (k, es) :: st => ORel o k es ∧ CRel r st
  | _, _ => False
structure RInv (l : List Ev) (c : Chk) : Prop where
  over : l ≠ [] → c.over = true
  st : ∃ st, LayR l 0 (opnGo 0 [] l) st ∧ CRel c.opens st
theorem rinv0 : RInv [] chk0 := ⟨fun h => absurd rfl h, [], trivial, trivial⟩
theorem lastK_snoc (es : List Ev) (x : Ev) : lastK (es ++ [x]) = x.kind := by simp [lastK]
theorem fits_value {c : Chk} {x : Ev} {o : Opn} {r : List Opn} {k : Int} {es : List Ev} (hv : chkValue c x = true) (hi : isVal x.kind = true) (hc : c.opens = o :: r) (h : ORel o k es) : fitsR k (lastK es) x = true := by
  unfold chkValue at hv
  rw [hc] at hv
  simp only [h.kind] at hv
  unfold fitsR
  rcases h.is with rfl | rfl | rfl
  · simp [hi]
  · simp at hv
    have := (h.map rfl).1.1 hv
    simp [this, hi]
  · simp only [show ((10 : Int) == 7) = false by decide, show ((10 : Int) == 10) = true by decide, Bool.false_eq_true, if_false, if_true, Bool.or_eq_true, Bool.and_eq_true, beq_iff_eq, Bool.not_eq_true'] at hv
    simp only [show ¬ (10 : Int) = 5 by decide, show ¬ (10 : Int) = 7 by decide, if_false, if_true]
    rcases hv with hv | ⟨⟨h1, h2⟩, h3⟩
    · simp [hv]
    · have h4 : lastK es ≠ 4 := fun e => by rw [(h.elem rfl).1.2 e] at h3; cases h3
      simp [h1, h2, h4]
theorem orel_stands {o : Opn} {k : Int} {es : List Ev} {x : Ev} (h : ORel o k es) (hi : isVal x.kind = true) : ORel { o with key := false, full := true, text := x.kind == 4 } k (es ++ [x]) := by
  have h8 : x.kind ≠ 8 := fun e => by rw [e] at hi; cases hi
  have h11 : x.kind ≠ 11 := fun e => by rw [e] at hi; cases hi
  refine ⟨h.kind, h.is, fun hk => ⟨?_, ?_⟩, fun hk => ⟨?_, (fun h => nomatch h), ?_⟩⟩
  · rw [lastK_snoc]; simp [h8]
  · rw [List.filter_append]; simp [h8, (h.map hk).2]
  · rw [lastK_snoc]; simp
  · rw [List.filter_append]; simp [h11, (h.elem hk).2.2]
theorem crel_stands {c : Chk} {x : Ev} {st : List (Int × List Ev)} (h : CRel c.opens st) (hi : isVal x.kind = true) : CRel (chkStands c x).opens (stkAdd st x) := by
  unfold chkStands stkAdd
  revert h
  cases e : c.opens with
  | nil =>
    intro h
    cases st with
    | nil => exact h
    | cons a b => simp [CRel] at h
  | cons o r =>
    intro h
    obtain _ | ⟨⟨k, es⟩, st⟩ := st
    · simp [CRel] at h
    · simp only [CRel] at h ⊢
      exact ⟨orel_stands h.1 hi, h.2⟩
theorem stands_over {c : Chk} {x : Ev} {l : List Ev} (h : l ≠ [] → c.over = true) (h2 : c.opens ≠ [] → l ≠ []) : (chkStands c x).over = true := by
  unfold chkStands
  split
  · rfl
  · rename_i o r e
    exact h (h2 (by rw [e]; simp))
theorem lay_nil {l : List Ev} {ps : List Nat} (h : LayR l 0 ps []) : ps = [] := by cases ps with | nil => rfl | cons p ps => simp [LayR] at h
theorem refStep_nil {rr : Ev → Bool} {l : List Ev} {x : Ev} (hr : rr x = true) (hp : opnGo 0 [] l = []) (hv : isVal x.kind = true) (hl : l = []) : refStep rr l x = 0 := by
  subst hl
  unfold refStep
  rw [if_neg (by simp [hr])]
  simp [opnGo, hv]
theorem refStep_cons {rr : Ev → Bool} {l : List Ev} {x : Ev} {p : Nat} {ps : List Nat} {k : Int} {es : List Ev} (hr : rr x = true) (hp : opnGo 0 [] l = p :: ps) (hk : (l.getD p evD).kind = k) (he : ownE l p = es) (hf : fitsR k (lastK es) x = true)
    (hd : k57a x.kind = true → ¬ 6 ≤ ps.length + 1)
    (hn : x.kind = 8 ∨ x.kind = 11 → (if (es.any fun y => y.kind == x.kind && decide (y.text = x.text)) = true then (6 : Int) else if 10 ≤ (es.filter fun y => y.kind == x.kind).length then 7 else 0) = 0) : refStep rr l x = 0 := by
  subst hk he
  unfold refStep
  rw [if_neg (by simp [hr]), hp]
  simp only
  rw [if_neg (by rw [hf]; simp)]
  rw [if_neg (by intro h; simp only [Bool.and_eq_true, decide_eq_true_eq] at h; exact hd h.1 h.2)]
  by_cases h8 : x.kind = 8 ∨ x.kind = 11
  · rw [if_pos h8]; exact hn h8
  · rw [if_neg h8]
theorem ref_step {rr right : Ev → Bool} {l : List Ev} {c : Chk} {x : Ev} (hI : RInv l c) (hr : right x = true → rr x = true) (h : (chkStep right c x).1 = 0) : refStep rr l x = 0 ∧ RInv (l ++ [x]) (chkStep right c x).2 := by
  obtain ⟨hov, st, hL, hC⟩ := hI
  obtain ⟨ps', hps, hL'⟩ := lay_step (x := x) hL rfl
  have hne : c.opens ≠ [] → l ≠ [] := by
    intro he hl
    subst hl
    cases e : c.opens with
    | nil => exact he e
    | cons o r =>
      rw [e] at hC
      obtain _ | ⟨⟨k, es⟩, st⟩ := st
      · simp [CRel] at hC
      · simp [LayR, opnGo] at hL
  have mk : ∀ c' : Chk, c'.over = true → CRel c'.opens (stkStep st x) → RInv (l ++ [x]) c' := fun c' h1 h2 => ⟨fun _ => h1, _, by rw [hps]; exact hL', h2⟩
  unfold chkStep at h ⊢
  by_cases hrx : right x = true
  rotate_left
  · rw [if_pos (by simpa using hrx)] at h; simp at h
  rw [if_neg (by simpa using hrx)] at h ⊢
  have hrr := hr hrx
  by_cases h1 : k1234 x.kind = true
  · rw [if_pos h1] at h ⊢
    have hiv : isVal x.kind = true := by unfold isVal; rw [h1, Bool.or_true]
    have hno : k57a x.kind = false := by
      simp only [k1234, Bool.or_eq_true, beq_iff_eq] at h1
      rcases h1 with e | e | e | e <;> rw [e] <;> rfl
    have hnc : isC x.kind = false := by
      simp only [k1234, Bool.or_eq_true, beq_iff_eq] at h1
      rcases h1 with e | e | e | e <;> rw [e] <;> rfl
    have h811 : ¬ (x.kind = 8 ∨ x.kind = 11) := by rintro (e | e) <;> rw [e] at h1 <;> cases h1
    by_cases hv : chkValue c x = true
    rotate_left
    · rw [if_pos (by simpa using hv)] at h; simp at h
    rw [if_neg (by simpa using hv)]
    refine ⟨?_, mk _ (stands_over hov hne) ?_⟩
    · cases e : c.opens with
      | nil =>
        rw [e] at hC
        cases st with
        | cons a b => simp [CRel] at hC
        | nil =>
          have hl : l = [] := by
            cases l with
            | nil => rfl
            | cons a b =>
              have := hov (by simp)
              simp [chkValue, e, this] at hv
          exact refStep_nil hrr (lay_nil hL) hiv hl
      | cons o r =>
        rw [e] at hC
        obtain _ | ⟨⟨k, es⟩, st⟩ := st
        · simp [CRel] at hC
        simp only [CRel] at hC
        cases hp : opnGo 0 [] l with
        | nil => rw [hp] at hL; simp [LayR] at hL
        | cons p ps =>
          rw [hp] at hL
          simp only [LayR] at hL
          exact refStep_cons hrr hp hL.1.2.1 hL.1.2.2.2 (fits_value hv hiv e hC.1) (fun h => by rw [hno] at h; cases h) (fun h => absurd h h811)
    · have := crel_stands (x := x) hC hiv
      unfold stkStep
      rw [hno, hnc]
      exact this
  rw [if_neg h1] at h ⊢
  have h1 : k1234 x.kind = false := by simpa using h1
  by_cases h2 : k57a x.kind = true
  · rw [if_pos h2] at h ⊢
    have hiv : isVal x.kind = true := by unfold isVal; rw [h2, Bool.true_or]
    have h811 : ¬ (x.kind = 8 ∨ x.kind = 11) := by rintro (e | e) <;> rw [e] at h2 <;> cases h2
    by_cases hv : chkValue c x = true
    rotate_left
    · rw [if_pos (by simpa using hv)] at h; simp at h
    rw [if_neg (by simpa using hv)] at h ⊢
    by_cases h6 : c.opens.length ≥ 6
    · rw [if_pos h6] at h; simp at h
    rw [if_neg h6]
    refine ⟨?_, mk _ (stands_over hov hne) ?_⟩
    · cases e : c.opens with
      | nil =>
        rw [e] at hC
        cases st with
        | cons a b => simp [CRel] at hC
        | nil =>
          have hl : l = [] := by
            cases l with
            | nil => rfl
            | cons a b =>
              have := hov (by simp)
              simp [chkValue, e, this] at hv
          exact refStep_nil hrr (lay_nil hL) hiv hl
      | cons o r =>
        have hlen : ∀ {os : List Opn} {s : List (Int × List Ev)}, CRel os s → os.length = s.length := by
          intro os
          induction os with
          | nil => intro s h; cases s with | nil => rfl | cons a b => simp [CRel] at h
          | cons o r ih =>
            intro s h
            obtain _ | ⟨⟨k, es⟩, s⟩ := s
            · simp [CRel] at h
            · simp only [CRel] at h; simp [ih h.2]
        have hlen2 : ∀ {ps : List Nat} {s : List (Int × List Ev)} {j : Nat}, LayR l j ps s → ps.length = s.length := by
          intro ps
          induction ps with
          | nil => intro s j h; cases s with | nil => rfl | cons a b => simp [LayR] at h
          | cons o r ih =>
            intro s j h
            obtain _ | ⟨⟨k, es⟩, s⟩ := s
            · simp [LayR] at h
            · simp only [LayR] at h; simp [ih h.2]
        have hl1 := hlen hC
        have hl2 := hlen2 hL
        rw [e] at hC hl1
        obtain _ | ⟨⟨k, es⟩, st⟩ := st
        · simp [CRel] at hC
        simp only [CRel] at hC
        cases hp : opnGo 0 [] l with
        | nil => rw [hp] at hL; simp [LayR] at hL
        | cons p ps =>
          rw [hp] at hL hl2
          simp only [LayR] at hL
          have h7 : ¬ 6 ≤ ps.length + 1 := by
            rw [e] at h6
            simp only [List.length_cons] at hl1 hl2 h6
            omega
          exact refStep_cons hrr hp hL.1.2.1 hL.1.2.2.2 (fits_value hv hiv e hC.1) (fun _ => h7) (fun h => absurd h h811)
    · have := crel_stands (x := x) hC hiv
      unfold stkStep
      rw [h2]
      simp only [if_true, chkOpen, CRel]
      refine ⟨⟨rfl, ?_, fun _ => by simp [lastK], fun _ => by simp [lastK]⟩, this⟩
      simp only [k57a, Bool.or_eq_true, beq_iff_eq] at h2
      exact h2
  rw [if_neg h2] at h ⊢
  have h2 : k57a x.kind = false := by simpa using h2
  cases e : c.opens with
  | nil => rw [e] at h; simp at h
  | cons o r =>
    rw [e] at h hC
    simp only at h ⊢
    have hovr : c.over = true := hov (hne (by rw [e]; simp))
    obtain _ | ⟨⟨k, es⟩, st⟩ := st
    · simp [CRel] at hC
    simp only [CRel] at hC
    obtain ⟨hO, hC⟩ := hC
    cases hp : opnGo 0 [] l with
    | nil => rw [hp] at hL; simp [LayR] at hL
    | cons p ps =>
      rw [hp] at hL
      simp only [LayR] at hL
      have rs := fun hf => refStep_cons (x := x) hrr hp hL.1.2.1 hL.1.2.2.2 hf (fun h => by rw [h2] at h; cases h)
      have nm : ∀ (hx : x.kind = 8 ∨ x.kind = 11) (hhad : o.had = (es.filter fun y => y.kind == x.kind).map Ev.text), (opnNamed o x).1 = 0 →
          (if (es.any fun y => y.kind == x.kind && decide (y.text = x.text)) = true then (6 : Int) else if 10 ≤ (es.filter fun y => y.kind == x.kind).length then 7 else 0) = 0 ∧ (opnNamed o x).2 = { o with had := o.had ++ [x.text], key := x.kind == 8 } := by
        intro hx hhad hn
        unfold opnNamed at hn ⊢
        by_cases hh : hasB o.had x.text = true
        · rw [if_pos hh] at hn; simp at hn
        rw [if_neg hh] at hn ⊢
        by_cases hl : o.had.length ≥ 10
        · rw [if_pos hl] at hn; simp at hn
        rw [if_neg hl]
        refine ⟨?_, rfl⟩
        have h3 : ¬ (es.any fun y => y.kind == x.kind && decide (y.text = x.text)) = true := by
          intro ha
          obtain ⟨y, hy, h4⟩ := List.any_eq_true.1 ha
          simp only [Bool.and_eq_true, beq_iff_eq, decide_eq_true_eq] at h4
          apply hh
          rw [hhad]
          exact hasB_mem (List.mem_map.2 ⟨y, List.mem_filter.2 ⟨hy, by simp [h4.1]⟩, h4.2⟩)
        rw [if_neg h3, if_neg]
        rw [hhad, List.length_map] at hl
        exact hl
      by_cases h8 : x.kind = 8
      · rw [if_pos (by simp [h8])] at h ⊢
        by_cases hb : (o.kind != 7 || o.key) = true
        · rw [if_pos hb] at h; simp at h
        rw [if_neg hb] at h ⊢
        simp only [Bool.or_eq_true, bne_iff_ne, ne_eq, not_or, Decidable.not_not, Bool.not_eq_true] at hb
        have hk : k = 7 := by rw [← hO.kind]; exact hb.1
        subst hk
        have hm := hO.map rfl
        obtain ⟨hn1, hn2⟩ := nm (.inl h8) (by rw [h8]; exact hm.2) h
        have hlast : ¬ lastK es = 8 := fun e => by rw [hm.1.2 e] at hb; exact nomatch hb.2
        refine ⟨?_, mk _ hovr ?_⟩
        · have hf : fitsR 7 (lastK es) x = true := by unfold fitsR; simp [hlast, h8]
          exact rs hf (fun _ => hn1)
        · rw [hn2]
          unfold stkStep
          rw [h2, show isC x.kind = false by rw [h8]; rfl]
          simp only [Bool.false_eq_true, if_false, stkAdd, CRel]
          refine ⟨⟨hO.kind, hO.is, fun _ => ⟨?_, ?_⟩, fun h => by cases h⟩, hC⟩
          · rw [lastK_snoc]; simp [h8]
          · rw [List.filter_append]; simp [h8, hm.2]
      rw [if_neg (by simpa using h8)] at h ⊢
      by_cases h11 : x.kind = 11
      · rw [if_pos (by simp [h11])] at h ⊢
        by_cases hb : (o.kind != 10 || o.full) = true
        · rw [if_pos hb] at h; simp at h
        rw [if_neg hb] at h ⊢
        simp only [Bool.or_eq_true, bne_iff_ne, ne_eq, not_or, Decidable.not_not, Bool.not_eq_true] at hb
        have hk : k = 10 := by rw [← hO.kind]; exact hb.1
        subst hk
        have hm := hO.elem rfl
        obtain ⟨hn1, hn2⟩ := nm (.inr h11) (by rw [h11]; exact hm.2.2) h
        have hlast := hm.2.1 hb.2
        have htx : o.text = false := by
          cases ht : o.text with
          | false => rfl
          | true => have := hm.1.1 ht; rw [this] at hlast; simp at hlast
        refine ⟨?_, mk _ hovr ?_⟩
        · have hf : fitsR 10 (lastK es) x = true := by
            unfold fitsR
            rcases hlast with e | e <;> simp [e, h11]
          exact rs hf (fun _ => hn1)
        · rw [hn2]
          unfold stkStep
          rw [h2, show isC x.kind = false by rw [h11]; rfl]
          simp only [Bool.false_eq_true, if_false, stkAdd, CRel]
          refine ⟨⟨hO.kind, hO.is, fun h => (by cases h), fun _ => ⟨?_, fun _ => ?_, ?_⟩⟩, hC⟩
          · rw [lastK_snoc]; simp [h11, htx]
          · rw [lastK_snoc]; exact .inr h11
          · rw [List.filter_append]; simp [h11, hm.2.2]
      rw [if_neg (by simpa using h11)] at h ⊢
      by_cases hb : (o.kind != endOf x.kind || o.key) = true
      · rw [if_pos hb] at h; simp at h
      rw [if_neg hb]
      simp only [Bool.or_eq_true, bne_iff_ne, ne_eq, not_or, Decidable.not_not, Bool.not_eq_true] at hb
      have hk : k = endOf x.kind := by rw [← hO.kind]; exact hb.1
      have hcl : isC x.kind = true ∧ fitsR k (lastK es) x = true := by
        rw [hk]
        have his := hO.is
        rw [hk] at his
        unfold endOf at his ⊢
        by_cases a6 : x.kind = 6
        · simp [a6, isC, fitsR]
        by_cases a9 : x.kind = 9
        · have hlast : ¬ lastK es = 8 := by
            intro e
            have hm := hO.map (by rw [hk]; simp [endOf, a9])
            have := hm.1.2 e
            rw [this] at hb; exact nomatch hb.2
          simp [a9, isC, fitsR, hlast]
        by_cases a12 : x.kind = 12
        · simp [a12, isC, fitsR]
        simp [a6, a9, a12] at his
      refine ⟨?_, mk _ hovr ?_⟩
      · exact rs hcl.2 (fun h => by rcases h with a | a; exact absurd a h8; exact absurd a h11)
      · unfold stkStep
        rw [h2, hcl.1]
        exact hC
end Hx
/- Trees and their events; what the checker takes of them the document takes. -/
namespace Hx
open Go Sx Go.Proofs
set_option maxRecDepth 100000
set_option maxHeartbeats 4000000
set_option linter.unusedVariables false
set_option linter.unusedSimpArgs false
variable {GOk : Gl → Prop}
def endK (k : Int) : Int := if k = 5 then 6 else if k = 7 then 9 else if k = 10 then 12 else 0
def leafK (k : Int) : Bool := k == 1 || (k == 2 || (k == 3 || (k == 4 || k == 11)))
/-- can it be no node at all? (by its kind, and how many kids it has) -/
def oddK (k : Int) (n : Nat) : Bool := if leafK k then decide (0 < n) else if k = 8 then decide (n ≠ 1) else decide (endK k = 0)
def endE (k : Int) : List Ev := if endK k = 0 then [] else [ev0 (endK k)]
mutual
def evs : Nd → List Ev
  | .mk k t v _ _ _ _ kids => if oddK k kids.length then [evD] else ⟨k, t, v⟩ :: (evsL kids ++ endE k)
def evsL : List Nd → List Ev
  | [] => []
  | n :: r => evs n ++ evsL r
 end
theorem stepsC_append {right : Ev → Bool} : ∀ {a b : List Ev} {c : Chk}, stepsC right c (a ++ b) = (stepsC right c a).bind fun c' => stepsC right c' b
  | [], b, c => rfl
  | x :: a, b, c => by
    simp only [List.cons_append, stepsC]
    split
    · exact stepsC_append
    · rfl
/-- the checker goes through events: what it says, where it stands -/
def stepsE (right : Ev → Bool) : Chk → List Ev → Int × Chk
  | c, [] => (0, c)
  | c, x :: r => if (chkStep right c x).1 = 0 then stepsE right (chkStep right c x).2 r else chkStep right c x
theorem stepsE_ok {right : Ev → Bool} : ∀ {l : List Ev} {c : Chk}, (stepsE right c l).1 = 0 → stepsC right c l = some (stepsE right c l).2
  | [], c, _ => rfl
  | x :: r, c, h => by
    simp only [stepsE, stepsC] at h ⊢
    by_cases hx : (chkStep right c x).1 = 0
    · rw [if_pos hx] at h ⊢
      rw [if_pos hx]
      exact stepsE_ok h
    · rw [if_neg hx] at h
      exact absurd h hx
/-- tree.Walk -/
def walkM (right : Ev → Bool) (n : Nd) : Int := if (stepsE right chk0 (evs n)).1 ≠ 0 then (stepsE right chk0 (evs n)).1 else if chkDone (stepsE right chk0 (evs n)).2 then 0 else 19
/- the document's walk -/
mutual
def refGoes (rr : Ev → Bool) : Nd → List Ev → List Ev × Int
  | .mk k t v _ _ _ _ kids, l =>
    if !(decide (endK k ≠ 0) || (leafK k && decide (kids.length = 0)) || (decide (k = 8) && decide (kids.length = 1))) then (l, 19)
    else if refStep rr l ⟨k, t, v⟩ ≠ 0 then (l, refStep rr l ⟨k, t, v⟩)
    else
      let y := refGoesL rr kids (l ++ [⟨k, t, v⟩])
      if y.2 ≠ 0 then y
      else if endK k = 0 then (y.1, 0)
      else if refStep rr y.1 (ev0 (endK k)) ≠ 0 then (y.1, refStep rr y.1 (ev0 (endK k)))
      else (y.1 ++ [ev0 (endK k)], 0)
def refGoesL (rr : Ev → Bool) : List Nd → List Ev → List Ev × Int
  | [], l => (l, 0)
  | n :: r, l =>
    let y := refGoes rr n l
    if y.2 ≠ 0 then y else refGoesL rr r y.1
 end
/-- hexaplaref05.Whole: is all taken, and nothing open? -/
def refWhole (rr : Ev → Bool) (l : List Ev) : Int := if !refSteps rr [] l then 19 else if opnGo 0 [] l ≠ [] ∨ l = [] then 19 else 0
theorem right_evD {right : Ev → Bool} (h0 : ∀ x : Ev, x.kind = 0 → right x = false) (c : Chk) : (chkStep right c evD).1 = 19 := by
  unfold chkStep
  rw [if_pos (by rw [h0 evD rfl]; rfl)]
section
variable {rr right : Ev → Bool}
mutual
theorem goes_law (hr : ∀ x, right x = true → rr x = true) (h0 : ∀ x : Ev, x.kind = 0 → right x = false) : ∀ (n : Nd) (l : List Ev) (c c' : Chk), RInv l c → stepsC right c (evs n) = some c' → refGoes rr n l = (l ++ evs n, 0) ∧ RInv (l ++ evs n) c'
  | .mk k t v _ _ _ _ kids, l, c, c', hI, hs => by
    unfold evs at hs ⊢
    unfold refGoes
    by_cases ho : oddK k kids.length = true
    · rw [if_pos ho] at hs
      simp only [stepsC] at hs
      rw [if_neg (by rw [right_evD h0]; decide)] at hs
      exact nomatch hs
    have ho : oddK k kids.length = false := by simpa using ho
    rw [ho] at hs ⊢
    simp only [Bool.false_eq_true, if_false] at hs ⊢
    have hcond : (!(decide (endK k ≠ 0) || (leafK k && decide (kids.length = 0)) || (decide (k = 8) && decide (kids.length = 1)))) = false := by
      unfold oddK at ho
      split at ho
      · rename_i hl
        have : kids.length = 0 := by have := of_decide_eq_false ho; omega
        simp [hl, this]
      · split at ho
        · rename_i h8
          have : kids.length = 1 := by have := of_decide_eq_false ho; omega
          simp [h8, this]
        · have := of_decide_eq_false ho
          simp [this]
    rw [hcond]
    simp only [Bool.false_eq_true, if_false]
    simp only [stepsC] at hs
    by_cases hx : (chkStep right c ⟨k, t, v⟩).1 = 0
    rotate_left
    · rw [if_neg hx] at hs; exact nomatch hs
    rw [if_pos hx, stepsC_append] at hs
    obtain ⟨h1, h2⟩ := ref_step hI (hr _) hx
    rw [h1]
    simp only [ne_eq, not_true_eq_false, if_false]
    cases h3 : stepsC right (chkStep right c ⟨k, t, v⟩).2 (evsL kids) with
    | none => rw [h3] at hs; exact nomatch hs
    | some c1 =>
      rw [h3] at hs
      simp only [Option.bind_some] at hs
      obtain ⟨h4, h5⟩ := goes_lawL hr h0 kids _ _ _ h2 h3
      rw [h4]
      simp only [not_true_eq_false, if_false]
      unfold endE at hs ⊢
      by_cases he : endK k = 0
      · rw [if_pos he] at hs
        rw [if_pos he, if_pos he]
        simp only [stepsC, Option.some.injEq] at hs
        subst hs
        simp only [List.append_nil]
        rw [show l ++ ⟨k, t, v⟩ :: evsL kids = l ++ [⟨k, t, v⟩] ++ evsL kids by simp]
        exact ⟨rfl, h5⟩
      · rw [if_neg he] at hs
        rw [if_neg he, if_neg he]
        simp only [stepsC] at hs
        by_cases hx2 : (chkStep right c1 (ev0 (endK k))).1 = 0
        rotate_left
        · rw [if_neg hx2] at hs; exact nomatch hs
        rw [if_pos hx2, Option.some.injEq] at hs
        obtain ⟨h6, h7⟩ := ref_step h5 (hr _) hx2
        rw [h6]
        simp only [not_true_eq_false, if_false]
        rw [hs] at h7
        rw [show l ++ ⟨k, t, v⟩ :: (evsL kids ++ [ev0 (endK k)]) = l ++ [⟨k, t, v⟩] ++ evsL kids ++ [ev0 (endK k)] by simp]
        exact ⟨rfl, h7⟩
theorem goes_lawL (hr : ∀ x, right x = true → rr x = true) (h0 : ∀ x : Ev, x.kind = 0 → right x = false) : ∀ (ns : List Nd) (l : List Ev) (c c' : Chk), RInv l c → stepsC right c (evsL ns) = some c' → refGoesL rr ns l = (l ++ evsL ns, 0) ∧ RInv (l ++ evsL ns) c'
  | [], l, c, c', hI, hs => by
    simp only [evsL, stepsC, Option.some.injEq] at hs
    subst hs
    simp only [evsL, refGoesL, List.append_nil]
    exact ⟨trivial, hI⟩
  | n :: r, l, c, c', hI, hs => by
    simp only [evsL, stepsC_append] at hs
    simp only [evsL, refGoesL]
    cases h3 : stepsC right c (evs n) with
    | none => rw [h3] at hs; exact nomatch hs
    | some c1 =>
      rw [h3] at hs
      simp only [Option.bind_some] at hs
      obtain ⟨h4, h5⟩ := goes_law hr h0 n _ _ _ hI h3
      obtain ⟨h6, h7⟩ := goes_lawL hr h0 r _ _ _ h5 hs
      rw [h4]
      simp only [ne_eq, not_true_eq_false, if_false]
      rw [h6, ← List.append_assoc]
      exact ⟨rfl, h7⟩
 end
theorem refSteps_law (hr : ∀ x, right x = true → rr x = true) : ∀ (b l : List Ev) (c c' : Chk), RInv l c → stepsC right c b = some c' → refSteps rr l b = true ∧ RInv (l ++ b) c'
  | [], l, c, c', hI, hs => by
    simp only [stepsC, Option.some.injEq] at hs
    subst hs
    simpa [refSteps] using hI
  | x :: r, l, c, c', hI, hs => by
    simp only [stepsC] at hs
    by_cases hx : (chkStep right c x).1 = 0
    rotate_left
    · rw [if_neg hx] at hs; exact nomatch hs
    rw [if_pos hx] at hs
    obtain ⟨h1, h2⟩ := ref_step hI (hr _) hx
    obtain ⟨h3, h4⟩ := refSteps_law hr r _ _ _ h2 hs
    simp only [refSteps]
    rw [show l ++ x :: r = l ++ [x] ++ r by simp]
    exact ⟨by rw [h1, h3]; rfl, h4⟩
theorem walk_law (hr : ∀ x, right x = true → rr x = true) (h0 : ∀ x : Ev, x.kind = 0 → right x = false) (n : Nd) (h : walkM right n = 0) :
    refGoes rr n [] = (evs n, 0) ∧ refWhole rr (evs n) = 0 := by
  unfold walkM at h
  by_cases h1 : (stepsE right chk0 (evs n)).1 = 0
  rotate_left
  · rw [if_pos h1] at h; exact absurd h h1
  rw [if_neg (by simpa using h1)] at h
  by_cases h2 : chkDone (stepsE right chk0 (evs n)).2 = true
  rotate_left
  · rw [if_neg h2] at h; exact absurd h (by decide)
  have hs := stepsE_ok h1
  obtain ⟨h3, h4⟩ := goes_law hr h0 n [] _ _ rinv0 hs
  obtain ⟨h5, h6⟩ := refSteps_law hr (evs n) [] _ _ rinv0 hs
  refine ⟨by simpa using h3, ?_⟩
  unfold refWhole
  rw [h5]
  simp only [Bool.not_true, Bool.false_eq_true, if_false]
  obtain ⟨_, st, hL, hC⟩ := h6
  have hop : (stepsE right chk0 (evs n)).2.opens = [] := by
    simp only [chkDone, Bool.and_eq_true, List.isEmpty_iff] at h2
    exact h2.2
  rw [hop] at hC
  cases st with
  | cons a b => simp [CRel] at hC
  | nil =>
    have := lay_nil hL
    simp only [List.nil_append] at this
    rw [this]
    have hne : evs n ≠ [] := by
      obtain ⟨k, t, v, _, _, _, _, kids⟩ := n
      unfold evs
      split <;> simp
    simp [hne]
 end
end Hx
/- src.Scan.Step: the walk. -/
namespace Hx
open Go Sx Go.Proofs
set_option maxRecDepth 100000
set_option maxHeartbeats 4000000
set_option linter.unusedVariables false
set_option linter.unusedSimpArgs false
variable {GOk : Gl → Prop}
def scanStep (s : Scan) (b : Int) : Bool × Scan :=
  if s.left > 0 then (if decide (b < s.least) || decide (b > s.top) then (false, s) else (true, ⟨bitI .sub .i64 s.left 1, 128, 191⟩))
  else if b < 128 then (true, ⟨0, 128, 191⟩)
  else if decide (b < 194) || decide (b > 244) then (false, s)
  else (true, ⟨if b < 224 then 1 else if b < 240 then 2 else 3, if b = 224 then 160 else if b = 237 then 128 else if b = 240 then 144 else 128, if b = 224 then 191 else if b = 237 then 159 else if b = 240 then 191 else if b = 244 then 143 else 191⟩)
theorem scan_step_spec (s : Scan) (b : Int) : Triple (BB Ip GOk) 53 1 1 [.ptr 0 0, .int .u8 b] [.cells 0 120 [.int .i64 s.left, .int .u8 s.least, .int .u8 s.top]]
    (fun K => ∀ r s', (r, s') = scanStep s b → K (.ret (.bool r)) [.cells 0 120 [.int .i64 s'.left, .int .u8 s'.least, .int .u8 s'.top]]) := by
  obtain ⟨l, lo, hi⟩ := s
  refine triple_of BB_ok (tb := ty) rfl (n0 := 1) (fun _ : Unit => _) pl53 Tryz.call53 Tryz.func53 rfl (by kernel_rfl) (Nat.le_of_ble_eq_true rfl) (by decide) rfl pre_none ?_
  rintro G hG K hK W bi bc bs bk bu bb bo bg bl bp bn be Ncond Nob Nop Nloop Nscope hN Nfin hf _ _
  have hstep : scanStep ⟨l, lo, hi⟩ b = (if bc .gtr l 0 then (if bc .lss b lo || bc .gtr b hi then (false, ⟨l, lo, hi⟩) else (true, ⟨bi .sub .i64 l 1, 128, 191⟩))
    else if bc .lss b 128 then (true, ⟨0, 128, 191⟩)
    else if bc .lss b 194 || bc .gtr b 244 then (false, ⟨l, lo, hi⟩)
    else (true, ⟨if bc .lss b 224 then 1 else if bc .lss b 240 then 2 else 3, if bc .eql b 224 then 160 else if bc .eql b 237 then 128 else if bc .eql b 240 then 144 else 128, if bc .eql b 224 then 191 else if bc .eql b 237 then 159 else if bc .eql b 240 then 191 else if bc .eql b 244 then 143 else 191⟩)) := by
    simp only [scanStep, ceq hN, clt hN, cgt hN, decide_eq_true_eq, bi_ hN]
  have fin : ∀ (v : SV) r l' a' b' cs rest, scanStep ⟨l, lo, hi⟩ b = (r, ⟨l', a', b'⟩) → (∀ ρ, v.den ρ = (SV.bool r).den ρ) → pickC [0] cs = some ([Chunk.cells 0 120 [.int .i64 l', .int .u8 a', .int .u8 b']], rest) → Nfin (.ret v) cs := by
    intro v r l' a' b' cs rest h1 h2 h3
    exact hf _ _ (fin_as _ h2 (fin_ [] (out' := .ret (.bool r)) (cs' := [Chunk.cells 0 120 [.int .i64 l', .int .u8 a', .int .u8 b']]) rfl h3 (hK _ _ h1.symm)))
  cbv
  refine scopeN_ hN (scope_ hN ty_ok mixed 3 ?_)
  cbv
  repeat' (first | exact True.intro | with_reducible refine dup ?_ | refine And.intro ?_ ?_ | (refine cond_ hN (fun _ => ?_) (fun _ => ?_) <;> try cbv))
  all_goals
    first
    | (refine fin _ true _ _ _ _ _ ?_ (fun _ => rfl) rfl; rw [hstep]; simp only [*, Bool.true_and, Bool.and_true, Bool.false_and, Bool.and_false, Bool.true_or, Bool.or_true, Bool.false_or, Bool.or_false, Bool.not_true, Bool.not_false, Bool.false_eq_true, if_true, if_false, reduceCtorEq]; done)
    | (refine fin _ false _ _ _ _ _ ?_ (fun _ => rfl) rfl; rw [hstep]; simp only [*, Bool.true_and, Bool.and_true, Bool.false_and, Bool.and_false, Bool.true_or, Bool.or_true, Bool.false_or, Bool.or_false, Bool.not_true, Bool.not_false, Bool.false_eq_true, if_true, if_false, reduceCtorEq]; done)
theorem scan_whole_spec (l : Int) (a b : Int) : Triple (BB Ip GOk) 57 1 1 [.ptr 0 0] [.cells 0 120 [.int .i64 l, .int .u8 a, .int .u8 b]] (fun K => ∀ r, r = decide (l = 0) → K (.ret (.bool r)) [.cells 0 120 [.int .i64 l, .int .u8 a, .int .u8 b]]) := by
  refine triple_of BB_ok (tb := ty) rfl (n0 := 1) (fun _ : Unit => _) pl57 Tryz.call57 Tryz.func57 rfl (by kernel_rfl) (Nat.le_of_ble_eq_true rfl) (by decide) rfl pre_none ?_
  rintro G hG K hK W bi bc bs bk bu bb bo bg bl bp bn be Ncond Nob Nop Nloop Nscope hN Nfin hf _ _
  cbv
  exact hf _ _ (fin_ [] (out' := .ret (.bool _)) rfl rfl (hK _ (by rw [ceq hN])))
end Hx
/- Characters: what utf8.ValidString takes, the scan takes, and the document's answer. -/
namespace Hx
open Go Sx Go.Proofs
set_option maxRecDepth 100000
set_option maxHeartbeats 4000000
set_option linter.unusedVariables false
set_option linter.unusedSimpArgs false
variable {GOk : Gl → Prop}
open Go.Lib
def bN (l : List UInt8) (i : Nat) : Nat := (l.getD i 0).toNat
theorem bN_lt (l : List UInt8) (i : Nat) : bN l i < 256 := (l.getD i 0).toNat_lt
/-- a whole character, and what is behind it -/
theorem valid_cases (l : List UInt8) (h : validD l = true) (hne : l ≠ []) :
    (bN l 0 < 128 ∧ validD (l.drop 1) = true ∧ 1 ≤ l.length) ∨
    (194 ≤ bN l 0 ∧ bN l 0 < 224 ∧ 128 ≤ bN l 1 ∧ bN l 1 ≤ 191 ∧ validD (l.drop 2) = true ∧ 2 ≤ l.length) ∨
    (224 ≤ bN l 0 ∧ bN l 0 < 240 ∧ (if bN l 0 = 224 then 160 else 128) ≤ bN l 1 ∧ bN l 1 ≤ (if bN l 0 = 237 then 159 else 191) ∧ 128 ≤ bN l 2 ∧ bN l 2 ≤ 191 ∧ validD (l.drop 3) = true ∧ 3 ≤ l.length) ∨
    (240 ≤ bN l 0 ∧ bN l 0 < 245 ∧ (if bN l 0 = 240 then 144 else 128) ≤ bN l 1 ∧ bN l 1 ≤ (if bN l 0 = 244 then 143 else 191) ∧ 128 ≤ bN l 2 ∧ bN l 2 ≤ 191 ∧ 128 ≤ bN l 3 ∧ bN l 3 ≤ 191 ∧ validD (l.drop 4) = true ∧ 4 ≤ l.length) := by
  obtain _ | ⟨b, t⟩ := l
  · exact absurd rfl hne
  by_cases hb : b.toNat < 128
  · left
    rw [validD_cons b t hb] at h
    exact ⟨hb, h, by simp⟩
  right
  have h0 : 128 ≤ ((b :: t).getD 0 0).toNat := by simp; omega
  rw [validD_lead _ hne h0] at h
  have e0 : bN (b :: t) 0 = ((b :: t).getD 0 0).toNat := rfl
  have e1 : bN (b :: t) 1 = ((b :: t).getD 1 0).toNat := rfl
  have e2 : bN (b :: t) 2 = ((b :: t).getD 2 0).toNat := rfl
  have e3 : bN (b :: t) 3 = ((b :: t).getD 3 0).toNat := rfl
  have hlt := bN_lt (b :: t) 0
  rw [← e0] at h h0
  rw [← e1, ← e2, ← e3] at h
  generalize bN (b :: t) 0 = x0 at *
  generalize bN (b :: t) 1 = x1 at *
  generalize bN (b :: t) 2 = x2 at *
  generalize bN (b :: t) 3 = x3 at *
  generalize (b :: t) = l at *
  have key : ∀ sz lo hi : Nat, firstT x0 % 8 = sz → accLo (firstT x0 / 16) = lo → accHi (firstT x0 / 16) = hi → (match checkN l.length x1 x2 x3 sz lo hi with | none => false | some k => validD (l.drop k)) = true := by
    intro sz lo hi a1 a2 a3
    rw [← a1, ← a2, ← a3]; exact h
  by_cases c0 : x0 < 194
  · have := key 1 _ _ (by simp [firstT, show ¬ x0 < 128 by omega, c0]) rfl rfl
    simp [checkN] at this
  by_cases c1 : x0 < 224
  · left
    have := key 2 128 191 (by simp [firstT, show ¬ x0 < 128 by omega, c0, c1]) (by simp [firstT, accLo, show ¬ x0 < 128 by omega, c0, c1]) (by simp [firstT, accHi, show ¬ x0 < 128 by omega, c0, c1])
    simp only [checkN, if_true] at this
    split at this
    · exact nomatch this
    · rename_i k hk
      split at hk
      · exact nomatch hk
      · cases hk; exact ⟨by omega, c1, by omega, by omega, this, by omega⟩
  right
  have three : ∀ lo hi : Nat, firstT x0 % 8 = 3 → accLo (firstT x0 / 16) = lo → accHi (firstT x0 / 16) = hi → 3 ≤ l.length ∧ lo ≤ x1 ∧ x1 ≤ hi ∧ 128 ≤ x2 ∧ x2 ≤ 191 ∧ validD (l.drop 3) = true := by
    intro lo hi a1 a2 a3
    have := key 3 lo hi a1 a2 a3
    simp only [checkN, show ¬ (3 : Nat) = 2 by decide, if_false, if_true] at this
    split at this
    · exact nomatch this
    · rename_i k hk
      split at hk
      · exact nomatch hk
      · cases hk; exact ⟨by omega, by omega, by omega, by omega, by omega, this⟩
  have four : ∀ lo hi : Nat, firstT x0 % 8 = 4 → accLo (firstT x0 / 16) = lo → accHi (firstT x0 / 16) = hi → 4 ≤ l.length ∧ lo ≤ x1 ∧ x1 ≤ hi ∧ 128 ≤ x2 ∧ x2 ≤ 191 ∧ 128 ≤ x3 ∧ x3 ≤ 191 ∧ validD (l.drop 4) = true := by
    intro lo hi a1 a2 a3
    have := key 4 lo hi a1 a2 a3
    simp only [checkN, show ¬ (4 : Nat) = 2 by decide, show ¬ (4 : Nat) = 3 by decide, if_false, if_true] at this
    split at this
    · exact nomatch this
    · rename_i k hk
      split at hk
      · exact nomatch hk
      · cases hk; exact ⟨by omega, by omega, by omega, by omega, by omega, by omega, by omega, this⟩
  have fin3 : ∀ lo hi : Nat, x0 < 240 → firstT x0 % 8 = 3 → accLo (firstT x0 / 16) = lo → accHi (firstT x0 / 16) = hi → (if x0 = 224 then 160 else 128) = lo → (if x0 = 237 then 159 else 191) = hi →
      (224 ≤ x0 ∧ x0 < 240 ∧ (if x0 = 224 then 160 else 128) ≤ x1 ∧ x1 ≤ (if x0 = 237 then 159 else 191) ∧ 128 ≤ x2 ∧ x2 ≤ 191 ∧ validD (l.drop 3) = true ∧ 3 ≤ l.length) ∨
      (240 ≤ x0 ∧ x0 < 245 ∧ (if x0 = 240 then 144 else 128) ≤ x1 ∧ x1 ≤ (if x0 = 244 then 143 else 191) ∧ 128 ≤ x2 ∧ x2 ≤ 191 ∧ 128 ≤ x3 ∧ x3 ≤ 191 ∧ validD (l.drop 4) = true ∧ 4 ≤ l.length) := by
    intro lo hi a a1 a2 a3 a4 a5
    obtain ⟨p1, p2, p3, p4, p5, p6⟩ := three lo hi a1 a2 a3
    rw [a4, a5]
    exact .inl ⟨by omega, a, p2, p3, p4, p5, p6, p1⟩
  have fin4 : ∀ lo hi : Nat, 240 ≤ x0 → x0 < 245 → firstT x0 % 8 = 4 → accLo (firstT x0 / 16) = lo → accHi (firstT x0 / 16) = hi → (if x0 = 240 then 144 else 128) = lo → (if x0 = 244 then 143 else 191) = hi →
      (224 ≤ x0 ∧ x0 < 240 ∧ (if x0 = 224 then 160 else 128) ≤ x1 ∧ x1 ≤ (if x0 = 237 then 159 else 191) ∧ 128 ≤ x2 ∧ x2 ≤ 191 ∧ validD (l.drop 3) = true ∧ 3 ≤ l.length) ∨
      (240 ≤ x0 ∧ x0 < 245 ∧ (if x0 = 240 then 144 else 128) ≤ x1 ∧ x1 ≤ (if x0 = 244 then 143 else 191) ∧ 128 ≤ x2 ∧ x2 ≤ 191 ∧ 128 ≤ x3 ∧ x3 ≤ 191 ∧ validD (l.drop 4) = true ∧ 4 ≤ l.length) := by
    intro lo hi a a' a1 a2 a3 a4 a5
    obtain ⟨p1, p2, p3, p4, p5, p6, p7, p8⟩ := four lo hi a1 a2 a3
    rw [a4, a5]
    exact .inr ⟨a, a', p2, p3, p4, p5, p6, p7, p8, p1⟩
  by_cases c2 : x0 = 224
  · subst c2; exact fin3 160 191 (by decide) (by decide) (by decide) (by decide) (by decide) (by decide)
  by_cases c3 : x0 < 237
  · exact fin3 128 191 (by omega) (by simp [firstT, show ¬ x0 < 128 by omega, c0, c1, c2, c3]) (by simp [firstT, accLo, show ¬ x0 < 128 by omega, c0, c1, c2, c3]) (by simp [firstT, accHi, show ¬ x0 < 128 by omega, c0, c1, c2, c3]) (by rw [if_neg c2]) (by rw [if_neg (by omega)])
  by_cases c4 : x0 = 237
  · subst c4; exact fin3 128 159 (by decide) (by decide) (by decide) (by decide) (by decide) (by decide)
  by_cases c5 : x0 < 240
  · exact fin3 128 191 c5 (by simp [firstT, show ¬ x0 < 128 by omega, c0, c1, c2, c3, c4, c5]) (by simp [firstT, accLo, show ¬ x0 < 128 by omega, c0, c1, c2, c3, c4, c5]) (by simp [firstT, accHi, show ¬ x0 < 128 by omega, c0, c1, c2, c3, c4, c5]) (by rw [if_neg c2]) (by rw [if_neg c4])
  by_cases c6 : x0 = 240
  · subst c6; exact fin4 144 191 (by decide) (by decide) (by decide) (by decide) (by decide) (by decide) (by decide)
  by_cases c7 : x0 < 244
  · exact fin4 128 191 (by omega) (by omega) (by simp [firstT, show ¬ x0 < 128 by omega, c0, c1, c2, c3, c4, c5, c6, c7]) (by simp [firstT, accLo, show ¬ x0 < 128 by omega, c0, c1, c2, c3, c4, c5, c6, c7]) (by simp [firstT, accHi, show ¬ x0 < 128 by omega, c0, c1, c2, c3, c4, c5, c6, c7]) (by rw [if_neg c6]) (by rw [if_neg (by omega)])
  by_cases c8 : x0 = 244
  · subst c8; exact fin4 128 143 (by decide) (by decide) (by decide) (by decide) (by decide) (by decide) (by decide)
  · have := key 1 _ _ (by simp [firstT, show ¬ x0 < 128 by omega, c0, c1, c2, c3, c4, c5, c6, c7, c8]) rfl rfl
    simp [checkN] at this
/- the scan -/
def scanRun : Scan → List UInt8 → Option Scan
  | s, [] => some s
  | s, b :: r => if (scanStep s ((b.toNat : Nat) : Int)).1 then scanRun (scanStep s ((b.toNat : Nat) : Int)).2 r else none
def sc0 : Scan := ⟨0, 128, 191⟩
theorem scan_asc (s : Scan) (b : Int) (h : s.left ≤ 0) (hb : b < 128) : scanStep s b = (true, sc0) := by
  unfold scanStep; rw [if_neg (by omega), if_pos hb]; rfl
theorem scan_in (l lo hi b : Int) (h : 0 < l) (h1 : lo ≤ b) (h2 : b ≤ hi) : scanStep ⟨l, lo, hi⟩ b = (true, ⟨bitI .sub .i64 l 1, 128, 191⟩) := by
  unfold scanStep; rw [if_pos h]; simp only
  rw [if_neg]
  simp; omega
theorem scan_lead (s : Scan) (b : Int) (h : s.left ≤ 0) (h1 : 194 ≤ b) (h2 : b ≤ 244) :
    scanStep s b = (true, ⟨if b < 224 then 1 else if b < 240 then 2 else 3, if b = 224 then 160 else if b = 237 then 128 else if b = 240 then 144 else 128, if b = 224 then 191 else if b = 237 then 159 else if b = 240 then 191 else if b = 244 then 143 else 191⟩) := by
  unfold scanStep
  rw [if_neg (by omega), if_neg (by omega), if_neg (by simp; omega)]
theorem bN0 (b : UInt8) (t : List UInt8) : bN (b :: t) 0 = b.toNat := rfl
theorem bN1 (a b : UInt8) (t : List UInt8) : bN (a :: b :: t) 1 = b.toNat := rfl
theorem bN2 (a b c : UInt8) (t : List UInt8) : bN (a :: b :: c :: t) 2 = c.toNat := rfl
theorem bN3 (a b c d : UInt8) (t : List UInt8) : bN (a :: b :: c :: d :: t) 3 = d.toNat := rfl
theorem scan_cons {s s' : Scan} {b : UInt8} {r : List UInt8} (h : scanStep s ((b.toNat : Nat) : Int) = (true, s')) : scanRun s (b :: r) = scanRun s' r := by
  simp only [scanRun, h, if_true]
theorem scan_valid : ∀ (n : Nat) (l : List UInt8), l.length ≤ n → validD l = true → scanRun sc0 l = some sc0
  | n, [], _, _ => rfl
  | 0, a :: r, h, _ => by simp at h
  | n + 1, a :: r, hn, h => by
    rcases valid_cases _ h (by simp) with ⟨h1, h2, _⟩ | ⟨h1, h2, h3, h4, h5, h6⟩ | ⟨h1, h2, h3, h4, h5, h6, h7, h8⟩ | ⟨h1, h2, h3, h4, h5, h6, h7, h8, h9, h10⟩
    · rw [bN0] at h1
      rw [scan_cons (scan_asc _ _ (Int.le_refl 0) (by omega))]
      exact scan_valid n r (by simp at hn; omega) h2
    · obtain _ | ⟨b, r⟩ := r
      · simp at h6
      rw [bN0] at h1 h2; rw [bN1] at h3 h4
      rw [scan_cons (scan_lead _ _ (Int.le_refl 0) (by omega) (by omega)), if_pos (by omega), if_neg (by omega), if_neg (by omega), if_neg (by omega), if_neg (by omega), if_neg (by omega), if_neg (by omega), if_neg (by omega),
        scan_cons (scan_in _ _ _ _ (by decide) (by omega) (by omega))]
      exact scan_valid n r (by simp at hn; omega) h5
    · obtain _ | ⟨b, _ | ⟨c, r⟩⟩ := r
      · simp at h8
      · simp at h8
      rw [bN0] at h1 h2 h3 h4; rw [bN1] at h3 h4; rw [bN2] at h5 h6
      have hl : (if ((a.toNat : Nat) : Int) = 224 then (160 : Int) else if ((a.toNat : Nat) : Int) = 237 then 128 else if ((a.toNat : Nat) : Int) = 240 then 144 else 128) ≤ (b.toNat : Nat) := by
        split at h3
        · rw [if_pos (by omega)]; omega
        · rw [if_neg (by omega)]; split <;> (try split) <;> omega
      have hu : ((b.toNat : Nat) : Int) ≤ (if ((a.toNat : Nat) : Int) = 224 then (191 : Int) else if ((a.toNat : Nat) : Int) = 237 then 159 else if ((a.toNat : Nat) : Int) = 240 then 191 else if ((a.toNat : Nat) : Int) = 244 then 143 else 191) := by
        split at h4
        · rw [if_neg (by omega), if_pos (by omega)]; omega
        · split
          · omega
          · rw [if_neg (by omega), if_neg (by omega), if_neg (by omega)]; omega
      rw [scan_cons (scan_lead _ _ (Int.le_refl 0) (by omega) (by omega)), scan_cons (scan_in _ _ _ _ (by rw [if_neg (by omega), if_pos (by omega)]; decide) hl hu), if_neg (by omega), if_pos (by omega),
        scan_cons (scan_in _ _ _ _ (by decide) (by omega) (by omega))]
      exact scan_valid n r (by simp at hn; omega) h7
    · obtain _ | ⟨b, _ | ⟨c, _ | ⟨d, r⟩⟩⟩ := r
      · simp at h10
      · simp at h10
      · simp at h10
      rw [bN0] at h1 h2 h3 h4; rw [bN1] at h3 h4; rw [bN2] at h5 h6; rw [bN3] at h7 h8
      have hl : (if ((a.toNat : Nat) : Int) = 224 then (160 : Int) else if ((a.toNat : Nat) : Int) = 237 then 128 else if ((a.toNat : Nat) : Int) = 240 then 144 else 128) ≤ (b.toNat : Nat) := by
        rw [if_neg (by omega), if_neg (by omega)]
        split at h3
        · rw [if_pos (by omega)]; omega
        · rw [if_neg (by omega)]; omega
      have hu : ((b.toNat : Nat) : Int) ≤ (if ((a.toNat : Nat) : Int) = 224 then (191 : Int) else if ((a.toNat : Nat) : Int) = 237 then 159 else if ((a.toNat : Nat) : Int) = 240 then 191 else if ((a.toNat : Nat) : Int) = 244 then 143 else 191) := by
        rw [if_neg (by omega), if_neg (by omega)]
        split at h4
        · rw [if_neg (by omega), if_pos (by omega)]; omega
        · split
          · omega
          · rw [if_neg (by omega)]; omega
      rw [scan_cons (scan_lead _ _ (Int.le_refl 0) (by omega) (by omega)), scan_cons (scan_in _ _ _ _ (by rw [if_neg (by omega), if_neg (by omega)]; decide) hl hu), if_neg (by omega), if_neg (by omega),
        scan_cons (scan_in _ _ _ _ (by decide) (by omega) (by omega)), scan_cons (scan_in _ _ _ _ (by decide) (by omega) (by omega))]
      exact scan_valid n r (by simp at hn; omega) h9
/- the document's characters -/
def contGo : Nat → List UInt8 → Int → Option Int
  | 0, _, v => some v
  | k + 1, [], _ => none
  | k + 1, d :: r, v => if ((d.toNat : Nat) : Int) < 128 ∨ ((d.toNat : Nat) : Int) ≥ 192 then none else contGo k r (64 * v + (d.toNat : Nat) - 128)
def mayR (r : Int) : Bool := decide (0 ≤ r) && (decide (r ≤ 1114111) && (decide (r < 55296) || decide (r > 57343)))
def longR (r : Int) : Int := if r < 128 then 1 else if r < 2048 then 2 else if r < 65536 then 3 else 4
def leadN (c : Int) : Nat := if 240 ≤ c ∧ c < 248 then 4 else if 224 ≤ c ∧ c < 240 then 3 else if 192 ≤ c ∧ c < 224 then 2 else 0
def leadV (c : Int) : Int := if 240 ≤ c ∧ c < 248 then c - 240 else if 224 ≤ c ∧ c < 240 then c - 224 else if 192 ≤ c ∧ c < 224 then c - 192 else 0
/-- hexaplaref01.One -/
def oneR : List UInt8 → Int × Nat
  | [] => (0, 0)
  | b :: r =>
    if ((b.toNat : Nat) : Int) < 128 then ((b.toNat : Nat), 1)
    else if leadN (b.toNat : Nat) = 0 ∨ r.length + 1 < leadN (b.toNat : Nat) then (0, 0)
    else match contGo (leadN (b.toNat : Nat) - 1) r (leadV (b.toNat : Nat)) with
      | none => (0, 0)
      | some v => if !mayR v || decide (longR v ≠ leadN (b.toNat : Nat)) then (0, 0) else (v, leadN (b.toNat : Nat))
/-- hexaplaref01.Runes: is all of whole characters? -/
def runesR : Nat → List UInt8 → Bool
  | 0, l => l.isEmpty
  | n + 1, l => if l.isEmpty then true else if (oneR l).2 = 0 then false else runesR n (l.drop (oneR l).2)
theorem one_valid (l : List UInt8) (h : validD l = true) (hne : l ≠ []) : 1 ≤ (oneR l).2 ∧ validD (l.drop (oneR l).2) = true := by
  obtain _ | ⟨a, r⟩ := l
  · exact absurd rfl hne
  rcases valid_cases _ h hne with ⟨h1, h2, _⟩ | ⟨h1, h2, h3, h4, h5, h6⟩ | ⟨h1, h2, h3, h4, h5, h6, h7, h8⟩ | ⟨h1, h2, h3, h4, h5, h6, h7, h8, h9, h10⟩
  · rw [bN0] at h1
    have : oneR (a :: r) = (((a.toNat : Nat) : Int), 1) := by simp only [oneR]; rw [if_pos (by omega)]
    rw [this]
    exact ⟨Nat.le_refl _, h2⟩
  · obtain _ | ⟨b, r⟩ := r
    · simp at h6
    rw [bN0] at h1 h2; rw [bN1] at h3 h4
    have hn : leadN (a.toNat : Nat) = 2 := by unfold leadN; rw [if_neg (by omega), if_neg (by omega), if_pos (by omega)]
    have hv : leadV (a.toNat : Nat) = a.toNat - 192 := by unfold leadV; rw [if_neg (by omega), if_neg (by omega), if_pos (by omega)]
    have : oneR (a :: b :: r) = (64 * (((a.toNat : Nat) : Int) - 192) + ((b.toNat : Nat) : Int) - 128, 2) := by
      simp only [oneR, hn, hv]
      rw [if_neg (by omega), if_neg (by simp)]
      simp only [contGo]
      rw [if_neg (by omega)]
      simp only
      rw [if_neg]
      have hl : longR (64 * (((a.toNat : Nat) : Int) - 192) + ((b.toNat : Nat) : Int) - 128) = 2 := by unfold longR; rw [if_neg (by omega), if_pos (by omega)]
      rw [hl]
      simp [mayR]
      omega
    rw [this]
    exact ⟨by simp, h5⟩
  · obtain _ | ⟨b, _ | ⟨c, r⟩⟩ := r
    · simp at h8
    · simp at h8
    rw [bN0] at h1 h2 h3 h4; rw [bN1] at h3 h4; rw [bN2] at h5 h6
    have hn : leadN (a.toNat : Nat) = 3 := by unfold leadN; rw [if_neg (by omega), if_pos (by omega)]
    have hv : leadV (a.toNat : Nat) = a.toNat - 224 := by unfold leadV; rw [if_neg (by omega), if_pos (by omega)]
    have hb1 : 128 ≤ b.toNat ∧ b.toNat ≤ 191 := by constructor <;> (split at h3 <;> split at h4 <;> omega)
    have : oneR (a :: b :: c :: r) = (64 * (64 * (((a.toNat : Nat) : Int) - 224) + ((b.toNat : Nat) : Int) - 128) + ((c.toNat : Nat) : Int) - 128, 3) := by
      simp only [oneR, hn, hv]
      rw [if_neg (by omega), if_neg (by simp)]
      simp only [contGo]
      rw [if_neg (by omega), if_neg (by omega)]
      simp only
      rw [if_neg]
      have hl : longR (64 * (64 * (((a.toNat : Nat) : Int) - 224) + ((b.toNat : Nat) : Int) - 128) + ((c.toNat : Nat) : Int) - 128) = 3 := by unfold longR; rw [if_neg (by split at h3 <;> omega), if_neg (by split at h3 <;> omega), if_pos (by omega)]
      rw [hl]
      simp [mayR]
      split at h3 <;> split at h4 <;> omega
    rw [this]
    exact ⟨by simp, h7⟩
  · obtain _ | ⟨b, _ | ⟨c, _ | ⟨d, r⟩⟩⟩ := r
    · simp at h10
    · simp at h10
    · simp at h10
    rw [bN0] at h1 h2 h3 h4; rw [bN1] at h3 h4; rw [bN2] at h5 h6; rw [bN3] at h7 h8
    have hn : leadN (a.toNat : Nat) = 4 := by unfold leadN; rw [if_pos (by omega)]
    have hv : leadV (a.toNat : Nat) = a.toNat - 240 := by unfold leadV; rw [if_pos (by omega)]
    have hb1 : 128 ≤ b.toNat ∧ b.toNat ≤ 191 := by constructor <;> (split at h3 <;> split at h4 <;> omega)
    have : oneR (a :: b :: c :: d :: r) = (64 * (64 * (64 * (((a.toNat : Nat) : Int) - 240) + ((b.toNat : Nat) : Int) - 128) + ((c.toNat : Nat) : Int) - 128) + ((d.toNat : Nat) : Int) - 128, 4) := by
      simp only [oneR, hn, hv]
      rw [if_neg (by omega), if_neg (by simp)]
      simp only [contGo]
      rw [if_neg (by omega), if_neg (by omega), if_neg (by omega)]
      simp only
      rw [if_neg]
      have hl : longR (64 * (64 * (64 * (((a.toNat : Nat) : Int) - 240) + ((b.toNat : Nat) : Int) - 128) + ((c.toNat : Nat) : Int) - 128) + ((d.toNat : Nat) : Int) - 128) = 4 := by unfold longR; rw [if_neg (by split at h3 <;> omega), if_neg (by split at h3 <;> omega), if_neg (by split at h3 <;> omega)]
      rw [hl]
      simp [mayR]
      split at h3 <;> split at h4 <;> omega
    rw [this]
    exact ⟨by simp, h9⟩
theorem runes_valid : ∀ (n : Nat) (l : List UInt8), l.length ≤ n → validD l = true → runesR n l = true
  | 0, l, h, _ => by
    have : l = [] := List.eq_nil_of_length_eq_zero (by omega)
    subst this; rfl
  | n + 1, l, hn, h => by
    unfold runesR
    by_cases he : l = []
    · subst he; rfl
    rw [if_neg (by simpa using he)]
    obtain ⟨h1, h2⟩ := one_valid l h he
    rw [if_neg (by omega)]
    exact runes_valid n _ (by rw [List.length_drop]; omega) h2
end Hx
