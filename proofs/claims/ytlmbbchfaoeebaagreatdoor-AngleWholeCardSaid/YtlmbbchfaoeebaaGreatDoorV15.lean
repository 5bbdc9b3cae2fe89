/-
  Part of a proof.
-/
import Derived.Test.YtlmbbchfaoeebaaGreatDoorV14
import Derived.Test.YtlmbbchfaoeebaaGreatDoorV10
import Derived.Test.YtlmbbchfaoeebaaGreatDoorV06
import Derived.Laws.StructEq
import Derived.Test.YtlmbbchfaoeebaaGreatDoorV11
import Derived.Test.YtlmbbchfaoeebaaGreatDoorV12
set_option linter.unusedVariables false
set_option linter.unusedSimpArgs false
/- num.may, Read. -/
namespace Hx
open Go Sx Go.Proofs
set_option maxRecDepth 100000
set_option maxHeartbeats 4000000
set_option linter.unusedVariables false
set_option linter.unusedSimpArgs false
variable {GOk : Gl → Prop}
theorem numRead0_size {t : ByteArray} {v : NV} (h : numRead0 t = some v) : v.digits.size ≤ 60 := by
  simp only [numRead0] at h
  split at h
  · exact nomatch h
  · rename_i hc
    have h30 : t.size ≤ 30 := by
      simp only [Bool.or_eq_true, decide_eq_true_eq, not_or] at hc; omega
    simp only [Option.some.injEq] at h
    subst h
    split
    · exact Nat.zero_le _
    · simp only [bL, ByteArray.size, List.size_toArray]
      refine Nat.le_trans (trimR_len _ _) (Nat.le_trans (trimL_len _ _) ?_)
      rw [List.length_append]
      have c1 := cut_len (Lib.cut (Lib.toLowerA (Lib.trimPrefix t.data.toList [45])) [101]).1 [46]
      have c2 := cut_len (Lib.toLowerA (Lib.trimPrefix t.data.toList [45])) [101]
      have c3 : (Lib.toLowerA (Lib.trimPrefix t.data.toList [45])).length ≤ 30 := by
        rw [Lib.toLowerA, List.length_map]
        exact Nat.le_trans (trimP_len _ _) (by rw [← Lib.size_eq]; exact h30)
      omega
theorem may_num_spec (hT : GTab GOk) (t : ByteArray) (ht : t.size < 1099511627776) : Triple (BB Ip GOk) 42 0 0 [.str t] [] (fun K => ∀ v e, (v, e) = numMay t → K (.ret (.tuple [nvA v, .int .i64 e])) []) := by
  refine triple_of BB_ok (tb := ty) rfl (n0 := 0) (fun _ : Unit => _) pl42 Tryz.call42 Tryz.func42 rfl (by kernel_rfl) (Nat.le_of_ble_eq_true rfl) (by decide) rfl pre_none ?_
  rintro G hG K hK W bi bc bs bk bu bb bo bg bl bp bn be Ncond Nob Nop Nloop Nscope hN Nfin hf _ _
  cbv
  refine op_ hN (call_ (read_spec0 hT t ht) hG [] rfl rfl rfl rfl rfl ?_)
  have hM : numMay t = (match numRead0 t with
    | none => (nv0, 8)
    | some v => if decide (v.power > 999) || (decide (v.power < -999) || decide ((numForm v).size > 30)) then (nv0, 8) else (v, 0)) := rfl
  have bad : ∀ cs : List (Chunk Pd), numMay t = (nv0, 8) → Nfin (.ret (.tuple [.agg [.ff, .str { data := { toList := [] } }, .int .i64 0], .int .i64 8])) cs := fun cs h =>
    hf _ _ (fin_as (.tuple [nvA nv0, .int .i64 8]) (fun _ => rfl) (fin_ [] rfl rfl (hK nv0 8 h.symm)))
  cases hr : numRead0 t with
  | none =>
    rw [hr] at hM
    simp only at hM ⊢
    cbv
    refine cond_T hN rfl ?_
    cbv
    exact bad _ hM
  | some v =>
    rw [hr] at hM
    have hz := numRead0_size hr
    simp only at hM ⊢
    obtain ⟨below, digits, power⟩ := v
    simp only at hz hM
    cbv
    refine cond_F hN rfl ?_
    cbv
    refine cond_ hN (fun h1 => ?_) (fun h1 => ?_)
    · rw [cgt hN] at h1
      rw [if_pos (by rw [h1]; rfl)] at hM
      cbv
      exact bad _ hM
    · rw [cgt hN] at h1
      rw [h1, Bool.false_or] at hM
      have h1' : ¬ power > 999 := by simpa using h1
      cbv
      refine cond_ hN (fun h2 => ?_) (fun h2 => ?_)
      · rw [clt hN] at h2
        rw [if_pos (by rw [h2]; rfl)] at hM
        cbv
        exact bad _ hM
      · rw [clt hN] at h2
        rw [h2, Bool.false_or] at hM
        have h2' : ¬ power < -999 := by simpa using h2
        cbv
        refine op_ hN (call_ (form_spec hT ⟨below, digits, power⟩ (by simp only; omega) (by simp only; omega)) hG [] rfl rfl rfl rfl rfl ?_)
        intro s hs
        rw [← hs] at hM
        cbv
        refine cond_ hN (fun h3 => ?_) (fun h3 => ?_)
        · rw [cgt hN, len_eq hN] at h3
          have h3' : s.size > 30 := by have : (30 : Int) < (s.size : Int) := by simpa using h3
                                       omega
          rw [if_pos (decide_eq_true h3')] at hM
          cbv
          exact bad _ hM
        · rw [cgt hN, len_eq hN] at h3
          have h3' : ¬ s.size > 30 := by have : ¬ (30 : Int) < (s.size : Int) := by simpa using h3
                                         omega
          rw [if_neg (by simpa using h3')] at hM
          cbv
          exact hf _ _ (fin_as (.tuple [nvA ⟨below, digits, power⟩, .int .i64 0]) (fun _ => rfl) (fin_ [] rfl rfl (hK _ 0 hM.symm)))
theorem numMay_ok {t : ByteArray} {v : NV} (h : numMay t = (v, 0)) : (-1000 ≤ v.power ∧ v.power ≤ 1000) ∧ v.digits.size ≤ 1000 ∧ (numForm v).size ≤ 30 := by
  unfold numMay at h
  cases hr : numRead0 t with
  | none => rw [hr] at h; exact nomatch congrArg Prod.snd h
  | some w =>
    rw [hr] at h
    simp only at h
    split at h
    · exact nomatch congrArg Prod.snd h
    · rename_i hc
      simp only [Prod.mk.injEq, and_true] at h
      subst h
      simp only [Bool.or_eq_true, decide_eq_true_eq, not_or] at hc
      have := numRead0_size hr
      omega
theorem nread_spec (hT : GTab GOk) (t : ByteArray) (ht : t.size < 1099511627776) : Triple (BB Ip GOk) 36 0 0 [.str t] [] (fun K => ∀ r e, (r, e) = numReadM t → K (.ret (.tuple [.str r, .int .i64 e])) []) := by
  refine triple_of BB_ok (tb := ty) rfl (n0 := 0) (fun _ : Unit => _) pl36 Tryz.call36 Tryz.func36 rfl (by kernel_rfl) (Nat.le_of_ble_eq_true rfl) (by decide) rfl pre_none ?_
  rintro G hG K hK W bi bc bs bk bu bb bo bg bl bp bn be Ncond Nob Nop Nloop Nscope hN Nfin hf _ _
  cbv
  refine op_ hN (call_ (may_num_spec hT t ht) hG [] rfl rfl rfl rfl rfl ?_)
  intro v e hv
  have hM : numReadM t = if e ≠ 0 then (⟨#[]⟩, e) else (numForm v, 0) := by simp only [numReadM]; rw [← hv]
  by_cases he : e = 0
  · subst he
    have hok := numMay_ok hv.symm
    rw [if_neg (by simp)] at hM
    obtain ⟨below, digits, power⟩ := v
    cbv
    refine cond_F hN (by rw [cne hN]; rfl) ?_
    cbv
    refine op_ hN (call_ (form_spec hT ⟨below, digits, power⟩ hok.1 hok.2.1) hG [] rfl rfl rfl rfl rfl ?_)
    intro s hs
    rw [← hs] at hM
    cbv
    exact hf _ _ (fin_ [] rfl rfl (hK s 0 hM.symm))
  · rw [if_pos he] at hM
    obtain ⟨below, digits, power⟩ := v
    cbv
    refine cond_T hN (by rw [cne hN]; simpa using he) ?_
    cbv
    exact hf _ _ (fin_ [] rfl rfl (hK ⟨#[]⟩ e hM.symm))
theorem numReadM_law (t : ByteArray) : (numReadM t).1.size ≤ 30 ∧ 0 ≤ (numReadM t).2 := by
  unfold numReadM
  generalize hm : numMay t = y
  obtain ⟨v, e⟩ := y
  simp only
  split
  · refine ⟨Nat.zero_le _, ?_⟩
    simp only
    unfold numMay at hm
    split at hm
    · have := congrArg Prod.snd hm; simp only at this; omega
    · split at hm
      · have := congrArg Prod.snd hm; simp only at this; omega
      · have := congrArg Prod.snd hm; simp only at this; omega
  · rename_i he
    have he : e = 0 := by simpa using he
    subst he
    exact ⟨(numMay_ok hm).2.2, Int.le_refl _⟩
theorem read_ok (hT : GTab GOk) : ReadOk GOk numReadM := ⟨fun x hx => nread_spec hT x (by omega), fun x => by have := (numReadM_law x).1; omega⟩
end Hx
/- Two events held against each other. -/
namespace Hx
open Go Sx Go.Proofs
set_option maxRecDepth 100000
set_option maxHeartbeats 4000000
set_option linter.unusedVariables false
set_option linter.unusedSimpArgs false
variable {GOk : Gl → Prop}
theorem ev_fields : ∃ f0 f1 f2 : Field, (P.fieldsOf 44).toList = [f0, f1, f2] ∧ (f0.name ≠ "_" ∧ f1.name ≠ "_" ∧ f2.name ≠ "_") ∧ (f0.type = 3 ∧ f1.type = 9 ∧ f2.type = 9) ∧ (f0.offset = 0 ∧ f1.offset = 1 ∧ f2.offset = 2) := by
  have h : (P.fieldsOf 44).toList.map (fun f => (f.name, f.type, f.offset)) = [("Kind", 3, 0), ("Text", 9, 1), ("Val", 9, 2)] := by kernel_rfl
  generalize (P.fieldsOf 44).toList = l at h
  rcases l with _ | ⟨f0, _ | ⟨f1, _ | ⟨f2, _ | ⟨f3, l⟩⟩⟩⟩
  · exact nomatch h
  · simp at h
  · simp at h
  · simp only [List.map_cons, List.map_nil, List.cons.injEq, Prod.mk.injEq, and_true] at h
    obtain ⟨⟨a1, a2, a3⟩, ⟨b1, b2, b3⟩, c1, c2, c3⟩ := h
    exact ⟨f0, f1, f2, rfl, ⟨by rw [a1]; decide, by rw [b1]; decide, by rw [c1]; decide⟩, ⟨a2, b2, c2⟩, a3, b3, c3⟩
  · simp at h
theorem part_ (t : Nat) (xs : Array Value) (off : Nat) (v : Value) (w : World) (ht : t = 3 ∨ t = 9) (h : xs[off]? = some v) : (part t xs off).run P w = .ok v w := by
  have hp : P.plainKey t = true := by rcases ht with rfl | rfl <;> kernel_rfl
  exact run_part_plain w hp h
theorem eq_ev {X : Cx Pd} (hP : X.P = P) {a b : Operand} {k k' : Int} {s s' v v' : ByteArray} {type : TypeId} {cs : List (Chunk Pd)} {n : Nat} {cont : Out → List (Chunk Pd) → Nat → Prop}
    (hk : ∀ b : Bool, b = (decide (k = k') && (decide (s = s') && decide (v = v'))) → cont (.ret (.bool b)) cs n) :
    NodeX X (.binOp .eql 44 a b 44) type [.agg [.int .i64 k, .str s, .str v], .agg [.int .i64 k', .str s', .str v']] cs n cont := by
  intro ρ F w ρe o ho _ hvs hs
  obtain ⟨dst, op, ty', pos, after, guard⟩ := o
  simp only at ho; subst ho
  have hab : ρe a = .agg #[.int .i64 k, .string s, .string v] ∧ ρe b = .agg #[.int .i64 k', .string s', .string v'] := by simpa [Op.operands, SV.denL, SV.den] using hvs
  obtain ⟨f0, f1, f2, hf, ⟨n0, n1, n2⟩, ⟨t0, t1, t2⟩, o0, o1, o2⟩ := ev_fields
  have u3 : P.underlying 3 = some (.int .i64) := by kernel_rfl
  have u9 : P.underlying 9 = some .string := by kernel_rfl
  have ut : P.underlying 44 = some (.struct (P.fieldsOf 44)) := by kernel_rfl
  have hh : P.stoodInHeld 44 = false := by kernel_rfl
  have hg : P.eqGuardType P.depth 44 = false := by kernel_rfl
  have he : (Op.equalIn 10000 44 (.agg #[.int .i64 k, .string s, .string v]) (.agg #[.int .i64 k', .string s', .string v'])).run P w = .ok (decide (k = k') && (decide (s = s') && decide (v = v'))) w := by
    rw [run_equalIn_agg (P := P) w 9999 44 _ _ ut hh, hf]
    simp only [Op.eqFields, n0, n1, n2, ne_eq, not_false_eq_true, if_true, Sem.run_bind, t0, t1, t2, o0, o1, o2]
    rw [part_ 3 _ 0 (.int .i64 k) w (.inl rfl) rfl]
    simp only [Result.andThen_ok]
    rw [part_ 3 _ 0 (.int .i64 k') w (.inl rfl) rfl]
    simp only [Result.andThen_ok]
    rw [run_equalIn_int (P := P) w 9998 3 .i64 .i64 k k' u3]
    simp only [Result.andThen_ok, Sem.run_ite, Sem.run_bind, Sem.run_pure]
    rw [part_ 9 _ 1 (.string s) w (.inr rfl) rfl]
    simp only [Result.andThen_ok]
    rw [part_ 9 _ 1 (.string s') w (.inr rfl) rfl]
    simp only [Result.andThen_ok]
    rw [run_equalIn_string (P := P) w 9998 9 s s' u9]
    simp only [Result.andThen_ok, Sem.run_ite, Sem.run_bind, Sem.run_pure]
    rw [part_ 9 _ 2 (.string v) w (.inr rfl) rfl]
    simp only [Result.andThen_ok]
    rw [part_ 9 _ 2 (.string v') w (.inr rfl) rfl]
    simp only [Result.andThen_ok]
    rw [run_equalIn_string (P := P) w 9998 9 v v' u9]
    simp only [Result.andThen_ok, Sem.run_ite, Sem.run_pure]
    have b1 : ∀ x y : ByteArray, (x.toList == y.toList) = decide (x = y) := fun x y => by
      rw [Bool.eq_iff_iff]
      simp only [beq_iff_eq, decide_eq_true_eq]
      constructor
      · intro h
        rw [toList_eq, toList_eq] at h
        cases x; cases y
        simp only [ByteArray.mk.injEq] at h ⊢
        exact Array.toList_inj.1 h
      · rintro rfl; rfl
    rw [b1, b1]
    by_cases h1 : k = k'
    · by_cases h2 : s = s'
      · by_cases h3 : v = v' <;> simp [h1, h2, h3]
      · simp [h1, h2]
    · simp [h1]
  have h2 : (execOp ρe ⟨dst, .binOp .eql 44 a b 44, ty', pos, after, guard⟩).run X.P w = .ok (.value (.bool (decide (k = k') && (decide (s = s') && decide (v = v'))))) w := by
    rw [hP]
    simp only [execOp, hab.1, hab.2, Sem.run_bind, run_eqGuard_agg w .eql 44 a b _ _ hg, Result.andThen_ok, run_eql_struct, he, Sem.run_pure]
  rw [h2]
  exact ⟨.bool _, cs, n, ρ, rfl, Nat.le_refl _, Ext.refl _ _, hs, hk _ rfl⟩
end Hx
/- events.right. -/
namespace Hx
open Go Sx Go.Proofs
set_option maxRecDepth 100000
set_option maxHeartbeats 4000000
set_option linter.unusedVariables false
set_option linter.unusedSimpArgs false
variable {GOk : Gl → Prop}
def rightM (x : Ev) : Bool :=
  if x.kind = 1 ∨ x.kind = 5 ∨ x.kind = 6 ∨ x.kind = 7 ∨ x.kind = 9 ∨ x.kind = 12 then decide (x.text = ⟨#[]⟩) && decide (x.val = ⟨#[]⟩)
  else if x.kind = 2 then decide (x.val = ⟨#[]⟩) && (decide (x.text = wTrue) || decide (x.text = wFalse))
  else if x.kind = 3 then decide (x.val = ⟨#[]⟩) && (decide ((numReadM x.text).2 = 0) && decide ((numReadM x.text).1 = x.text))
  else if x.kind = 4 ∨ x.kind = 8 then decide (x.val = ⟨#[]⟩) && mayT x.text
  else if x.kind = 10 then decide (x.val = ⟨#[]⟩) && (cutN x.text).2.2
  else if x.kind = 11 then (cutN x.text).2.2 && mayT x.val
  else false
theorem full_ev_spec (hTab : GTab GOk) (s : ByteArray) (hs : s.size < 900000) : Triple (BB Ip GOk) 34 0 0 [.str s] [] (fun K => ∀ b, b = (cutN s).2.2 → K (.ret (.bool b)) []) := by
  refine triple_of BB_ok (tb := ty) rfl (n0 := 0) (fun _ : Unit => _) pl34 Tryz.call34 Tryz.func34 rfl (by kernel_rfl) (Nat.le_of_ble_eq_true rfl) (by decide) rfl pre_none ?_
  rintro G hG K hK W bi bc bs bk bu bb bo bg bl bp bn be Ncond Nob Nop Nloop Nscope hN Nfin hf _ _
  cbv
  refine op_ hN (call_ (ncut_spec hTab s (by omega)) hG [] rfl rfl rfl rfl rfl ?_)
  intro a b c hc
  rw [← hc] at hK
  cbv
  exact hf _ _ (fin_ [] rfl rfl (hK c rfl))
theorem right_spec (hT : GTab GOk) (x : Ev) (hx : okE x) : Triple (BB Ip GOk) 21 0 0 [.agg [.int .i64 x.kind, .str x.text, .str x.val]] [] (fun K => ∀ b, b = rightM x → K (.ret (.bool b)) []) := by
  obtain ⟨kind, text, val⟩ := x
  obtain ⟨h1, h2, hsz10, -⟩ := hx
  simp only at h1 h2 hsz10
  refine triple_of BB_ok (tb := ty) rfl (n0 := 0) (fun _ : Unit => _) pl21 Tryz.call21 Tryz.func21 rfl (by kernel_rfl) (Nat.le_of_ble_eq_true rfl) (by decide) rfl pre_none ?_
  rintro G hG K hK W bi bc bs bk bu bb bo bg bl bp bn be Ncond Nob Nop Nloop Nscope hN Nfin hf _ _
  have rA : (kind = 1 ∨ kind = 5 ∨ kind = 6 ∨ kind = 7 ∨ kind = 9 ∨ kind = 12) → rightM ⟨kind, text, val⟩ = (decide (text = ⟨#[]⟩) && decide (val = ⟨#[]⟩)) := fun h => by unfold rightM; exact if_pos h
  cbv
  refine cond_ hN (fun h => ?_) (fun g1 => ?_)
  · rw [ceq hN] at h
    have hk : kind = 1 := by simpa using h
    cbv
    refine op_ hN (eq_ev rfl ?_)
    intro b hb
    cbv
    exact hf _ _ (fin_ [] rfl rfl (hK b (by rw [hb, rA (by simp [hk]), decide_eq_true rfl, Bool.true_and])))
  rw [ceq hN] at g1
  have g1' : kind ≠ 1 := by simpa using g1
  cbv
  refine cond_ hN (fun h => ?_) (fun g5 => ?_)
  · rw [ceq hN] at h
    have hk : kind = 5 := by simpa using h
    cbv
    refine op_ hN (eq_ev rfl ?_)
    intro b hb
    cbv
    exact hf _ _ (fin_ [] rfl rfl (hK b (by rw [hb, rA (by simp [hk]), decide_eq_true rfl, Bool.true_and])))
  rw [ceq hN] at g5
  have g5' : kind ≠ 5 := by simpa using g5
  cbv
  refine cond_ hN (fun h => ?_) (fun g6 => ?_)
  · rw [ceq hN] at h
    have hk : kind = 6 := by simpa using h
    cbv
    refine op_ hN (eq_ev rfl ?_)
    intro b hb
    cbv
    exact hf _ _ (fin_ [] rfl rfl (hK b (by rw [hb, rA (by simp [hk]), decide_eq_true rfl, Bool.true_and])))
  rw [ceq hN] at g6
  have g6' : kind ≠ 6 := by simpa using g6
  cbv
  refine cond_ hN (fun h => ?_) (fun g7 => ?_)
  · rw [ceq hN] at h
    have hk : kind = 7 := by simpa using h
    cbv
    refine op_ hN (eq_ev rfl ?_)
    intro b hb
    cbv
    exact hf _ _ (fin_ [] rfl rfl (hK b (by rw [hb, rA (by simp [hk]), decide_eq_true rfl, Bool.true_and])))
  rw [ceq hN] at g7
  have g7' : kind ≠ 7 := by simpa using g7
  cbv
  refine cond_ hN (fun h => ?_) (fun g9 => ?_)
  · rw [ceq hN] at h
    have hk : kind = 9 := by simpa using h
    cbv
    refine op_ hN (eq_ev rfl ?_)
    intro b hb
    cbv
    exact hf _ _ (fin_ [] rfl rfl (hK b (by rw [hb, rA (by simp [hk]), decide_eq_true rfl, Bool.true_and])))
  rw [ceq hN] at g9
  have g9' : kind ≠ 9 := by simpa using g9
  cbv
  refine cond_ hN (fun h => ?_) (fun g12 => ?_)
  · rw [ceq hN] at h
    have hk : kind = 12 := by simpa using h
    cbv
    refine op_ hN (eq_ev rfl ?_)
    intro b hb
    cbv
    exact hf _ _ (fin_ [] rfl rfl (hK b (by rw [hb, rA (by simp [hk]), decide_eq_true rfl, Bool.true_and])))
  rw [ceq hN] at g12
  have g12' : kind ≠ 12 := by simpa using g12
  cbv
  have rB : ¬ (kind = 1 ∨ kind = 5 ∨ kind = 6 ∨ kind = 7 ∨ kind = 9 ∨ kind = 12) := by simp [g1', g5', g6', g7', g9', g12']
  refine cond_ hN (fun h => ?_) (fun g2 => ?_)
  · rw [ceq hN] at h
    have hk : kind = 2 := by simpa using h
    have hM : rightM ⟨kind, text, val⟩ = (decide (val = ⟨#[]⟩) && (decide (text = wTrue) || decide (text = wFalse))) := by unfold rightM; rw [if_neg rB, if_pos hk]
    rw [hM] at hK
    cbv
    refine cond_ hN (fun h3 => ?_) (fun h3 => ?_)
    · rw [seq_eq hN] at h3
      have h3' : decide (val = ⟨#[]⟩) = true := h3
      rw [h3', Bool.true_and] at hK
      cbv
      refine cond_ hN (fun h4 => ?_) (fun h4 => ?_)
      · rw [seq_eq hN] at h4
        have h4' : decide (text = wTrue) = true := h4
        rw [h4', Bool.true_or] at hK
        cbv
        exact hf _ _ (fin_as (.bool true) (fun _ => rfl) (fin_ [] rfl rfl (hK true rfl)))
      · rw [seq_eq hN] at h4
        have h4' : decide (text = wTrue) = false := h4
        rw [h4', Bool.false_or] at hK
        cbv
        exact hf _ _ (fin_ [] rfl rfl (hK _ (by rw [seq_eq hN]; rfl)))
    · rw [seq_eq hN] at h3
      have h3' : decide (val = ⟨#[]⟩) = false := h3
      rw [h3', Bool.false_and] at hK
      cbv
      exact hf _ _ (fin_as (.bool false) (fun _ => rfl) (fin_ [] rfl rfl (hK false rfl)))
  rw [ceq hN] at g2
  have g2' : kind ≠ 2 := by simpa using g2
  cbv
  refine cond_ hN (fun h => ?_) (fun g3 => ?_)
  · rw [ceq hN] at h
    have hk : kind = 3 := by simpa using h
    have hM : rightM ⟨kind, text, val⟩ = (decide (val = ⟨#[]⟩) && (decide ((numReadM text).2 = 0) && decide ((numReadM text).1 = text))) := by unfold rightM; rw [if_neg rB, if_neg g2', if_pos hk]
    rw [hM] at hK
    cbv
    refine op_ hN (call_ (nread_spec hT text h1) hG [] rfl rfl rfl rfl rfl ?_)
    intro r e hre
    rw [← hre] at hK
    simp only at hK
    cbv
    refine cond_ hN (fun h3 => ?_) (fun h3 => ?_)
    · rw [seq_eq hN] at h3
      have h3' : decide (val = ⟨#[]⟩) = true := h3
      rw [h3', Bool.true_and] at hK
      cbv
      refine cond_ hN (fun h4 => ?_) (fun h4 => ?_)
      · rw [ceq hN] at h4
        rw [h4, Bool.true_and] at hK
        cbv
        exact hf _ _ (fin_ [] rfl rfl (hK _ (by rw [seq_eq hN])))
      · rw [ceq hN] at h4
        rw [h4, Bool.false_and] at hK
        cbv
        exact hf _ _ (fin_as (.bool false) (fun _ => rfl) (fin_ [] rfl rfl (hK false rfl)))
    · rw [seq_eq hN] at h3
      have h3' : decide (val = ⟨#[]⟩) = false := h3
      rw [h3', Bool.false_and] at hK
      cbv
      exact hf _ _ (fin_as (.bool false) (fun _ => rfl) (fin_ [] rfl rfl (hK false rfl)))
  rw [ceq hN] at g3
  have g3' : kind ≠ 3 := by simpa using g3
  cbv
  have txt : (kind = 4 ∨ kind = 8) → rightM ⟨kind, text, val⟩ = (decide (val = ⟨#[]⟩) && mayT text) := fun h => by unfold rightM; rw [if_neg rB, if_neg g2', if_neg g3', if_pos h]
  refine cond_ hN (fun h => ?_) (fun g4 => ?_)
  · rw [ceq hN] at h
    have hk : kind = 4 := by simpa using h
    rw [txt (by simp [hk])] at hK
    cbv
    refine cond_ hN (fun h3 => ?_) (fun h3 => ?_)
    · rw [seq_eq hN] at h3
      have h3' : decide (val = ⟨#[]⟩) = true := h3
      rw [h3', Bool.true_and] at hK
      cbv
      refine op_ hN (call_ (may_spec hT text h1) hG [] rfl rfl rfl rfl rfl ?_)
      intro b hb
      cbv
      exact hf _ _ (fin_ [] rfl rfl (hK b hb))
    · rw [seq_eq hN] at h3
      have h3' : decide (val = ⟨#[]⟩) = false := h3
      rw [h3', Bool.false_and] at hK
      cbv
      exact hf _ _ (fin_as (.bool false) (fun _ => rfl) (fin_ [] rfl rfl (hK false rfl)))
  rw [ceq hN] at g4
  have g4' : kind ≠ 4 := by simpa using g4
  cbv
  refine cond_ hN (fun h => ?_) (fun g8 => ?_)
  · rw [ceq hN] at h
    have hk : kind = 8 := by simpa using h
    rw [txt (by simp [hk])] at hK
    cbv
    refine cond_ hN (fun h3 => ?_) (fun h3 => ?_)
    · rw [seq_eq hN] at h3
      have h3' : decide (val = ⟨#[]⟩) = true := h3
      rw [h3', Bool.true_and] at hK
      cbv
      refine op_ hN (call_ (may_spec hT text h1) hG [] rfl rfl rfl rfl rfl ?_)
      intro b hb
      cbv
      exact hf _ _ (fin_ [] rfl rfl (hK b hb))
    · rw [seq_eq hN] at h3
      have h3' : decide (val = ⟨#[]⟩) = false := h3
      rw [h3', Bool.false_and] at hK
      cbv
      exact hf _ _ (fin_as (.bool false) (fun _ => rfl) (fin_ [] rfl rfl (hK false rfl)))
  rw [ceq hN] at g8
  have g8' : kind ≠ 8 := by simpa using g8
  cbv
  have rE : rightM ⟨kind, text, val⟩ = (if kind = 10 then decide (val = ⟨#[]⟩) && (cutN text).2.2 else if kind = 11 then (cutN text).2.2 && mayT val else false) := by
    unfold rightM; rw [if_neg rB, if_neg g2', if_neg g3', if_neg (by simp [g4', g8'])]
  rw [rE] at hK
  refine cond_ hN (fun h => ?_) (fun g10 => ?_)
  · rw [ceq hN] at h
    have hk : kind = 10 := by simpa using h
    rw [if_pos hk] at hK
    have hsz := hsz10 (.inl hk)
    cbv
    refine cond_ hN (fun h3 => ?_) (fun h3 => ?_)
    · rw [seq_eq hN] at h3
      have h3' : decide (val = ⟨#[]⟩) = true := h3
      rw [h3', Bool.true_and] at hK
      cbv
      refine op_ hN (call_ (full_ev_spec hT text hsz) hG [] rfl rfl rfl rfl rfl ?_)
      intro b hb
      cbv
      exact hf _ _ (fin_ [] rfl rfl (hK b hb))
    · rw [seq_eq hN] at h3
      have h3' : decide (val = ⟨#[]⟩) = false := h3
      rw [h3', Bool.false_and] at hK
      cbv
      exact hf _ _ (fin_as (.bool false) (fun _ => rfl) (fin_ [] rfl rfl (hK false rfl)))
  rw [ceq hN] at g10
  have g10' : kind ≠ 10 := by simpa using g10
  rw [if_neg g10'] at hK
  cbv
  refine cond_ hN (fun h => ?_) (fun g11 => ?_)
  · rw [ceq hN] at h
    have hk : kind = 11 := by simpa using h
    rw [if_pos hk] at hK
    have hsz := hsz10 (.inr hk)
    cbv
    refine op_ hN (call_ (full_ev_spec hT text hsz) hG [] rfl rfl rfl rfl rfl ?_)
    intro b hb
    rw [← hb] at hK
    clear hb
    cases b with
    | true =>
      rw [Bool.true_and] at hK
      cbv
      refine cond_T hN rfl ?_
      cbv
      refine op_ hN (call_ (may_spec hT val h2) hG [] rfl rfl rfl rfl rfl ?_)
      intro c hc
      cbv
      exact hf _ _ (fin_ [] rfl rfl (hK c hc))
    | false =>
      cbv
      refine cond_F hN rfl ?_
      cbv
      exact hf _ _ (fin_as (.bool false) (fun _ => rfl) (fin_ [] rfl rfl (hK false rfl)))
  rw [ceq hN] at g11
  have g11' : kind ≠ 11 := by simpa using g11
  rw [if_neg g11'] at hK
  cbv
  exact hf _ _ (fin_as (.bool false) (fun _ => rfl) (fin_ [] rfl rfl (hK false rfl)))
end Hx
