/-
  Part of a proof.
-/
import Derived.Test.YtlmbbchfaoeebaaGreatDoorW23
import Derived.Test.YtlmbbchfaoeebaaGreatDoorW03
import Derived.Lib.TrimU
import Derived.Test.YtlmbbchfaoeebaaGreatDoorW24
import Derived.Test.YtlmbbchfaoeebaaGreatDoorW09
import Derived.Test.YtlmbbchfaoeebaaGreatDoorW06
import Derived.Laws.StructEq
set_option linter.unusedVariables false
set_option linter.unusedSimpArgs false
/- events.may: src.Runes is gone through in place. -/
namespace Hx
open Go Sx Go.Proofs
set_option maxRecDepth 100000
set_option maxHeartbeats 4000000
set_option linter.unusedVariables false
set_option linter.unusedSimpArgs false
variable {GOk : Gl → Prop}
def mayT (s : ByteArray) : Bool := Lib.validD s.data.toList && decide (s.size ≤ 48)
def encI (x : Int) : List Sx.Lit := [.int .i64 x]
theorem wideI : Wide 1 encI := fun _ => rfl
theorem may_spec (hT : GTab GOk) (s : ByteArray) (hs : s.size < 1099511627776) : Triple (BB Ip GOk) 37 0 0 [.str s] [] (fun K => ∀ b, b = mayT s → K (.ret (.bool b)) []) := by
  refine triple_of BB_ok (tb := ty) rfl (n0 := 0) (fun _ : Unit => _) pl37 Tryz.call37 Tryz.func37 rfl (by kernel_rfl) (Nat.le_of_ble_eq_true rfl) (by decide) rfl pre_none ?_
  rintro G hG K hK W bi bc bs bk bu bb bo bg bl bp bn be Ncond Nob Nop Nloop Nscope hN Nfin hf _ _
  cbv
  refine op_ hN (inline_ BB_ok (tb := ty) rfl pl44 Tryz.call44 Tryz.func44 rfl (by kernel_rfl) (Nat.le_of_ble_eq_true rfl) ?_)
  intro W2 bi2 bc2 bs2 bk2 bu2 bb2 bo2 bg2 bl2 bp2 bn2 be2 Ncond2 Nob2 Nop2 Nloop2 Nscope2 hN2
  cbv
  refine op_ hN2 (call_ (valid_string_spec hT s hs) hG [] rfl rfl rfl rfl rfl ?_)
  intro v hv
  cases v with
  | false =>
    cbv
    refine cond_T hN2 rfl ?_
    cbv
    exact hf _ _ (fin_as (.bool false) (fun _ => rfl) (fin_ [] rfl rfl (hK false (by simp [mayT, ← hv]))))
  | true =>
    cbv
    refine cond_F hN2 rfl ?_
    cbv
    refine op_ hN2 (range_str ty_ok rfl rfl rfl ?_)
    cbv
    refine loopN_ hN2 (loop_ hN2 ty_ok mixed (ι := Nat × Bool × Nat × Nat × Nat × List Int) (fun y => ⟨[(4, .vec y.2.1 1 1 y.2.2.1 y.2.2.2.1 y.2.2.2.2.1), (11, .ptr 0 0)], [.obj 0 (.stringIter s y.1), .arr y.2.1 true 1 3 encI y.2.2.2.2.2], 2⟩)
      (fun y => (y.2.1 = false → y.2.2.2.2.1 = 0) ∧ y.2.2.1 + y.2.2.2.2.1 ≤ y.2.2.2.2.2.length ∧ y.2.2.2.1 ≤ y.2.2.2.2.1 ∧ y.2.2.2.1 ≤ y.1) (fun y => s.size - y.1) ?_ ?_)
    · refine leads_noArr true 1 2 3 encI [] rfl ?_
      refine leads_eset 4 .nilslice (.vec false 1 1 0 0 0) rfl (fun _ => rfl) ?_
      exact Leads.idx (0, false, 0, 0, 0, []) [0, 1] ⟨fun _ => rfl, Nat.le_refl _, Nat.le_refl _, Nat.le_refl _⟩ ⟨⟨rfl, rfl, trivial⟩, rfl, Nat.le_of_ble_eq_true rfl⟩
    rintro ⟨pos, p, lo, len, cap, xs⟩ ⟨h1, h2, h3, h4⟩ Nnext hn _
    simp only at h1 h2 h3 h4
    cbv
    refine op_ hN2 (next_str ty_ok rfl (fun hlt => ?_) (fun hlt => ?_))
    · have hw := Lib.width_pos s pos
      generalize (Utf8.decode s pos).2 = wd at hw ⊢
      generalize (Utf8.decode s pos).1 = r
      obtain ⟨pos2, hpos2⟩ : ∃ x, x = pos + wd := ⟨_, rfl⟩
      rw [← hpos2]
      cbv
      obtain ⟨x, hx⟩ : ∃ x, x = W2 .i64 (Int.ofNat r) := ⟨_, rfl⟩
      rw [← hx]
      refine op_ hN2 (append_vec (new := [x]) (z := 0) ty_ok rfl rfl rfl rfl (fun k => by simp) rfl rfl wideI rfl rfl (src_cells wideI rfl (fun _ _ _ _ => rfl) rfl) h1 h2 h3 (by simp; omega) (by decide) ?_)
      intro p' lo' m' cap' xs' hm' e1 e2 e3 e4
      cbv
      exact hn _ (Leads.nxt (pos2, p', lo', m', cap', xs') [0, 3] ⟨e1, e2, e3, by simp at hm'; simp only; omega⟩ (by simp only; omega) ⟨⟨rfl, rfl, trivial⟩, rfl, Nat.le_of_ble_eq_true rfl⟩)
    · cbv
      exact hf _ _ (fin_ [] rfl rfl (hK _ (by rw [cle hN, len_eq hN]; simp [mayT, ← hv]; omega)))
end Hx
/- num.may, Read. -/
namespace Hx
open Go Sx Go.Proofs
set_option maxRecDepth 100000
set_option maxHeartbeats 4000000
set_option linter.unusedVariables false
set_option linter.unusedSimpArgs false
variable {GOk : Gl → Prop}
theorem numRead0_size {t : ByteArray} {v : NV} (h : numRead0 t = some v) : v.digits.size ≤ 60 := by
  simp only [numRead0] at h
  split at h
  · exact nomatch h
  · rename_i hc
    have h30 : t.size ≤ 30 := by
      simp only [Bool.or_eq_true, decide_eq_true_eq, not_or] at hc; omega
    simp only [Option.some.injEq] at h
    subst h
    split
    · exact Nat.zero_le _
    · simp only [bL, ByteArray.size, List.size_toArray]
      refine Nat.le_trans (trimR_len _ _) (Nat.le_trans (trimL_len _ _) ?_)
      rw [List.length_append]
      have c1 := cut_len (Lib.cut (Lib.toLowerA (Lib.trimPrefix t.data.toList [45])) [101]).1 [46]
      have c2 := cut_len (Lib.toLowerA (Lib.trimPrefix t.data.toList [45])) [101]
      have c3 : (Lib.toLowerA (Lib.trimPrefix t.data.toList [45])).length ≤ 30 := by
        rw [Lib.toLowerA, List.length_map]
        exact Nat.le_trans (trimP_len _ _) (by rw [← Lib.size_eq]; exact h30)
      omega
theorem may_num_spec (hT : GTab GOk) (t : ByteArray) (ht : t.size < 1099511627776) : Triple (BB Ip GOk) 42 0 0 [.str t] [] (fun K => ∀ v e, (v, e) = numMay t → K (.ret (.tuple [nvA v, .int .i64 e])) []) := by
  refine triple_of BB_ok (tb := ty) rfl (n0 := 0) (fun _ : Unit => _) pl42 Tryz.call42 Tryz.func42 rfl (by kernel_rfl) (Nat.le_of_ble_eq_true rfl) (by decide) rfl pre_none ?_
  rintro G hG K hK W bi bc bs bk bu bb bo bg bl bp bn be Ncond Nob Nop Nloop Nscope hN Nfin hf _ _
  cbv
  refine op_ hN (call_ (read_spec0 hT t ht) hG [] rfl rfl rfl rfl rfl ?_)
  have hM : numMay t = (match numRead0 t with
    | none => (nv0, 8)
    | some v => if decide (v.power > 999) || (decide (v.power < -999) || decide ((numForm v).size > 30)) then (nv0, 8) else (v, 0)) := rfl
  have bad : ∀ cs : List (Chunk Pd), numMay t = (nv0, 8) → Nfin (.ret (.tuple [.agg [.ff, .str { data := { toList := [] } }, .int .i64 0], .int .i64 8])) cs := fun cs h =>
    hf _ _ (fin_as (.tuple [nvA nv0, .int .i64 8]) (fun _ => rfl) (fin_ [] rfl rfl (hK nv0 8 h.symm)))
  cases hr : numRead0 t with
  | none =>
    rw [hr] at hM
    simp only at hM ⊢
    cbv
    refine cond_T hN rfl ?_
    cbv
    exact bad _ hM
  | some v =>
    rw [hr] at hM
    have hz := numRead0_size hr
    simp only at hM ⊢
    obtain ⟨below, digits, power⟩ := v
    simp only at hz hM
    cbv
    refine cond_F hN rfl ?_
    cbv
    refine cond_ hN (fun h1 => ?_) (fun h1 => ?_)
    · rw [cgt hN] at h1
      rw [if_pos (by rw [h1]; rfl)] at hM
      cbv
      exact bad _ hM
    · rw [cgt hN] at h1
      rw [h1, Bool.false_or] at hM
      have h1' : ¬ power > 999 := by simpa using h1
      cbv
      refine cond_ hN (fun h2 => ?_) (fun h2 => ?_)
      · rw [clt hN] at h2
        rw [if_pos (by rw [h2]; rfl)] at hM
        cbv
        exact bad _ hM
      · rw [clt hN] at h2
        rw [h2, Bool.false_or] at hM
        have h2' : ¬ power < -999 := by simpa using h2
        cbv
        refine op_ hN (call_ (form_spec hT ⟨below, digits, power⟩ (by simp only; omega) (by simp only; omega)) hG [] rfl rfl rfl rfl rfl ?_)
        intro s hs
        rw [← hs] at hM
        cbv
        refine cond_ hN (fun h3 => ?_) (fun h3 => ?_)
        · rw [cgt hN, len_eq hN] at h3
          have h3' : s.size > 30 := by have : (30 : Int) < (s.size : Int) := by simpa using h3
                                       omega
          rw [if_pos (decide_eq_true h3')] at hM
          cbv
          exact bad _ hM
        · rw [cgt hN, len_eq hN] at h3
          have h3' : ¬ s.size > 30 := by have : ¬ (30 : Int) < (s.size : Int) := by simpa using h3
                                         omega
          rw [if_neg (by simpa using h3')] at hM
          cbv
          exact hf _ _ (fin_as (.tuple [nvA ⟨below, digits, power⟩, .int .i64 0]) (fun _ => rfl) (fin_ [] rfl rfl (hK _ 0 hM.symm)))
theorem numMay_ok {t : ByteArray} {v : NV} (h : numMay t = (v, 0)) : (-1000 ≤ v.power ∧ v.power ≤ 1000) ∧ v.digits.size ≤ 1000 ∧ (numForm v).size ≤ 30 := by
  unfold numMay at h
  cases hr : numRead0 t with
  | none => rw [hr] at h; exact nomatch congrArg Prod.snd h
  | some w =>
    rw [hr] at h
    simp only at h
    split at h
    · exact nomatch congrArg Prod.snd h
    · rename_i hc
      simp only [Prod.mk.injEq, and_true] at h
      subst h
      simp only [Bool.or_eq_true, decide_eq_true_eq, not_or] at hc
      have := numRead0_size hr
      omega
theorem nread_spec (hT : GTab GOk) (t : ByteArray) (ht : t.size < 1099511627776) : Triple (BB Ip GOk) 36 0 0 [.str t] [] (fun K => ∀ r e, (r, e) = numReadM t → K (.ret (.tuple [.str r, .int .i64 e])) []) := by
  refine triple_of BB_ok (tb := ty) rfl (n0 := 0) (fun _ : Unit => _) pl36 Tryz.call36 Tryz.func36 rfl (by kernel_rfl) (Nat.le_of_ble_eq_true rfl) (by decide) rfl pre_none ?_
  rintro G hG K hK W bi bc bs bk bu bb bo bg bl bp bn be Ncond Nob Nop Nloop Nscope hN Nfin hf _ _
  cbv
  refine op_ hN (call_ (may_num_spec hT t ht) hG [] rfl rfl rfl rfl rfl ?_)
  intro v e hv
  have hM : numReadM t = if e ≠ 0 then (⟨#[]⟩, e) else (numForm v, 0) := by simp only [numReadM]; rw [← hv]
  by_cases he : e = 0
  · subst he
    have hok := numMay_ok hv.symm
    rw [if_neg (by simp)] at hM
    obtain ⟨below, digits, power⟩ := v
    cbv
    refine cond_F hN (by rw [cne hN]; rfl) ?_
    cbv
    refine op_ hN (call_ (form_spec hT ⟨below, digits, power⟩ hok.1 hok.2.1) hG [] rfl rfl rfl rfl rfl ?_)
    intro s hs
    rw [← hs] at hM
    cbv
    exact hf _ _ (fin_ [] rfl rfl (hK s 0 hM.symm))
  · rw [if_pos he] at hM
    obtain ⟨below, digits, power⟩ := v
    cbv
    refine cond_T hN (by rw [cne hN]; simpa using he) ?_
    cbv
    exact hf _ _ (fin_ [] rfl rfl (hK ⟨#[]⟩ e hM.symm))
theorem numReadM_law (t : ByteArray) : (numReadM t).1.size ≤ 30 ∧ 0 ≤ (numReadM t).2 := by
  unfold numReadM
  generalize hm : numMay t = y
  obtain ⟨v, e⟩ := y
  simp only
  split
  · refine ⟨Nat.zero_le _, ?_⟩
    simp only
    unfold numMay at hm
    split at hm
    · have := congrArg Prod.snd hm; simp only at this; omega
    · split at hm
      · have := congrArg Prod.snd hm; simp only at this; omega
      · have := congrArg Prod.snd hm; simp only at this; omega
  · rename_i he
    have he : e = 0 := by simpa using he
    subst he
    exact ⟨(numMay_ok hm).2.2, Int.le_refl _⟩
theorem read_ok (hT : GTab GOk) : ReadOk GOk numReadM := ⟨fun x hx => nread_spec hT x (by omega), fun x => by have := (numReadM_law x).1; omega⟩
end Hx
/- Two events held against each other. -/
namespace Hx
open Go Sx Go.Proofs
set_option maxRecDepth 100000
set_option maxHeartbeats 4000000
set_option linter.unusedVariables false
set_option linter.unusedSimpArgs false
variable {GOk : Gl → Prop}
theorem ev_fields : ∃ f0 f1 f2 : Field, (P.fieldsOf 44).toList = [f0, f1, f2] ∧ (f0.name ≠ "_" ∧ f1.name ≠ "_" ∧ f2.name ≠ "_") ∧ (f0.type = 3 ∧ f1.type = 9 ∧ f2.type = 9) ∧ (f0.offset = 0 ∧ f1.offset = 1 ∧ f2.offset = 2) := by
  have h : (P.fieldsOf 44).toList.map (fun f => (f.name, f.type, f.offset)) = [("Kind", 3, 0), ("Text", 9, 1), ("Val", 9, 2)] := by kernel_rfl
  generalize (P.fieldsOf 44).toList = l at h
  rcases l with _ | ⟨f0, _ | ⟨f1, _ | ⟨f2, _ | ⟨f3, l⟩⟩⟩⟩
  · exact nomatch h
  · simp at h
  · simp at h
  · simp only [List.map_cons, List.map_nil, List.cons.injEq, Prod.mk.injEq, and_true] at h
    obtain ⟨⟨a1, a2, a3⟩, ⟨b1, b2, b3⟩, c1, c2, c3⟩ := h
    exact ⟨f0, f1, f2, rfl, ⟨by rw [a1]; decide, by rw [b1]; decide, by rw [c1]; decide⟩, ⟨a2, b2, c2⟩, a3, b3, c3⟩
  · simp at h
theorem part_ (t : Nat) (xs : Array Value) (off : Nat) (v : Value) (w : World) (ht : t = 3 ∨ t = 9) (h : xs[off]? = some v) : (part t xs off).run P w = .ok v w := by
  have hp : P.plainKey t = true := by rcases ht with rfl | rfl <;> kernel_rfl
  exact run_part_plain w hp h
theorem eq_ev {X : Cx Pd} (hP : X.P = P) {a b : Operand} {k k' : Int} {s s' v v' : ByteArray} {type : TypeId} {cs : List (Chunk Pd)} {n : Nat} {cont : Out → List (Chunk Pd) → Nat → Prop}
    (hk : ∀ b : Bool, b = (decide (k = k') && (decide (s = s') && decide (v = v'))) → cont (.ret (.bool b)) cs n) :
    NodeX X (.binOp .eql 44 a b 44) type [.agg [.int .i64 k, .str s, .str v], .agg [.int .i64 k', .str s', .str v']] cs n cont := by
  intro ρ F w ρe o ho _ hvs hs
  obtain ⟨dst, op, ty', pos, after, guard⟩ := o
  simp only at ho; subst ho
  have hab : ρe a = .agg #[.int .i64 k, .string s, .string v] ∧ ρe b = .agg #[.int .i64 k', .string s', .string v'] := by simpa [Op.operands, SV.denL, SV.den] using hvs
  obtain ⟨f0, f1, f2, hf, ⟨n0, n1, n2⟩, ⟨t0, t1, t2⟩, o0, o1, o2⟩ := ev_fields
  have u3 : P.underlying 3 = some (.int .i64) := by kernel_rfl
  have u9 : P.underlying 9 = some .string := by kernel_rfl
  have ut : P.underlying 44 = some (.struct (P.fieldsOf 44)) := by kernel_rfl
  have hh : P.stoodInHeld 44 = false := by kernel_rfl
  have hg : P.eqGuardType P.depth 44 = false := by kernel_rfl
  have he : (Op.equalIn 10000 44 (.agg #[.int .i64 k, .string s, .string v]) (.agg #[.int .i64 k', .string s', .string v'])).run P w = .ok (decide (k = k') && (decide (s = s') && decide (v = v'))) w := by
    rw [run_equalIn_agg (P := P) w 9999 44 _ _ ut hh, hf]
    simp only [Op.eqFields, n0, n1, n2, ne_eq, not_false_eq_true, if_true, Sem.run_bind, t0, t1, t2, o0, o1, o2]
    rw [part_ 3 _ 0 (.int .i64 k) w (.inl rfl) rfl]
    simp only [Result.andThen_ok]
    rw [part_ 3 _ 0 (.int .i64 k') w (.inl rfl) rfl]
    simp only [Result.andThen_ok]
    rw [run_equalIn_int (P := P) w 9998 3 .i64 .i64 k k' u3]
    simp only [Result.andThen_ok, Sem.run_ite, Sem.run_bind, Sem.run_pure]
    rw [part_ 9 _ 1 (.string s) w (.inr rfl) rfl]
    simp only [Result.andThen_ok]
    rw [part_ 9 _ 1 (.string s') w (.inr rfl) rfl]
    simp only [Result.andThen_ok]
    rw [run_equalIn_string (P := P) w 9998 9 s s' u9]
    simp only [Result.andThen_ok, Sem.run_ite, Sem.run_bind, Sem.run_pure]
    rw [part_ 9 _ 2 (.string v) w (.inr rfl) rfl]
    simp only [Result.andThen_ok]
    rw [part_ 9 _ 2 (.string v') w (.inr rfl) rfl]
    simp only [Result.andThen_ok]
    rw [run_equalIn_string (P := P) w 9998 9 v v' u9]
    simp only [Result.andThen_ok, Sem.run_ite, Sem.run_pure]
    have b1 : ∀ x y : ByteArray, (x.toList == y.toList) = decide (x = y) := fun x y => by
      rw [Bool.eq_iff_iff]
      simp only [beq_iff_eq, decide_eq_true_eq]
      constructor
      · intro h
        rw [toList_eq, toList_eq] at h
        cases x; cases y
        simp only [ByteArray.mk.injEq] at h ⊢
        exact Array.toList_inj.1 h
      · rintro rfl; rfl
    rw [b1, b1]
    by_cases h1 : k = k'
    · by_cases h2 : s = s'
      · by_cases h3 : v = v' <;> simp [h1, h2, h3]
      · simp [h1, h2]
    · simp [h1]
  have h2 : (execOp ρe ⟨dst, .binOp .eql 44 a b 44, ty', pos, after, guard⟩).run X.P w = .ok (.value (.bool (decide (k = k') && (decide (s = s') && decide (v = v'))))) w := by
    rw [hP]
    simp only [execOp, hab.1, hab.2, Sem.run_bind, run_eqGuard_agg w .eql 44 a b _ _ hg, Result.andThen_ok, run_eql_struct, he, Sem.run_pure]
  rw [h2]
  exact ⟨.bool _, cs, n, ρ, rfl, Nat.le_refl _, Ext.refl _ _, hs, hk _ rfl⟩
end Hx
/- events.right. -/
namespace Hx
open Go Sx Go.Proofs
set_option maxRecDepth 100000
set_option maxHeartbeats 4000000
set_option linter.unusedVariables false
set_option linter.unusedSimpArgs false
variable {GOk : Gl → Prop}
def rightM (x : Ev) : Bool :=
  if x.kind = 1 ∨ x.kind = 5 ∨ x.kind = 6 ∨ x.kind = 7 ∨ x.kind = 9 ∨ x.kind = 12 then decide (x.text = ⟨#[]⟩) && decide (x.val = ⟨#[]⟩)
  else if x.kind = 2 then decide (x.val = ⟨#[]⟩) && (decide (x.text = wTrue) || decide (x.text = wFalse))
  else if x.kind = 3 then decide (x.val = ⟨#[]⟩) && (decide ((numReadM x.text).2 = 0) && decide ((numReadM x.text).1 = x.text))
  else if x.kind = 4 ∨ x.kind = 8 then decide (x.val = ⟨#[]⟩) && mayT x.text
  else false
theorem right_spec (hT : GTab GOk) (x : Ev) (hx : okE x) : Triple (BB Ip GOk) 21 0 0 [.agg [.int .i64 x.kind, .str x.text, .str x.val]] [] (fun K => ∀ b, b = rightM x → K (.ret (.bool b)) []) := by
  obtain ⟨kind, text, val⟩ := x
  obtain ⟨h1, h2, h10, h11⟩ := hx
  simp only at h1 h2 h10 h11
  refine triple_of BB_ok (tb := ty) rfl (n0 := 0) (fun _ : Unit => _) pl21 Tryz.call21 Tryz.func21 rfl (by kernel_rfl) (Nat.le_of_ble_eq_true rfl) (by decide) rfl pre_none ?_
  rintro G hG K hK W bi bc bs bk bu bb bo bg bl bp bn be Ncond Nob Nop Nloop Nscope hN Nfin hf _ _
  have rA : (kind = 1 ∨ kind = 5 ∨ kind = 6 ∨ kind = 7 ∨ kind = 9 ∨ kind = 12) → rightM ⟨kind, text, val⟩ = (decide (text = ⟨#[]⟩) && decide (val = ⟨#[]⟩)) := fun h => by unfold rightM; exact if_pos h
  cbv
  refine cond_ hN (fun h => ?_) (fun g1 => ?_)
  · rw [ceq hN] at h
    have hk : kind = 1 := by simpa using h
    cbv
    refine op_ hN (eq_ev rfl ?_)
    intro b hb
    cbv
    exact hf _ _ (fin_ [] rfl rfl (hK b (by rw [hb, rA (by simp [hk]), decide_eq_true rfl, Bool.true_and])))
  rw [ceq hN] at g1
  have g1' : kind ≠ 1 := by simpa using g1
  cbv
  refine cond_ hN (fun h => ?_) (fun g5 => ?_)
  · rw [ceq hN] at h
    have hk : kind = 5 := by simpa using h
    cbv
    refine op_ hN (eq_ev rfl ?_)
    intro b hb
    cbv
    exact hf _ _ (fin_ [] rfl rfl (hK b (by rw [hb, rA (by simp [hk]), decide_eq_true rfl, Bool.true_and])))
  rw [ceq hN] at g5
  have g5' : kind ≠ 5 := by simpa using g5
  cbv
  refine cond_ hN (fun h => ?_) (fun g6 => ?_)
  · rw [ceq hN] at h
    have hk : kind = 6 := by simpa using h
    cbv
    refine op_ hN (eq_ev rfl ?_)
    intro b hb
    cbv
    exact hf _ _ (fin_ [] rfl rfl (hK b (by rw [hb, rA (by simp [hk]), decide_eq_true rfl, Bool.true_and])))
  rw [ceq hN] at g6
  have g6' : kind ≠ 6 := by simpa using g6
  cbv
  refine cond_ hN (fun h => ?_) (fun g7 => ?_)
  · rw [ceq hN] at h
    have hk : kind = 7 := by simpa using h
    cbv
    refine op_ hN (eq_ev rfl ?_)
    intro b hb
    cbv
    exact hf _ _ (fin_ [] rfl rfl (hK b (by rw [hb, rA (by simp [hk]), decide_eq_true rfl, Bool.true_and])))
  rw [ceq hN] at g7
  have g7' : kind ≠ 7 := by simpa using g7
  cbv
  refine cond_ hN (fun h => ?_) (fun g9 => ?_)
  · rw [ceq hN] at h
    have hk : kind = 9 := by simpa using h
    cbv
    refine op_ hN (eq_ev rfl ?_)
    intro b hb
    cbv
    exact hf _ _ (fin_ [] rfl rfl (hK b (by rw [hb, rA (by simp [hk]), decide_eq_true rfl, Bool.true_and])))
  rw [ceq hN] at g9
  have g9' : kind ≠ 9 := by simpa using g9
  cbv
  refine cond_ hN (fun h => ?_) (fun g12 => ?_)
  · rw [ceq hN] at h
    have hk : kind = 12 := by simpa using h
    cbv
    refine op_ hN (eq_ev rfl ?_)
    intro b hb
    cbv
    exact hf _ _ (fin_ [] rfl rfl (hK b (by rw [hb, rA (by simp [hk]), decide_eq_true rfl, Bool.true_and])))
  rw [ceq hN] at g12
  have g12' : kind ≠ 12 := by simpa using g12
  cbv
  have rB : ¬ (kind = 1 ∨ kind = 5 ∨ kind = 6 ∨ kind = 7 ∨ kind = 9 ∨ kind = 12) := by simp [g1', g5', g6', g7', g9', g12']
  refine cond_ hN (fun h => ?_) (fun g2 => ?_)
  · rw [ceq hN] at h
    have hk : kind = 2 := by simpa using h
    have hM : rightM ⟨kind, text, val⟩ = (decide (val = ⟨#[]⟩) && (decide (text = wTrue) || decide (text = wFalse))) := by unfold rightM; rw [if_neg rB, if_pos hk]
    rw [hM] at hK
    cbv
    refine cond_ hN (fun h3 => ?_) (fun h3 => ?_)
    · rw [seq_eq hN] at h3
      have h3' : decide (val = ⟨#[]⟩) = true := h3
      rw [h3', Bool.true_and] at hK
      cbv
      refine cond_ hN (fun h4 => ?_) (fun h4 => ?_)
      · rw [seq_eq hN] at h4
        have h4' : decide (text = wTrue) = true := h4
        rw [h4', Bool.true_or] at hK
        cbv
        exact hf _ _ (fin_as (.bool true) (fun _ => rfl) (fin_ [] rfl rfl (hK true rfl)))
      · rw [seq_eq hN] at h4
        have h4' : decide (text = wTrue) = false := h4
        rw [h4', Bool.false_or] at hK
        cbv
        exact hf _ _ (fin_ [] rfl rfl (hK _ (by rw [seq_eq hN]; rfl)))
    · rw [seq_eq hN] at h3
      have h3' : decide (val = ⟨#[]⟩) = false := h3
      rw [h3', Bool.false_and] at hK
      cbv
      exact hf _ _ (fin_as (.bool false) (fun _ => rfl) (fin_ [] rfl rfl (hK false rfl)))
  rw [ceq hN] at g2
  have g2' : kind ≠ 2 := by simpa using g2
  cbv
  refine cond_ hN (fun h => ?_) (fun g3 => ?_)
  · rw [ceq hN] at h
    have hk : kind = 3 := by simpa using h
    have hM : rightM ⟨kind, text, val⟩ = (decide (val = ⟨#[]⟩) && (decide ((numReadM text).2 = 0) && decide ((numReadM text).1 = text))) := by unfold rightM; rw [if_neg rB, if_neg g2', if_pos hk]
    rw [hM] at hK
    cbv
    refine op_ hN (call_ (nread_spec hT text h1) hG [] rfl rfl rfl rfl rfl ?_)
    intro r e hre
    rw [← hre] at hK
    simp only at hK
    cbv
    refine cond_ hN (fun h3 => ?_) (fun h3 => ?_)
    · rw [seq_eq hN] at h3
      have h3' : decide (val = ⟨#[]⟩) = true := h3
      rw [h3', Bool.true_and] at hK
      cbv
      refine cond_ hN (fun h4 => ?_) (fun h4 => ?_)
      · rw [ceq hN] at h4
        rw [h4, Bool.true_and] at hK
        cbv
        exact hf _ _ (fin_ [] rfl rfl (hK _ (by rw [seq_eq hN])))
      · rw [ceq hN] at h4
        rw [h4, Bool.false_and] at hK
        cbv
        exact hf _ _ (fin_as (.bool false) (fun _ => rfl) (fin_ [] rfl rfl (hK false rfl)))
    · rw [seq_eq hN] at h3
      have h3' : decide (val = ⟨#[]⟩) = false := h3
      rw [h3', Bool.false_and] at hK
      cbv
      exact hf _ _ (fin_as (.bool false) (fun _ => rfl) (fin_ [] rfl rfl (hK false rfl)))
  rw [ceq hN] at g3
  have g3' : kind ≠ 3 := by simpa using g3
  cbv
  have txt : (kind = 4 ∨ kind = 8) → rightM ⟨kind, text, val⟩ = (decide (val = ⟨#[]⟩) && mayT text) := fun h => by unfold rightM; rw [if_neg rB, if_neg g2', if_neg g3', if_pos h]
  refine cond_ hN (fun h => ?_) (fun g4 => ?_)
  · rw [ceq hN] at h
    have hk : kind = 4 := by simpa using h
    rw [txt (by simp [hk])] at hK
    cbv
    refine cond_ hN (fun h3 => ?_) (fun h3 => ?_)
    · rw [seq_eq hN] at h3
      have h3' : decide (val = ⟨#[]⟩) = true := h3
      rw [h3', Bool.true_and] at hK
      cbv
      refine op_ hN (call_ (may_spec hT text h1) hG [] rfl rfl rfl rfl rfl ?_)
      intro b hb
      cbv
      exact hf _ _ (fin_ [] rfl rfl (hK b hb))
    · rw [seq_eq hN] at h3
      have h3' : decide (val = ⟨#[]⟩) = false := h3
      rw [h3', Bool.false_and] at hK
      cbv
      exact hf _ _ (fin_as (.bool false) (fun _ => rfl) (fin_ [] rfl rfl (hK false rfl)))
  rw [ceq hN] at g4
  have g4' : kind ≠ 4 := by simpa using g4
  cbv
  refine cond_ hN (fun h => ?_) (fun g8 => ?_)
  · rw [ceq hN] at h
    have hk : kind = 8 := by simpa using h
    rw [txt (by simp [hk])] at hK
    cbv
    refine cond_ hN (fun h3 => ?_) (fun h3 => ?_)
    · rw [seq_eq hN] at h3
      have h3' : decide (val = ⟨#[]⟩) = true := h3
      rw [h3', Bool.true_and] at hK
      cbv
      refine op_ hN (call_ (may_spec hT text h1) hG [] rfl rfl rfl rfl rfl ?_)
      intro b hb
      cbv
      exact hf _ _ (fin_ [] rfl rfl (hK b hb))
    · rw [seq_eq hN] at h3
      have h3' : decide (val = ⟨#[]⟩) = false := h3
      rw [h3', Bool.false_and] at hK
      cbv
      exact hf _ _ (fin_as (.bool false) (fun _ => rfl) (fin_ [] rfl rfl (hK false rfl)))
  rw [ceq hN] at g8
  have g8' : kind ≠ 8 := by simpa using g8
  cbv
  have hM : rightM ⟨kind, text, val⟩ = false := by unfold rightM; rw [if_neg rB, if_neg g2', if_neg g3', if_neg (by simp [g4', g8'])]
  rw [hM] at hK
  refine cond_F hN (by rw [ceq hN]; simpa using h10) ?_
  cbv
  refine cond_F hN (by rw [ceq hN]; simpa using h11) ?_
  cbv
  exact hf _ _ (fin_as (.bool false) (fun _ => rfl) (fin_ [] rfl rfl (hK false rfl)))
end Hx
/- sections' lives. -/
namespace Hx
open Go Sx Go.Proofs
set_option maxRecDepth 100000
set_option maxHeartbeats 4000000
set_option linter.unusedVariables false
set_option linter.unusedSimpArgs false
variable {GOk : Gl → Prop}
def livesText : List UInt8 := [91, 91, 114, 93, 93, 10, 107, 32, 61, 32, 49, 10, 91, 91, 114, 93, 93, 10]
def livesOk (o : Option (OS Sec)) : Bool := match o with
  | some s => s.c.queue.length == 11 && (s.c.queue.drop 4).head?.map (fun x : Ev => (x.kind, x.text.data.toList, x.val.data.toList)) == some (8, [107], []) && (s.c.queue.drop 9).head?.map (fun x : Ev => (x.kind, x.text.data.toList, x.val.data.toList)) == some (6, [], []) && s.c.err == 0 && s.c.at_ == 18
  | none => false
theorem lives_model : livesOk (secAllM rightM numReadM livesText) = true := by kernel_rfl
theorem bytes_of {s : ByteArray} {l : List UInt8} (h : s.data.toList = l) : s = ⟨l.toArray⟩ := by
  cases s; simp only at h; subst h; simp
theorem lives_queue : ∃ s, secAllM rightM numReadM livesText = some s ∧ s.c.queue.length = 11 ∧ s.c.queue[4]? = some ⟨8, ⟨#[107]⟩, ⟨#[]⟩⟩ ∧ s.c.queue[9]? = some ⟨6, ⟨#[]⟩, ⟨#[]⟩⟩ ∧ s.c.err = 0 ∧ s.c.at_ = 18 := by
  have h := lives_model
  generalize secAllM rightM numReadM livesText = o at h
  cases o with
  | none => exact nomatch h
  | some s =>
    simp only [livesOk, Bool.and_eq_true, beq_iff_eq] at h
    obtain ⟨⟨⟨⟨h1, h2⟩, h3⟩, h4⟩, h5⟩ := h
    refine ⟨s, rfl, h1, ?_, ?_, h4, h5⟩
    · rw [List.head?_drop] at h2
      cases e : s.c.queue[4]? with
      | none => rw [e] at h2; exact nomatch h2
      | some x =>
        rw [e] at h2
        obtain ⟨kind, text, val⟩ := x
        simp only [Option.map_some, Option.some.injEq, Prod.mk.injEq] at h2
        obtain ⟨a1, a2, a3⟩ := h2
        rw [a1, bytes_of a2, bytes_of a3]
    · rw [List.head?_drop] at h3
      cases e : s.c.queue[9]? with
      | none => rw [e] at h3; exact nomatch h3
      | some x =>
        rw [e] at h3
        obtain ⟨kind, text, val⟩ := x
        simp only [Option.map_some, Option.some.injEq, Prod.mk.injEq] at h3
        obtain ⟨a1, a2, a3⟩ := h3
        rw [a1, bytes_of a2, bytes_of a3]
theorem lives_spec (hb : RgtOk GOk rightM) (hln : LineOk GOk rightM numReadM) : Triple (BB Ip GOk) 8 0 0 [] [] (fun K => K (.ret (.bool true)) []) := by
  obtain ⟨s, hs, q0, q1, q7, qe, qa⟩ := lives_queue
  have hlt : VecOk true 0 18 18 livesText livesText := ⟨(fun h => nomatch h), Nat.le_refl _, Nat.le_refl _, rfl⟩
  have htx : ∀ ρ, (SV.denL ρ (livesText.map fun b => SV.int .u8 (b.toNat : Nat))).toArray = arrCells encB livesText := fun ρ => by kernel_rfl
  generalize hT : livesText = tx at hs hlt
  refine triple_of BB_ok (tb := ty) rfl (n0 := 0) (fun _ : Unit => _) pl8 Tryz.call8 Tryz.func8 rfl (by kernel_rfl) (Nat.le_of_ble_eq_true rfl) (by decide) rfl pre_none ?_
  rintro G hG K hK W bi bc bs bk bu bb bo bg bl bp bn be Ncond Nob Nop Nloop Nscope hN Nfin hf _ _
  cbv
  refine op_ hN (conv_same ty_ok rfl rfl rfl rfl rfl (xs := livesText) (fun ρ => by kernel_rfl) ?_)
  rw [hT]
  cbv
  refine op_ hN (call_ (decode_spec hb hln true 0 18 18 tx tx hlt (by decide)) hG [0] rfl rfl rfl rfl rfl ?_)
  rw [hs]
  intro p lo len cap xs hv
  obtain ⟨m, ⟨sc, queue, cat, closed, over, err, told⟩⟩ := s
  simp only at q0 q1 q7 qe qa hv
  subst qe qa
  have hvl := hv.length
  have hroom := hv.room
  have hfits := hv.fits
  obtain rfl : len = 11 := by omega
  have hpt : p = true := by
    cases p with
    | true => rfl
    | false => have := hv.pr rfl; omega
  have hget : ∀ i x, i < 11 → queue[i]? = some x → xs[lo + i]? = some x := fun i x hi hx => by
    rw [← hv.eq, List.getElem?_take, if_pos hi, List.getElem?_drop] at hx; exact hx
  have x1 := hget 4 _ (by omega) q1
  have x7 := hget 9 _ (by omega) q7
  have hidx1 : bp lo 4 = lo + 4 := by rw [bp_ hN]; simp
  have hidx7 : bp lo 9 = lo + 9 := by rw [bp_ hN]; simp
  have hc1 : bc .eql 11 11 = true := by rw [ceq hN]; simp
  have hc2 : bc .eql 0 0 = true := by rw [ceq hN]; simp
  have hc3 : bc .eql 18 18 = true := by rw [ceq hN]; simp
  clear hs hlt htx hget q1 q7
  cbv
  refine cond_T hN (by rw [ceq hN]; rfl) ?_
  cbv
  refine ob_ hN ⟨⟨by simp, by simp⟩, hpt, trivial⟩ ?_
  cbv
  refine op_ hN (load_arr ty_ok rfl hpt rfl wideE (Nat.le_of_ble_eq_true rfl) (by rw [hidx1]; omega) ?_)
  intro x2 hx2
  rw [hidx1, x1] at hx2
  obtain rfl := (Option.some.inj hx2).symm
  cbv
  refine op_ hN (eq_ev rfl ?_)
  intro b hb
  have hb2 : b = true := by rw [hb]; decide
  clear hb
  cbv
  refine cond_T hN hb2 ?_
  cbv
  refine ob_ hN ⟨⟨by simp, by simp⟩, hpt, trivial⟩ ?_
  cbv
  refine op_ hN (load_arr ty_ok rfl hpt rfl wideE (Nat.le_of_ble_eq_true rfl) (by rw [hidx7]; omega) ?_)
  intro x3 hx3
  rw [hidx7, x7] at hx3
  obtain rfl := (Option.some.inj hx3).symm
  cbv
  refine op_ hN (eq_ev rfl ?_)
  intro b2 hb
  have hb3 : b2 = true := by rw [hb]; decide
  clear hb
  cbv
  refine cond_T hN hb3 ?_
  cbv
  refine cond_T hN hc2 ?_
  cbv
  rw [show bc .eql (Int.ofNat 18) 18 = true from by rw [ceq hN]; rfl]
  exact hf _ _ (fin_ [] rfl rfl hK)
end Hx
/- SectionsWhole. -/
namespace Hx
open Go Sx Go.Proofs
set_option maxRecDepth 100000
set_option maxHeartbeats 4000000
set_option linter.unusedVariables false
set_option linter.unusedSimpArgs false
variable {GOk : Gl → Prop}
theorem sections_old (hb : RgtOk GOk rightM) (hln : LineOk GOk rightM numReadM) (hn : NumLaw numReadM) (p : Bool) (lo len cap : Nat) (g : Nat) (text : List UInt8) (hlt : text.length = len) (hpr : p = false → len = 0) (hfits : len ≤ cap) (hS : OldB GOk g lo text) :
    Triple (BB Ip GOk) 3 1 1 [.vec p 0 1 lo len cap] [.at_ 0 g] (fun K => K (.ret (.bool true)) [.at_ 0 g]) := by
  refine triple_of BB_ok (tb := ty) rfl (n0 := 1) (fun _ : Unit => _) pl3 Tryz.call3 Tryz.func3 rfl (by kernel_rfl) (Nat.le_of_ble_eq_true rfl) (by decide) rfl pre_none ?_
  rintro G hG K hK W bi bc bs bk bu bb bo bg bl bp bn be Ncond Nob Nop Nloop Nscope hN Nfin hf _ _
  cbv
  refine op_ hN (call_ (few_old p lo len cap g hfits) hG [0] rfl rfl rfl rfl rfl ?_)
  intro m hm
  have hml : (text.take 600).length = m := by rw [List.length_take]; omega
  have hpr2 : p = false → m = 0 := fun h => by have := hpr h; omega
  have hS2 := hS.take 600
  have hm : m ≤ 600 := by omega
  generalize text.take 600 = tx at hS2 hml
  obtain ⟨s, hs, ⟨⟨c, hc, hdone⟩, hok, hat, hfull⟩⟩ := all_law (right := rightM) hn tx (by omega)
  have hwl := whole_law s.c.queue chk0 c 0 hc
  rw [hml] at hat hfull
  cbv
  refine op_ hN (call_ (decode_old hb hln p lo cap m g tx hml hpr2 hS2 (by omega)) hG [0] rfl rfl rfl rfl rfl ?_)
  rw [hs]
  intro p1 lo1 len1 cap1 ys hv1
  obtain ⟨mm, ⟨sc, queue, at_, closed, over, err, told⟩⟩ := s
  simp only at hv1 hc hdone hok hat hfull hwl
  have hql := hv1.length
  rw [hql, Nat.zero_add] at hwl
  have hlen1 : len1 ≤ 4294967296 := by have := hok.2; omega
  cbv
  refine op_ hN (call_ (whole_spec hb p1 lo1 len1 cap1 ys queue hv1 hok.1 hlen1) hG [1] rfl rfl rfl rfl rfl ?_)
  intro i e hie
  rw [hwl] at hie
  obtain ⟨rfl, he⟩ := Prod.mk.inj hie
  clear hie hwl hs hc
  have hc1 : bc .eql (Int.ofNat i) (Int.ofNat i) = true := by rw [ceq hN]; simp
  have hc2 : bc .geq (Int.ofNat at_) 0 = true := by rw [cge hN]; simp
  have hc3 : bc .leq (Int.ofNat at_) (Int.ofNat m) = true := by rw [cle hN]; simp; omega
  cbv
  refine cond_ hN (fun h => ?_) (fun h => ?_)
  · rw [ceq hN] at h
    have h0 : err = 0 := by simpa using h
    have hat2 := hfull h0
    have he0 : e = 0 := by rw [he, if_pos (hdone h0)]
    have hc4 : bc .eql e 0 = true := by rw [ceq hN, he0]; simp
    have hc5 : bc .eql (Int.ofNat at_) (Int.ofNat m) = true := by rw [ceq hN, hat2]; simp
    clear he hdone hfull h h0 hat2 he0 hat
    cbv
    refine cond_T hN hc4 ?_
    cbv
    refine cond_T hN hc1 ?_
    cbv
    refine cond_T hN hc5 ?_
    cbv
    refine op_ hN (call_ (lives_spec hb hln) hG [] rfl rfl rfl rfl rfl ?_)
    cbv
    exact hf _ _ (fin_ [0] rfl rfl hK)
  · clear he hdone hfull h hat
    cbv
    refine cond_T hN hc1 ?_
    cbv
    refine cond_T hN hc2 ?_
    cbv
    refine cond_T hN hc3 ?_
    cbv
    refine op_ hN (call_ (lives_spec hb hln) hG [] rfl rfl rfl rfl rfl ?_)
    cbv
    exact hf _ _ (fin_ [0] rfl rfl hK)
end Hx
/- The parts joined. -/
namespace Hx
open Go Sx Go.Proofs
set_option maxRecDepth 100000
set_option maxHeartbeats 4000000
set_option linter.unusedVariables false
set_option linter.unusedSimpArgs false
variable {GOk : Gl → Prop}
theorem num_law : NumLaw numReadM := ⟨fun x => by have := (numReadM_law x).1; omega, fun x => (numReadM_law x).2⟩
theorem sections_all (hT : GTab GOk) (p : Bool) (lo len cap : Nat) (g : Nat) (text : List UInt8) (hlt : text.length = len) (hpr : p = false → len = 0) (hfits : len ≤ cap) (hS : OldB GOk g lo text) :
    Triple (BB Ip GOk) 3 1 1 [.vec p 0 1 lo len cap] [.at_ 0 g] (fun K => K (.ret (.bool true)) [.at_ 0 g]) :=
  sections_old (right_spec hT) (fun s t ht => line_spec (right_spec hT) (read_ok hT) s t ht) num_law p lo len cap g text hlt hpr hfits hS
end Hx
