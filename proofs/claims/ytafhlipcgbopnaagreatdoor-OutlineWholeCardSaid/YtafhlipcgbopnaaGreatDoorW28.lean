/-
  Part of a proof.
-/
import Derived.Test.YtafhlipcgbopnaaGreatDoorW26
import Derived.Test.YtafhlipcgbopnaaGreatDoorW03
import Derived.Lib.TrimU
import Derived.Test.YtafhlipcgbopnaaGreatDoorW27
import Derived.Test.YtafhlipcgbopnaaGreatDoorW13
import Derived.Test.YtafhlipcgbopnaaGreatDoorW05
import Derived.Laws.StructEq
import Derived.Test.YtafhlipcgbopnaaGreatDoorW23
import Derived.Test.YtafhlipcgbopnaaGreatDoorW20
import Derived.Test.YtafhlipcgbopnaaGreatDoorW16
import Derived.Test.YtafhlipcgbopnaaGreatDoorW18
set_option linter.unusedVariables false
set_option linter.unusedSimpArgs false
/- events.may: src.Runes is gone through in place. -/
namespace Hx
open Go Sx Go.Proofs
set_option maxRecDepth 100000
set_option maxHeartbeats 4000000
set_option linter.unusedVariables false
set_option linter.unusedSimpArgs false
variable {GOk : Gl → Prop}
def mayT (s : ByteArray) : Bool := Lib.validD s.data.toList && decide (s.size ≤ 48)
def encI (x : Int) : List Sx.Lit := [.int .i64 x]
theorem wideI : Wide 1 encI := fun _ => rfl
theorem may_spec (hT : GTab GOk) (s : ByteArray) (hs : s.size < 1099511627776) : Triple (BB Ip GOk) 31 0 0 [.str s] [] (fun K => ∀ b, b = mayT s → K (.ret (.bool b)) []) := by
  refine triple_of BB_ok (tb := ty) rfl (n0 := 0) (fun _ : Unit => _) pl31 Tryz.call31 Tryz.func31 rfl (by kernel_rfl) (Nat.le_of_ble_eq_true rfl) (by decide) rfl pre_none ?_
  rintro G hG K hK W bi bc bs bk bu bb bo bg bl bp bn be Ncond Nob Nop Nloop Nscope hN Nfin hf _ _
  cbv
  refine op_ hN (inline_ BB_ok (tb := ty) rfl pl38 Tryz.call38 Tryz.func38 rfl (by kernel_rfl) (Nat.le_of_ble_eq_true rfl) ?_)
  intro W2 bi2 bc2 bs2 bk2 bu2 bb2 bo2 bg2 bl2 bp2 bn2 be2 Ncond2 Nob2 Nop2 Nloop2 Nscope2 hN2
  cbv
  refine op_ hN2 (call_ (valid_string_spec hT s hs) hG [] rfl rfl rfl rfl rfl ?_)
  intro v hv
  cases v with
  | false =>
    cbv
    refine cond_T hN2 rfl ?_
    cbv
    exact hf _ _ (fin_as (.bool false) (fun _ => rfl) (fin_ [] rfl rfl (hK false (by simp [mayT, ← hv]))))
  | true =>
    cbv
    refine cond_F hN2 rfl ?_
    cbv
    refine op_ hN2 (range_str ty_ok rfl rfl rfl ?_)
    cbv
    refine loopN_ hN2 (loop_ hN2 ty_ok mixed (ι := Nat × Bool × Nat × Nat × Nat × List Int) (fun y => ⟨[(4, .vec y.2.1 1 1 y.2.2.1 y.2.2.2.1 y.2.2.2.2.1), (11, .ptr 0 0)], [.obj 0 (.stringIter s y.1), .arr y.2.1 true 1 3 encI y.2.2.2.2.2], 2⟩)
      (fun y => (y.2.1 = false → y.2.2.2.2.1 = 0) ∧ y.2.2.1 + y.2.2.2.2.1 ≤ y.2.2.2.2.2.length ∧ y.2.2.2.1 ≤ y.2.2.2.2.1 ∧ y.2.2.2.1 ≤ y.1) (fun y => s.size - y.1) ?_ ?_)
    · refine leads_noArr true 1 2 3 encI [] rfl ?_
      refine leads_eset 4 .nilslice (.vec false 1 1 0 0 0) rfl (fun _ => rfl) ?_
      exact Leads.idx (0, false, 0, 0, 0, []) [0, 1] ⟨fun _ => rfl, Nat.le_refl _, Nat.le_refl _, Nat.le_refl _⟩ ⟨⟨rfl, rfl, trivial⟩, rfl, Nat.le_of_ble_eq_true rfl⟩
    rintro ⟨pos, p, lo, len, cap, xs⟩ ⟨h1, h2, h3, h4⟩ Nnext hn _
    simp only at h1 h2 h3 h4
    cbv
    refine op_ hN2 (next_str ty_ok rfl (fun hlt => ?_) (fun hlt => ?_))
    · have hw := Lib.width_pos s pos
      generalize (Utf8.decode s pos).2 = wd at hw ⊢
      generalize (Utf8.decode s pos).1 = r
      obtain ⟨pos2, hpos2⟩ : ∃ x, x = pos + wd := ⟨_, rfl⟩
      rw [← hpos2]
      cbv
      obtain ⟨x, hx⟩ : ∃ x, x = W2 .i64 (Int.ofNat r) := ⟨_, rfl⟩
      rw [← hx]
      refine op_ hN2 (append_vec (new := [x]) (z := 0) ty_ok rfl rfl rfl rfl (fun k => by simp) rfl rfl wideI rfl rfl (src_cells wideI rfl (fun _ _ _ _ => rfl) rfl) h1 h2 h3 (by simp; omega) (by decide) ?_)
      intro p' lo' m' cap' xs' hm' e1 e2 e3 e4
      cbv
      exact hn _ (Leads.nxt (pos2, p', lo', m', cap', xs') [0, 3] ⟨e1, e2, e3, by simp at hm'; simp only; omega⟩ (by simp only; omega) ⟨⟨rfl, rfl, trivial⟩, rfl, Nat.le_of_ble_eq_true rfl⟩)
    · cbv
      exact hf _ _ (fin_ [] rfl rfl (hK _ (by rw [cle hN, len_eq hN]; simp [mayT, ← hv]; omega)))
end Hx
/- num.may, Read. -/
namespace Hx
open Go Sx Go.Proofs
set_option maxRecDepth 100000
set_option maxHeartbeats 4000000
set_option linter.unusedVariables false
set_option linter.unusedSimpArgs false
variable {GOk : Gl → Prop}
theorem numRead0_size {t : ByteArray} {v : NV} (h : numRead0 t = some v) : v.digits.size ≤ 60 := by
  simp only [numRead0] at h
  split at h
  · exact nomatch h
  · rename_i hc
    have h30 : t.size ≤ 30 := by
      simp only [Bool.or_eq_true, decide_eq_true_eq, not_or] at hc; omega
    simp only [Option.some.injEq] at h
    subst h
    split
    · exact Nat.zero_le _
    · simp only [bL, ByteArray.size, List.size_toArray]
      refine Nat.le_trans (trimR_len _ _) (Nat.le_trans (trimL_len _ _) ?_)
      rw [List.length_append]
      have c1 := cut_len (Lib.cut (Lib.toLowerA (Lib.trimPrefix t.data.toList [45])) [101]).1 [46]
      have c2 := cut_len (Lib.toLowerA (Lib.trimPrefix t.data.toList [45])) [101]
      have c3 : (Lib.toLowerA (Lib.trimPrefix t.data.toList [45])).length ≤ 30 := by
        rw [Lib.toLowerA, List.length_map]
        exact Nat.le_trans (trimP_len _ _) (by rw [← Lib.size_eq]; exact h30)
      omega
theorem may_num_spec (hT : GTab GOk) (t : ByteArray) (ht : t.size < 1099511627776) : Triple (BB Ip GOk) 36 0 0 [.str t] [] (fun K => ∀ v e, (v, e) = numMay t → K (.ret (.tuple [nvA v, .int .i64 e])) []) := by
  refine triple_of BB_ok (tb := ty) rfl (n0 := 0) (fun _ : Unit => _) pl36 Tryz.call36 Tryz.func36 rfl (by kernel_rfl) (Nat.le_of_ble_eq_true rfl) (by decide) rfl pre_none ?_
  rintro G hG K hK W bi bc bs bk bu bb bo bg bl bp bn be Ncond Nob Nop Nloop Nscope hN Nfin hf _ _
  cbv
  refine op_ hN (call_ (read_spec0 hT t ht) hG [] rfl rfl rfl rfl rfl ?_)
  have hM : numMay t = (match numRead0 t with
    | none => (nv0, 8)
    | some v => if decide (v.power > 999) || (decide (v.power < -999) || decide ((numForm v).size > 30)) then (nv0, 8) else (v, 0)) := rfl
  have bad : ∀ cs : List (Chunk Pd), numMay t = (nv0, 8) → Nfin (.ret (.tuple [.agg [.ff, .str { data := { toList := [] } }, .int .i64 0], .int .i64 8])) cs := fun cs h =>
    hf _ _ (fin_as (.tuple [nvA nv0, .int .i64 8]) (fun _ => rfl) (fin_ [] rfl rfl (hK nv0 8 h.symm)))
  cases hr : numRead0 t with
  | none =>
    rw [hr] at hM
    simp only at hM ⊢
    cbv
    refine cond_T hN rfl ?_
    cbv
    exact bad _ hM
  | some v =>
    rw [hr] at hM
    have hz := numRead0_size hr
    simp only at hM ⊢
    obtain ⟨below, digits, power⟩ := v
    simp only at hz hM
    cbv
    refine cond_F hN rfl ?_
    cbv
    refine cond_ hN (fun h1 => ?_) (fun h1 => ?_)
    · rw [cgt hN] at h1
      rw [if_pos (by rw [h1]; rfl)] at hM
      cbv
      exact bad _ hM
    · rw [cgt hN] at h1
      rw [h1, Bool.false_or] at hM
      have h1' : ¬ power > 999 := by simpa using h1
      cbv
      refine cond_ hN (fun h2 => ?_) (fun h2 => ?_)
      · rw [clt hN] at h2
        rw [if_pos (by rw [h2]; rfl)] at hM
        cbv
        exact bad _ hM
      · rw [clt hN] at h2
        rw [h2, Bool.false_or] at hM
        have h2' : ¬ power < -999 := by simpa using h2
        cbv
        refine op_ hN (call_ (form_spec hT ⟨below, digits, power⟩ (by simp only; omega) (by simp only; omega)) hG [] rfl rfl rfl rfl rfl ?_)
        intro s hs
        rw [← hs] at hM
        cbv
        refine cond_ hN (fun h3 => ?_) (fun h3 => ?_)
        · rw [cgt hN, len_eq hN] at h3
          have h3' : s.size > 30 := by have : (30 : Int) < (s.size : Int) := by simpa using h3
                                       omega
          rw [if_pos (decide_eq_true h3')] at hM
          cbv
          exact bad _ hM
        · rw [cgt hN, len_eq hN] at h3
          have h3' : ¬ s.size > 30 := by have : ¬ (30 : Int) < (s.size : Int) := by simpa using h3
                                         omega
          rw [if_neg (by simpa using h3')] at hM
          cbv
          exact hf _ _ (fin_as (.tuple [nvA ⟨below, digits, power⟩, .int .i64 0]) (fun _ => rfl) (fin_ [] rfl rfl (hK _ 0 hM.symm)))
theorem numMay_ok {t : ByteArray} {v : NV} (h : numMay t = (v, 0)) : (-1000 ≤ v.power ∧ v.power ≤ 1000) ∧ v.digits.size ≤ 1000 ∧ (numForm v).size ≤ 30 := by
  unfold numMay at h
  cases hr : numRead0 t with
  | none => rw [hr] at h; exact nomatch congrArg Prod.snd h
  | some w =>
    rw [hr] at h
    simp only at h
    split at h
    · exact nomatch congrArg Prod.snd h
    · rename_i hc
      simp only [Prod.mk.injEq, and_true] at h
      subst h
      simp only [Bool.or_eq_true, decide_eq_true_eq, not_or] at hc
      have := numRead0_size hr
      omega
theorem nread_spec (hT : GTab GOk) (t : ByteArray) (ht : t.size < 1099511627776) : Triple (BB Ip GOk) 30 0 0 [.str t] [] (fun K => ∀ r e, (r, e) = numReadM t → K (.ret (.tuple [.str r, .int .i64 e])) []) := by
  refine triple_of BB_ok (tb := ty) rfl (n0 := 0) (fun _ : Unit => _) pl30 Tryz.call30 Tryz.func30 rfl (by kernel_rfl) (Nat.le_of_ble_eq_true rfl) (by decide) rfl pre_none ?_
  rintro G hG K hK W bi bc bs bk bu bb bo bg bl bp bn be Ncond Nob Nop Nloop Nscope hN Nfin hf _ _
  cbv
  refine op_ hN (call_ (may_num_spec hT t ht) hG [] rfl rfl rfl rfl rfl ?_)
  intro v e hv
  have hM : numReadM t = if e ≠ 0 then (⟨#[]⟩, e) else (numForm v, 0) := by simp only [numReadM]; rw [← hv]
  by_cases he : e = 0
  · subst he
    have hok := numMay_ok hv.symm
    rw [if_neg (by simp)] at hM
    obtain ⟨below, digits, power⟩ := v
    cbv
    refine cond_F hN (by rw [cne hN]; rfl) ?_
    cbv
    refine op_ hN (call_ (form_spec hT ⟨below, digits, power⟩ hok.1 hok.2.1) hG [] rfl rfl rfl rfl rfl ?_)
    intro s hs
    rw [← hs] at hM
    cbv
    exact hf _ _ (fin_ [] rfl rfl (hK s 0 hM.symm))
  · rw [if_pos he] at hM
    obtain ⟨below, digits, power⟩ := v
    cbv
    refine cond_T hN (by rw [cne hN]; simpa using he) ?_
    cbv
    exact hf _ _ (fin_ [] rfl rfl (hK ⟨#[]⟩ e hM.symm))
theorem numReadM_law (t : ByteArray) : (numReadM t).1.size ≤ 30 ∧ 0 ≤ (numReadM t).2 := by
  unfold numReadM
  generalize hm : numMay t = y
  obtain ⟨v, e⟩ := y
  simp only
  split
  · refine ⟨Nat.zero_le _, ?_⟩
    simp only
    unfold numMay at hm
    split at hm
    · have := congrArg Prod.snd hm; simp only at this; omega
    · split at hm
      · have := congrArg Prod.snd hm; simp only at this; omega
      · have := congrArg Prod.snd hm; simp only at this; omega
  · rename_i he
    have he : e = 0 := by simpa using he
    subst he
    exact ⟨(numMay_ok hm).2.2, Int.le_refl _⟩
theorem read_ok (hT : GTab GOk) : ReadOk GOk numReadM := ⟨fun x hx => nread_spec hT x (by omega), fun x => by have := (numReadM_law x).1; omega⟩
end Hx
/- Two events held against each other. -/
namespace Hx
open Go Sx Go.Proofs
set_option maxRecDepth 100000
set_option maxHeartbeats 4000000
set_option linter.unusedVariables false
set_option linter.unusedSimpArgs false
variable {GOk : Gl → Prop}
theorem ev_fields : ∃ f0 f1 f2 : Field, (P.fieldsOf 44).toList = [f0, f1, f2] ∧ (f0.name ≠ "_" ∧ f1.name ≠ "_" ∧ f2.name ≠ "_") ∧ (f0.type = 3 ∧ f1.type = 9 ∧ f2.type = 9) ∧ (f0.offset = 0 ∧ f1.offset = 1 ∧ f2.offset = 2) := by
  have h : (P.fieldsOf 44).toList.map (fun f => (f.name, f.type, f.offset)) = [("Kind", 3, 0), ("Text", 9, 1), ("Val", 9, 2)] := by kernel_rfl
  generalize (P.fieldsOf 44).toList = l at h
  rcases l with _ | ⟨f0, _ | ⟨f1, _ | ⟨f2, _ | ⟨f3, l⟩⟩⟩⟩
  · exact nomatch h
  · simp at h
  · simp at h
  · simp only [List.map_cons, List.map_nil, List.cons.injEq, Prod.mk.injEq, and_true] at h
    obtain ⟨⟨a1, a2, a3⟩, ⟨b1, b2, b3⟩, c1, c2, c3⟩ := h
    exact ⟨f0, f1, f2, rfl, ⟨by rw [a1]; decide, by rw [b1]; decide, by rw [c1]; decide⟩, ⟨a2, b2, c2⟩, a3, b3, c3⟩
  · simp at h
theorem part_ (t : Nat) (xs : Array Value) (off : Nat) (v : Value) (w : World) (ht : t = 3 ∨ t = 9) (h : xs[off]? = some v) : (part t xs off).run P w = .ok v w := by
  have hp : P.plainKey t = true := by rcases ht with rfl | rfl <;> kernel_rfl
  exact run_part_plain w hp h
theorem eq_ev {X : Cx Pd} (hP : X.P = P) {a b : Operand} {k k' : Int} {s s' v v' : ByteArray} {type : TypeId} {cs : List (Chunk Pd)} {n : Nat} {cont : Out → List (Chunk Pd) → Nat → Prop}
    (hk : ∀ b : Bool, b = (decide (k = k') && (decide (s = s') && decide (v = v'))) → cont (.ret (.bool b)) cs n) :
    NodeX X (.binOp .eql 44 a b 44) type [.agg [.int .i64 k, .str s, .str v], .agg [.int .i64 k', .str s', .str v']] cs n cont := by
  intro ρ F w ρe o ho _ hvs hs
  obtain ⟨dst, op, ty', pos, after, guard⟩ := o
  simp only at ho; subst ho
  have hab : ρe a = .agg #[.int .i64 k, .string s, .string v] ∧ ρe b = .agg #[.int .i64 k', .string s', .string v'] := by simpa [Op.operands, SV.denL, SV.den] using hvs
  obtain ⟨f0, f1, f2, hf, ⟨n0, n1, n2⟩, ⟨t0, t1, t2⟩, o0, o1, o2⟩ := ev_fields
  have u3 : P.underlying 3 = some (.int .i64) := by kernel_rfl
  have u9 : P.underlying 9 = some .string := by kernel_rfl
  have ut : P.underlying 44 = some (.struct (P.fieldsOf 44)) := by kernel_rfl
  have hh : P.stoodInHeld 44 = false := by kernel_rfl
  have hg : P.eqGuardType P.depth 44 = false := by kernel_rfl
  have he : (Op.equalIn 10000 44 (.agg #[.int .i64 k, .string s, .string v]) (.agg #[.int .i64 k', .string s', .string v'])).run P w = .ok (decide (k = k') && (decide (s = s') && decide (v = v'))) w := by
    rw [run_equalIn_agg (P := P) w 9999 44 _ _ ut hh, hf]
    simp only [Op.eqFields, n0, n1, n2, ne_eq, not_false_eq_true, if_true, Sem.run_bind, t0, t1, t2, o0, o1, o2]
    rw [part_ 3 _ 0 (.int .i64 k) w (.inl rfl) rfl]
    simp only [Result.andThen_ok]
    rw [part_ 3 _ 0 (.int .i64 k') w (.inl rfl) rfl]
    simp only [Result.andThen_ok]
    rw [run_equalIn_int (P := P) w 9998 3 .i64 .i64 k k' u3]
    simp only [Result.andThen_ok, Sem.run_ite, Sem.run_bind, Sem.run_pure]
    rw [part_ 9 _ 1 (.string s) w (.inr rfl) rfl]
    simp only [Result.andThen_ok]
    rw [part_ 9 _ 1 (.string s') w (.inr rfl) rfl]
    simp only [Result.andThen_ok]
    rw [run_equalIn_string (P := P) w 9998 9 s s' u9]
    simp only [Result.andThen_ok, Sem.run_ite, Sem.run_bind, Sem.run_pure]
    rw [part_ 9 _ 2 (.string v) w (.inr rfl) rfl]
    simp only [Result.andThen_ok]
    rw [part_ 9 _ 2 (.string v') w (.inr rfl) rfl]
    simp only [Result.andThen_ok]
    rw [run_equalIn_string (P := P) w 9998 9 v v' u9]
    simp only [Result.andThen_ok, Sem.run_ite, Sem.run_pure]
    have b1 : ∀ x y : ByteArray, (x.toList == y.toList) = decide (x = y) := fun x y => by
      rw [Bool.eq_iff_iff]
      simp only [beq_iff_eq, decide_eq_true_eq]
      constructor
      · intro h
        rw [toList_eq, toList_eq] at h
        cases x; cases y
        simp only [ByteArray.mk.injEq] at h ⊢
        exact Array.toList_inj.1 h
      · rintro rfl; rfl
    rw [b1, b1]
    by_cases h1 : k = k'
    · by_cases h2 : s = s'
      · by_cases h3 : v = v' <;> simp [h1, h2, h3]
      · simp [h1, h2]
    · simp [h1]
  have h2 : (execOp ρe ⟨dst, .binOp .eql 44 a b 44, ty', pos, after, guard⟩).run X.P w = .ok (.value (.bool (decide (k = k') && (decide (s = s') && decide (v = v'))))) w := by
    rw [hP]
    simp only [execOp, hab.1, hab.2, Sem.run_bind, run_eqGuard_agg w .eql 44 a b _ _ hg, Result.andThen_ok, run_eql_struct, he, Sem.run_pure]
  rw [h2]
  exact ⟨.bool _, cs, n, ρ, rfl, Nat.le_refl _, Ext.refl _ _, hs, hk _ rfl⟩
end Hx
/- events.right. -/
namespace Hx
open Go Sx Go.Proofs
set_option maxRecDepth 100000
set_option maxHeartbeats 4000000
set_option linter.unusedVariables false
set_option linter.unusedSimpArgs false
variable {GOk : Gl → Prop}
def rightM (x : Ev) : Bool :=
  if x.kind = 1 ∨ x.kind = 5 ∨ x.kind = 6 ∨ x.kind = 7 ∨ x.kind = 9 ∨ x.kind = 12 then decide (x.text = ⟨#[]⟩) && decide (x.val = ⟨#[]⟩)
  else if x.kind = 2 then decide (x.val = ⟨#[]⟩) && (decide (x.text = wTrue) || decide (x.text = wFalse))
  else if x.kind = 3 then decide (x.val = ⟨#[]⟩) && (decide ((numReadM x.text).2 = 0) && decide ((numReadM x.text).1 = x.text))
  else if x.kind = 4 ∨ x.kind = 8 then decide (x.val = ⟨#[]⟩) && mayT x.text
  else false
theorem right_spec (hT : GTab GOk) (x : Ev) (hx : okE x) : Triple (BB Ip GOk) 17 0 0 [.agg [.int .i64 x.kind, .str x.text, .str x.val]] [] (fun K => ∀ b, b = rightM x → K (.ret (.bool b)) []) := by
  obtain ⟨kind, text, val⟩ := x
  obtain ⟨h1, h2, h10, h11⟩ := hx
  simp only at h1 h2 h10 h11
  refine triple_of BB_ok (tb := ty) rfl (n0 := 0) (fun _ : Unit => _) pl17 Tryz.call17 Tryz.func17 rfl (by kernel_rfl) (Nat.le_of_ble_eq_true rfl) (by decide) rfl pre_none ?_
  rintro G hG K hK W bi bc bs bk bu bb bo bg bl bp bn be Ncond Nob Nop Nloop Nscope hN Nfin hf _ _
  have rA : (kind = 1 ∨ kind = 5 ∨ kind = 6 ∨ kind = 7 ∨ kind = 9 ∨ kind = 12) → rightM ⟨kind, text, val⟩ = (decide (text = ⟨#[]⟩) && decide (val = ⟨#[]⟩)) := fun h => by unfold rightM; exact if_pos h
  cbv
  refine cond_ hN (fun h => ?_) (fun g1 => ?_)
  · rw [ceq hN] at h
    have hk : kind = 1 := by simpa using h
    cbv
    refine op_ hN (eq_ev rfl ?_)
    intro b hb
    cbv
    exact hf _ _ (fin_ [] rfl rfl (hK b (by rw [hb, rA (by simp [hk]), decide_eq_true rfl, Bool.true_and])))
  rw [ceq hN] at g1
  have g1' : kind ≠ 1 := by simpa using g1
  cbv
  refine cond_ hN (fun h => ?_) (fun g5 => ?_)
  · rw [ceq hN] at h
    have hk : kind = 5 := by simpa using h
    cbv
    refine op_ hN (eq_ev rfl ?_)
    intro b hb
    cbv
    exact hf _ _ (fin_ [] rfl rfl (hK b (by rw [hb, rA (by simp [hk]), decide_eq_true rfl, Bool.true_and])))
  rw [ceq hN] at g5
  have g5' : kind ≠ 5 := by simpa using g5
  cbv
  refine cond_ hN (fun h => ?_) (fun g6 => ?_)
  · rw [ceq hN] at h
    have hk : kind = 6 := by simpa using h
    cbv
    refine op_ hN (eq_ev rfl ?_)
    intro b hb
    cbv
    exact hf _ _ (fin_ [] rfl rfl (hK b (by rw [hb, rA (by simp [hk]), decide_eq_true rfl, Bool.true_and])))
  rw [ceq hN] at g6
  have g6' : kind ≠ 6 := by simpa using g6
  cbv
  refine cond_ hN (fun h => ?_) (fun g7 => ?_)
  · rw [ceq hN] at h
    have hk : kind = 7 := by simpa using h
    cbv
    refine op_ hN (eq_ev rfl ?_)
    intro b hb
    cbv
    exact hf _ _ (fin_ [] rfl rfl (hK b (by rw [hb, rA (by simp [hk]), decide_eq_true rfl, Bool.true_and])))
  rw [ceq hN] at g7
  have g7' : kind ≠ 7 := by simpa using g7
  cbv
  refine cond_ hN (fun h => ?_) (fun g9 => ?_)
  · rw [ceq hN] at h
    have hk : kind = 9 := by simpa using h
    cbv
    refine op_ hN (eq_ev rfl ?_)
    intro b hb
    cbv
    exact hf _ _ (fin_ [] rfl rfl (hK b (by rw [hb, rA (by simp [hk]), decide_eq_true rfl, Bool.true_and])))
  rw [ceq hN] at g9
  have g9' : kind ≠ 9 := by simpa using g9
  cbv
  refine cond_ hN (fun h => ?_) (fun g12 => ?_)
  · rw [ceq hN] at h
    have hk : kind = 12 := by simpa using h
    cbv
    refine op_ hN (eq_ev rfl ?_)
    intro b hb
    cbv
    exact hf _ _ (fin_ [] rfl rfl (hK b (by rw [hb, rA (by simp [hk]), decide_eq_true rfl, Bool.true_and])))
  rw [ceq hN] at g12
  have g12' : kind ≠ 12 := by simpa using g12
  cbv
  have rB : ¬ (kind = 1 ∨ kind = 5 ∨ kind = 6 ∨ kind = 7 ∨ kind = 9 ∨ kind = 12) := by simp [g1', g5', g6', g7', g9', g12']
  refine cond_ hN (fun h => ?_) (fun g2 => ?_)
  · rw [ceq hN] at h
    have hk : kind = 2 := by simpa using h
    have hM : rightM ⟨kind, text, val⟩ = (decide (val = ⟨#[]⟩) && (decide (text = wTrue) || decide (text = wFalse))) := by unfold rightM; rw [if_neg rB, if_pos hk]
    rw [hM] at hK
    cbv
    refine cond_ hN (fun h3 => ?_) (fun h3 => ?_)
    · rw [seq_eq hN] at h3
      have h3' : decide (val = ⟨#[]⟩) = true := h3
      rw [h3', Bool.true_and] at hK
      cbv
      refine cond_ hN (fun h4 => ?_) (fun h4 => ?_)
      · rw [seq_eq hN] at h4
        have h4' : decide (text = wTrue) = true := h4
        rw [h4', Bool.true_or] at hK
        cbv
        exact hf _ _ (fin_as (.bool true) (fun _ => rfl) (fin_ [] rfl rfl (hK true rfl)))
      · rw [seq_eq hN] at h4
        have h4' : decide (text = wTrue) = false := h4
        rw [h4', Bool.false_or] at hK
        cbv
        exact hf _ _ (fin_ [] rfl rfl (hK _ (by rw [seq_eq hN]; rfl)))
    · rw [seq_eq hN] at h3
      have h3' : decide (val = ⟨#[]⟩) = false := h3
      rw [h3', Bool.false_and] at hK
      cbv
      exact hf _ _ (fin_as (.bool false) (fun _ => rfl) (fin_ [] rfl rfl (hK false rfl)))
  rw [ceq hN] at g2
  have g2' : kind ≠ 2 := by simpa using g2
  cbv
  refine cond_ hN (fun h => ?_) (fun g3 => ?_)
  · rw [ceq hN] at h
    have hk : kind = 3 := by simpa using h
    have hM : rightM ⟨kind, text, val⟩ = (decide (val = ⟨#[]⟩) && (decide ((numReadM text).2 = 0) && decide ((numReadM text).1 = text))) := by unfold rightM; rw [if_neg rB, if_neg g2', if_pos hk]
    rw [hM] at hK
    cbv
    refine op_ hN (call_ (nread_spec hT text h1) hG [] rfl rfl rfl rfl rfl ?_)
    intro r e hre
    rw [← hre] at hK
    simp only at hK
    cbv
    refine cond_ hN (fun h3 => ?_) (fun h3 => ?_)
    · rw [seq_eq hN] at h3
      have h3' : decide (val = ⟨#[]⟩) = true := h3
      rw [h3', Bool.true_and] at hK
      cbv
      refine cond_ hN (fun h4 => ?_) (fun h4 => ?_)
      · rw [ceq hN] at h4
        rw [h4, Bool.true_and] at hK
        cbv
        exact hf _ _ (fin_ [] rfl rfl (hK _ (by rw [seq_eq hN])))
      · rw [ceq hN] at h4
        rw [h4, Bool.false_and] at hK
        cbv
        exact hf _ _ (fin_as (.bool false) (fun _ => rfl) (fin_ [] rfl rfl (hK false rfl)))
    · rw [seq_eq hN] at h3
      have h3' : decide (val = ⟨#[]⟩) = false := h3
      rw [h3', Bool.false_and] at hK
      cbv
      exact hf _ _ (fin_as (.bool false) (fun _ => rfl) (fin_ [] rfl rfl (hK false rfl)))
  rw [ceq hN] at g3
  have g3' : kind ≠ 3 := by simpa using g3
  cbv
  have txt : (kind = 4 ∨ kind = 8) → rightM ⟨kind, text, val⟩ = (decide (val = ⟨#[]⟩) && mayT text) := fun h => by unfold rightM; rw [if_neg rB, if_neg g2', if_neg g3', if_pos h]
  refine cond_ hN (fun h => ?_) (fun g4 => ?_)
  · rw [ceq hN] at h
    have hk : kind = 4 := by simpa using h
    rw [txt (by simp [hk])] at hK
    cbv
    refine cond_ hN (fun h3 => ?_) (fun h3 => ?_)
    · rw [seq_eq hN] at h3
      have h3' : decide (val = ⟨#[]⟩) = true := h3
      rw [h3', Bool.true_and] at hK
      cbv
      refine op_ hN (call_ (may_spec hT text h1) hG [] rfl rfl rfl rfl rfl ?_)
      intro b hb
      cbv
      exact hf _ _ (fin_ [] rfl rfl (hK b hb))
    · rw [seq_eq hN] at h3
      have h3' : decide (val = ⟨#[]⟩) = false := h3
      rw [h3', Bool.false_and] at hK
      cbv
      exact hf _ _ (fin_as (.bool false) (fun _ => rfl) (fin_ [] rfl rfl (hK false rfl)))
  rw [ceq hN] at g4
  have g4' : kind ≠ 4 := by simpa using g4
  cbv
  refine cond_ hN (fun h => ?_) (fun g8 => ?_)
  · rw [ceq hN] at h
    have hk : kind = 8 := by simpa using h
    rw [txt (by simp [hk])] at hK
    cbv
    refine cond_ hN (fun h3 => ?_) (fun h3 => ?_)
    · rw [seq_eq hN] at h3
      have h3' : decide (val = ⟨#[]⟩) = true := h3
      rw [h3', Bool.true_and] at hK
      cbv
      refine op_ hN (call_ (may_spec hT text h1) hG [] rfl rfl rfl rfl rfl ?_)
      intro b hb
      cbv
      exact hf _ _ (fin_ [] rfl rfl (hK b hb))
    · rw [seq_eq hN] at h3
      have h3' : decide (val = ⟨#[]⟩) = false := h3
      rw [h3', Bool.false_and] at hK
      cbv
      exact hf _ _ (fin_as (.bool false) (fun _ => rfl) (fin_ [] rfl rfl (hK false rfl)))
  rw [ceq hN] at g8
  have g8' : kind ≠ 8 := by simpa using g8
  cbv
  have hM : rightM ⟨kind, text, val⟩ = false := by unfold rightM; rw [if_neg rB, if_neg g2', if_neg g3', if_neg (by simp [g4', g8'])]
  rw [hM] at hK
  refine cond_F hN (by rw [ceq hN]; simpa using h10) ?_
  cbv
  refine cond_F hN (by rw [ceq hN]; simpa using h11) ?_
  cbv
  exact hf _ _ (fin_as (.bool false) (fun _ => rfl) (fin_ [] rfl rfl (hK false rfl)))
end Hx
/- lives. -/
namespace Hx
open Go Sx Go.Proofs
set_option maxRecDepth 100000
set_option maxHeartbeats 4000000
set_option linter.unusedVariables false
set_option linter.unusedSimpArgs false
variable {GOk : Gl → Prop}
def livesText : List UInt8 := [97, 58, 32, 38, 107, 32, 91, 49, 93, 10, 98, 58, 32, 42, 107, 10]
def livesOk (o : Option OS) : Bool := match o with
  | some s => s.c.queue.length == 10 && (s.c.queue.drop 1).head?.map (fun x : Ev => (x.kind, x.text.data.toList, x.val.data.toList)) == some (8, [97], []) && (s.c.queue.drop 7).head?.map (fun x : Ev => (x.kind, x.text.data.toList, x.val.data.toList)) == some (3, [49], []) && s.c.err == 0 && s.c.at_ == 16
  | none => false
theorem lives_model : livesOk (allM rightM numReadM livesText) = true := by kernel_rfl
theorem bytes_of {s : ByteArray} {l : List UInt8} (h : s.data.toList = l) : s = ⟨l.toArray⟩ := by
  cases s; simp only at h; subst h; simp
theorem lives_queue : ∃ s, allM rightM numReadM livesText = some s ∧ s.c.queue.length = 10 ∧ s.c.queue[1]? = some ⟨8, ⟨#[97]⟩, ⟨#[]⟩⟩ ∧ s.c.queue[7]? = some ⟨3, ⟨#[49]⟩, ⟨#[]⟩⟩ ∧ s.c.err = 0 ∧ s.c.at_ = 16 := by
  have h := lives_model
  generalize allM rightM numReadM livesText = o at h
  cases o with
  | none => exact nomatch h
  | some s =>
    simp only [livesOk, Bool.and_eq_true, beq_iff_eq] at h
    obtain ⟨⟨⟨⟨h1, h2⟩, h3⟩, h4⟩, h5⟩ := h
    refine ⟨s, rfl, h1, ?_, ?_, h4, h5⟩
    · rw [List.head?_drop] at h2
      cases e : s.c.queue[1]? with
      | none => rw [e] at h2; exact nomatch h2
      | some x =>
        rw [e] at h2
        obtain ⟨kind, text, val⟩ := x
        simp only [Option.map_some, Option.some.injEq, Prod.mk.injEq] at h2
        obtain ⟨a1, a2, a3⟩ := h2
        rw [a1, bytes_of a2, bytes_of a3]
    · rw [List.head?_drop] at h3
      cases e : s.c.queue[7]? with
      | none => rw [e] at h3; exact nomatch h3
      | some x =>
        rw [e] at h3
        obtain ⟨kind, text, val⟩ := x
        simp only [Option.map_some, Option.some.injEq, Prod.mk.injEq] at h3
        obtain ⟨a1, a2, a3⟩ := h3
        rw [a1, bytes_of a2, bytes_of a3]
theorem lives_spec (hb : Below GOk rightM) (hln : LineOk GOk rightM numReadM) : Triple (BB Ip GOk) 7 0 0 [] [] (fun K => K (.ret (.bool true)) []) := by
  obtain ⟨s, hs, q0, q1, q7, qe, qa⟩ := lives_queue
  have hlt : VecOk true 0 16 16 livesText livesText := ⟨(fun h => nomatch h), Nat.le_refl _, Nat.le_refl _, rfl⟩
  have htx : ∀ ρ, (SV.denL ρ (livesText.map fun b => SV.int .u8 (b.toNat : Nat))).toArray = arrCells encB livesText := fun ρ => by kernel_rfl
  generalize hT : livesText = tx at hs hlt
  refine triple_of BB_ok (tb := ty) rfl (n0 := 0) (fun _ : Unit => _) pl7 Tryz.call7 Tryz.func7 rfl (by kernel_rfl) (Nat.le_of_ble_eq_true rfl) (by decide) rfl pre_none ?_
  rintro G hG K hK W bi bc bs bk bu bb bo bg bl bp bn be Ncond Nob Nop Nloop Nscope hN Nfin hf _ _
  cbv
  refine op_ hN (conv_same ty_ok rfl rfl rfl rfl rfl (xs := livesText) (fun ρ => by kernel_rfl) ?_)
  rw [hT]
  cbv
  refine op_ hN (call_ (decode_spec hb hln true 0 16 16 tx tx hlt (by decide)) hG [0] rfl rfl rfl rfl rfl ?_)
  rw [hs]
  intro p lo len cap xs hv
  obtain ⟨m, ⟨sc, queue, cat, closed, over, err, told⟩⟩ := s
  simp only at q0 q1 q7 qe qa hv
  subst qe qa
  have hvl := hv.length
  have hroom := hv.room
  have hfits := hv.fits
  obtain rfl : len = 10 := by omega
  have hpt : p = true := by
    cases p with
    | true => rfl
    | false => have := hv.pr rfl; omega
  have hget : ∀ i x, i < 10 → queue[i]? = some x → xs[lo + i]? = some x := fun i x hi hx => by
    rw [← hv.eq, List.getElem?_take, if_pos hi, List.getElem?_drop] at hx; exact hx
  have x1 := hget 1 _ (by omega) q1
  have x7 := hget 7 _ (by omega) q7
  have hidx1 : bp lo 1 = lo + 1 := by rw [bp_ hN]; simp
  have hidx7 : bp lo 7 = lo + 7 := by rw [bp_ hN]; simp
  have hc1 : bc .eql 10 10 = true := by rw [ceq hN]; simp
  have hc2 : bc .eql 0 0 = true := by rw [ceq hN]; simp
  have hc3 : bc .eql 16 16 = true := by rw [ceq hN]; simp
  clear hs hlt htx hget q1 q7
  cbv
  refine cond_T hN (by rw [ceq hN]; rfl) ?_
  cbv
  refine ob_ hN ⟨⟨by simp, by simp⟩, hpt, trivial⟩ ?_
  cbv
  refine op_ hN (load_arr ty_ok rfl hpt rfl wideE (Nat.le_of_ble_eq_true rfl) (by rw [hidx1]; omega) ?_)
  intro x2 hx2
  rw [hidx1, x1] at hx2
  obtain rfl := (Option.some.inj hx2).symm
  cbv
  refine op_ hN (eq_ev rfl ?_)
  intro b hb
  have hb2 : b = true := by rw [hb]; decide
  clear hb
  cbv
  refine cond_T hN hb2 ?_
  cbv
  refine ob_ hN ⟨⟨by simp, by simp⟩, hpt, trivial⟩ ?_
  cbv
  refine op_ hN (load_arr ty_ok rfl hpt rfl wideE (Nat.le_of_ble_eq_true rfl) (by rw [hidx7]; omega) ?_)
  intro x3 hx3
  rw [hidx7, x7] at hx3
  obtain rfl := (Option.some.inj hx3).symm
  cbv
  refine op_ hN (eq_ev rfl ?_)
  intro b2 hb
  have hb3 : b2 = true := by rw [hb]; decide
  clear hb
  cbv
  refine cond_T hN hb3 ?_
  cbv
  refine cond_T hN hc2 ?_
  cbv
  rw [show bc .eql (Int.ofNat 16) 16 = true from by rw [ceq hN]; rfl]
  exact hf _ _ (fin_ [] rfl rfl hK)
end Hx
/- few. -/
namespace Hx
open Go Sx Go.Proofs
set_option maxRecDepth 100000
set_option maxHeartbeats 4000000
set_option linter.unusedVariables false
set_option linter.unusedSimpArgs false
variable {GOk : Gl → Prop}
theorem few_old (p : Bool) (lo len cap : Nat) (g : Nat) (hfits : len ≤ cap) :
    Triple (BB Ip GOk) 4 1 1 [.vec p 0 1 lo len cap] [.at_ 0 g] (fun K => ∀ m, m = min len 600 → K (.ret (.vec p 0 1 lo m cap)) [.at_ 0 g]) := by
  refine triple_of BB_ok (tb := ty) rfl (n0 := 1) (fun _ : Unit => _) pl4 Tryz.call4 Tryz.func4 rfl (by kernel_rfl) (Nat.le_of_ble_eq_true rfl) (by decide) rfl pre_none ?_
  rintro G hG K hK W bi bc bs bk bu bb bo bg bl bp bn be Ncond Nob Nop Nloop Nscope hN Nfin hf _ _
  cbv
  refine cond_ hN (fun h => ?_) (fun h => ?_)
  · rw [cgt hN] at h
    simp only [decide_eq_true_eq, decide_eq_false_iff_not, Int.ofNat_eq_natCast, gt_iff_lt, ge_iff_le, Bool.not_eq_true', Bool.not_eq_false', Int.not_lt, Int.not_le] at h
    have hgt : 600 < len := by have : (600 : Int) < (len : Int) := h; omega
    have hb1 : bo lo 0 cap = lo := by rw [bo_ hN]; simp [sloff]
    have hb2 : bg 600 0 = 600 := by rw [bg_ hN]; simp
    have hb3 : bl cap 0 = cap := by rw [bl_ hN]; simp
    cbv
    refine ob_ hN ⟨⟨by simp, by simp, by simp; omega⟩, trivial⟩ ?_
    cbv
    simp only [hb1, hb2, hb3]
    exact hf _ _ (fin_ [0] rfl rfl (hK 600 (by omega)))
  · rw [cgt hN] at h
    simp only [decide_eq_true_eq, decide_eq_false_iff_not, Int.ofNat_eq_natCast, gt_iff_lt, ge_iff_le, Bool.not_eq_true', Bool.not_eq_false', Int.not_lt, Int.not_le] at h
    have hle : len ≤ 600 := by have : (len : Int) ≤ 600 := h; omega
    cbv
    exact hf _ _ (fin_ [0] rfl rfl (hK len (by omega)))
end Hx
/- The model's plain law: positions, errors, what is told. -/
namespace Hx
open Go Sx Go.Proofs
set_option maxRecDepth 100000
set_option maxHeartbeats 4000000
set_option linter.unusedVariables false
set_option linter.unusedSimpArgs false
variable {GOk : Gl → Prop}
/-- what is known of a number's normal form -/
structure NumLaw (numRead : ByteArray → ByteArray × Int) : Prop where
  size : ∀ x, (numRead x).1.size < 1099511627776
  pos : ∀ x, 0 ≤ (numRead x).2
theorem qtAdd_e (q : Qt) (l : List UInt8) : 0 ≤ (qtAdd q l).1 := by
  unfold qtAdd; split <;> simp
theorem qtDigit_e (q : Qt) (b : Int) : 0 ≤ (qtDigit q b).1 := by
  unfold qtDigit; split
  · simp
  · split
    · simp
    · split
      · simp
      · exact qtAdd_e _ _
theorem qtStep_e (q : Qt) (b : Int) : 0 ≤ (qtStep q b).1.2 := by
  unfold qtStep; split
  · simp
  · split
    · exact qtDigit_e q b
    · split
      · split
        · simp
        · split
          · simp
          · exact qtAdd_e _ _
      · split
        · simp
        · split
          · simp
          · split
            · simp
            · exact qtAdd_e _ _
theorem quotGo_e (s : ByteArray) : ∀ (n : Nat) (q : Qt) (k : Nat), s.size - k ≤ n → 0 ≤ (quotGo s q k).2.1 := by
  intro n
  induction n with
  | zero => intro q k hn; rw [quotGo, dif_neg (by omega)]; simp
  | succ n ih =>
    intro q k hn
    rw [quotGo]
    split
    · rename_i hlt
      have hs := qtStep_e q ((s.data[k]'hlt).toNat : Nat)
      generalize qtStep q ((s.data[k]'hlt).toNat : Nat) = y at hs ⊢
      obtain ⟨⟨over, e⟩, q'⟩ := y
      simp only at hs ⊢
      split
      · exact hs
      · split
        · exact Int.le_refl _
        · exact ih q' (k + 1) (by omega)
    · simp
theorem quotR_e (s : ByteArray) (a : Nat) : 0 ≤ (quotR s a).2.1 := by
  unfold quotR; split
  · exact quotGo_e s _ qt0 (a + 1) (Nat.le_refl _)
  · simp
theorem nameGo_e (s : ByteArray) (f : Nat) (p : Bool) (k : Nat) : 0 ≤ (nameGo s f p k).2 := by
  induction k using nameGo.induct s f p with
  | case1 k hc h16 => rw [nameGo, if_pos hc, if_pos h16]; simp
  | case2 k hc h16 ih => rw [nameGo, if_pos hc, if_neg h16]; exact ih
  | case3 hc => rw [nameGo, if_neg hc, if_pos rfl]; simp
  | case4 k hc hk => rw [nameGo, if_neg hc, if_neg hk]; exact Int.le_refl _
theorem nameGo_gt (s : ByteArray) (f : Nat) (p : Bool) (k : Nat) (hk : f ≤ k) (h : (nameGo s f p k).2 = 0) : f < (nameGo s f p k).1 := by
  induction k using nameGo.induct s f p with
  | case1 k hc h16 => rw [nameGo, if_pos hc, if_pos h16] at h; exact absurd h (by simp)
  | case2 k hc h16 ih =>
    rw [nameGo, if_pos hc, if_neg h16] at h ⊢
    exact ih (by omega) h
  | case3 hc => rw [nameGo, if_neg hc, if_pos rfl] at h; exact absurd h (by simp)
  | case4 k hc hk2 => rw [nameGo, if_neg hc, if_neg hk2]; simp only; omega
theorem blanks_ge (s : ByteArray) (a : Nat) : a ≤ blanks s a := by
  induction a using blanks.induct s with
  | case1 a h ih => rw [blanks, if_pos h]; omega
  | case2 a h => rw [blanks, if_neg h]; exact Nat.le_refl _
theorem wordGo_ge (s : ByteArray) : ∀ (l : List UInt8) (k : Nat), k ≤ (wordGo s l k).1
  | [], k => Nat.le_refl _
  | b :: r, k => by
    simp only [wordGo]; split
    · exact Nat.le_of_succ_le (wordGo_ge s r (k + 1))
    · exact Nat.le_refl _
theorem numLoop_ge (s : ByteArray) (f : Nat) : ∀ (n k : Nat), s.size - k ≤ n → k ≤ (numLoop s f k).1 ∧ 0 ≤ (numLoop s f k).2 := by
  intro n
  induction n with
  | zero => intro k hn; rw [numLoop, if_neg (by omega)]; exact ⟨Nat.le_refl _, Int.le_refl _⟩
  | succ n ih =>
    intro k hn
    rw [numLoop]
    split
    · split
      · split
        · exact ⟨Nat.le_refl _, by simp⟩
        · have := ih (k + 1) (by omega); exact ⟨by omega, this.2⟩
      · exact ⟨Nat.le_refl _, Int.le_refl _⟩
    · exact ⟨Nat.le_refl _, Int.le_refl _⟩
section
variable {right : Ev → Bool} {numRead : ByteArray → ByteArray × Int}
theorem numberR_law (hn : NumLaw numRead) (t : ByteArray) (a : Nat) : a ≤ (numberR numRead t a).1 ∧ 0 ≤ (numberR numRead t a).2.1 ∧ (numberR numRead t a).2.2.size < 1099511627776 := by
  have h := numLoop_ge t a _ a (Nat.le_refl _)
  unfold numberR; split
  · exact ⟨h.1, h.2, Nat.le_of_ble_eq_true rfl⟩
  · split
    · exact ⟨h.1, hn.pos _, hn.size _⟩
    · exact ⟨h.1, by simp, Nat.le_of_ble_eq_true rfl⟩
theorem bytesOf_size (l : List UInt8) : (bytesOf l).size = l.length := by simp [bytesOf, ByteArray.size]
theorem okE_of {k : Int} {s : ByteArray} (h : s.size < 1099511627776) (h1 : k ≠ 10) (h2 : k ≠ 11) : okE ⟨k, s, ⟨#[]⟩⟩ := ⟨h, Nat.le_of_ble_eq_true rfl, h1, h2⟩
theorem scalarR_law (hn : NumLaw numRead) {t : ByteArray} {a : Nat} {nl : Bool} {k : Nat} {e : Int} {x : Ev} (ha : a ≤ t.size) (h : scalarR numRead t a nl = some (k, e, x)) : k ≤ t.size ∧ a ≤ k ∧ 0 ≤ e ∧ okE x := by
  refine ⟨scalarR_le ha h, ?_⟩
  unfold scalarR at h
  split at h
  · split at h
    · simp only [Option.some.injEq, Prod.mk.injEq] at h
      obtain ⟨rfl, rfl, rfl⟩ := h
      exact ⟨quotR_ge t a, quotR_e t a, okE_of (by rw [bytesOf_size]; have := quotR_le t a; omega) (by simp) (by simp)⟩
    · split at h
      · simp only [Option.some.injEq, Prod.mk.injEq] at h
        obtain ⟨rfl, rfl, rfl⟩ := h
        have := numberR_law hn t a
        exact ⟨this.1, this.2.1, okE_of this.2.2 (by simp) (by simp)⟩
      · split at h
        · simp only [Option.some.injEq, Prod.mk.injEq] at h
          obtain ⟨rfl, rfl, rfl⟩ := h
          exact ⟨wordGo_ge t _ a, by split <;> simp, okE0 1 (by simp) (by simp)⟩
        · split at h
          · simp only [Option.some.injEq, Prod.mk.injEq] at h
            obtain ⟨rfl, rfl, rfl⟩ := h
            exact ⟨wordGo_ge t _ a, by split <;> simp, okE_of (Nat.le_of_ble_eq_true rfl) (by simp) (by simp)⟩
          · split at h
            · simp only [Option.some.injEq, Prod.mk.injEq] at h
              obtain ⟨rfl, rfl, rfl⟩ := h
              exact ⟨wordGo_ge t _ a, by split <;> simp, okE_of (Nat.le_of_ble_eq_true rfl) (by simp) (by simp)⟩
            · exact nomatch h
  · exact nomatch h
/-- a checker goes through events, which all may be -/
def stepsC (right : Ev → Bool) : Chk → List Ev → Option Chk
  | c, [] => some c
  | c, x :: r => if (chkStep right c x).1 = 0 then stepsC right (chkStep right c x).2 r else none
theorem stepsC_snoc {x : Ev} : ∀ {l : List Ev} {c c1 : Chk}, stepsC right c l = some c1 → (chkStep right c1 x).1 = 0 → stepsC right c (l ++ [x]) = some (chkStep right c1 x).2
  | [], c, c1, h, hx => by
    simp only [stepsC, Option.some.injEq] at h; subst h
    simp only [List.nil_append, stepsC]; rw [if_pos hx]
  | y :: r, c, c1, h, hx => by
    simp only [stepsC, List.cons_append] at h ⊢
    split at h
    · rename_i hy; rw [if_pos hy]; exact stepsC_snoc h hx
    · exact nomatch h
/-- what is told: right events, not too many -/
def QOk (l : List Ev) : Prop := (∀ x ∈ l, okE x) ∧ l.length ≤ 4294967296
structure Good (right : Ev → Bool) (s : OS) : Prop where
  st : stepsC right chk0 s.c.queue = some s.m.chk
  ok : QOk s.c.queue
  kp : ∀ y ∈ s.m.anc.kept, ∀ x ∈ y.2.list, okE x
  td : s.m.anc.told ≤ 40
structure Half (right : Ev → Bool) (s : OS) : Prop where
  st : ∃ c, stepsC right chk0 s.c.queue = some c
  ok : QOk s.c.queue
theorem Good.half {s : OS} (h : Good right s) : Half right s := ⟨⟨_, h.st⟩, h.ok⟩
/-- what a line's reading leaves alone -/
def Fr (s s' : OS) : Prop := s'.m.ahead = s.m.ahead ∧ s'.m.line = s.m.line ∧ s'.c.scan = s.c.scan ∧ s'.c.at_ = s.c.at_ ∧ s'.c.closed = s.c.closed ∧ s'.c.over = s.c.over ∧ s'.c.err = s.c.err ∧ s'.c.told = s.c.told
theorem Fr.refl (s : OS) : Fr s s := ⟨rfl, rfl, rfl, rfl, rfl, rfl, rfl, rfl⟩
theorem Fr.trans {a b c : OS} (h : Fr a b) (g : Fr b c) : Fr a c :=
  ⟨g.1.trans h.1, g.2.1.trans h.2.1, g.2.2.1.trans h.2.2.1, g.2.2.2.1.trans h.2.2.2.1, g.2.2.2.2.1.trans h.2.2.2.2.1, g.2.2.2.2.2.1.trans h.2.2.2.2.2.1, g.2.2.2.2.2.2.1.trans h.2.2.2.2.2.2.1, g.2.2.2.2.2.2.2.trans h.2.2.2.2.2.2.2⟩
/-- what can still be told, counted the other way round -/
def pot (s : OS) : Nat := s.c.queue.length + (40 - s.m.anc.told) + s.m.opn.length
def RP {α : Type} (right : Ev → Bool) (s : OS) (hi : Nat) (Q : α → OS → Prop) : Res α × OS → Prop
  | (.ok a, s') => Good right s' ∧ Fr s s' ∧ Q a s'
  | (.err e p, s') => Half right s' ∧ Fr s s' ∧ 0 < e ∧ 0 ≤ p ∧ p ≤ (hi : Int)
  | (.ovf, _) => False
theorem RP.bind {α β : Type} {s : OS} {hi : Nat} {Q1 : α → OS → Prop} {Q : β → OS → Prop} {x : OM α} {f : α → OM β} (h : RP right s hi Q1 (x s))
    (hf : ∀ a s1, Good right s1 → Fr s s1 → Q1 a s1 → RP right s1 hi Q (f a s1)) : RP right s hi Q (OM.bind x f s) := by
  unfold OM.bind
  generalize x s = y at h ⊢
  obtain ⟨r, s1⟩ := y
  cases r with
  | ok a =>
    have h2 := hf a s1 h.1 h.2.1 h.2.2
    simp only
    generalize f a s1 = z at h2 ⊢
    obtain ⟨r2, s2⟩ := z
    cases r2 with
    | ok b => exact ⟨h2.1, h.2.1.trans h2.2.1, h2.2.2⟩
    | err e p => exact ⟨h2.1, h.2.1.trans h2.2.1, h2.2.2⟩
    | ovf => exact h2.elim
  | err e p => exact h
  | ovf => exact h.elim
theorem RP.mono {α : Type} {s : OS} {hi : Nat} {Q Q' : α → OS → Prop} {y : Res α × OS} (h : RP right s hi Q y) (hq : ∀ a s', Q a s' → Q' a s') : RP right s hi Q' y := by
  obtain ⟨r, s1⟩ := y
  cases r with
  | ok a => exact ⟨h.1, h.2.1, hq _ _ h.2.2⟩
  | err e p => exact h
  | ovf => exact h.elim
theorem RP.ret {α : Type} {s : OS} {hi : Nat} {Q : α → OS → Prop} {a : α} (hg : Good right s) (h : Q a s) : RP right s hi Q (OM.ret a s) := ⟨hg, Fr.refl s, h⟩
theorem RP.fail {α : Type} {s : OS} {hi : Nat} {Q : α → OS → Prop} {e p : Int} (hg : Good right s) (he : 0 < e) (h0 : 0 ≤ p) (h1 : p ≤ (hi : Int)) : RP right s hi Q ((.err e p, s) : Res α × OS) := ⟨hg.half, Fr.refl s, he, h0, h1⟩
theorem chkStep_e (c : Chk) (x : Ev) : 0 ≤ (chkStep right c x).1 := by
  have hnm : ∀ o : Opn, 0 ≤ (opnNamed o x).1 := by intro o; unfold opnNamed; split <;> (try split) <;> simp
  unfold chkStep
  split
  · simp
  · split
    · split <;> simp
    · split
      · split
        · simp
        · split <;> simp
      · split
        · simp
        · split
          · split
            · simp
            · exact hnm _
          · split
            · split
              · simp
              · exact hnm _
            · split <;> simp
theorem ancStep_law (a : Anc) (x : Ev) (hx : okE x) (hk : ∀ y ∈ a.kept, ∀ z ∈ y.2.list, okE z) : 0 ≤ (ancStep right a x).1 ∧ (ancStep right a x).2.told = a.told ∧ ∀ y ∈ (ancStep right a x).2.kept, ∀ z ∈ y.2.list, okE z := by
  unfold ancStep
  split
  · split
    · exact ⟨by simp, rfl, hk⟩
    · refine ⟨Int.le_refl _, rfl, fun y hy z hz => ?_⟩
      simp only [List.mem_map] at hy
      obtain ⟨y0, hy0, rfl⟩ := hy
      split at hz
      · exact hk y0 hy0 z hz
      · simp only [List.mem_append, List.mem_singleton] at hz
        rcases hz with hz | rfl
        · exact hk y0 hy0 z hz
        · exact hx
  · exact ⟨by simp, rfl, hk⟩
theorem ancOpen_law (a : Anc) (name : ByteArray) (hk : ∀ y ∈ a.kept, ∀ z ∈ y.2.list, okE z) : 0 ≤ (ancOpen a name).1 ∧ (ancOpen a name).2.told = a.told ∧ ∀ y ∈ (ancOpen a name).2.kept, ∀ z ∈ y.2.list, okE z := by
  unfold ancOpen
  split
  · exact ⟨by simp, rfl, hk⟩
  · split
    · exact ⟨by simp, rfl, hk⟩
    · split
      · exact ⟨by simp, rfl, hk⟩
      · refine ⟨Int.le_refl _, rfl, fun y hy z hz => ?_⟩
        simp only [List.mem_append, List.mem_singleton] at hy
        rcases hy with hy | rfl
        · exact hk y hy z hz
        · exact nomatch hz
theorem ancHas_mem {l : List (ByteArray × Kpt)} {s : ByteArray} {k : Kpt} (h : ancHas l s = some k) : ∃ y ∈ l, y.2 = k := by
  unfold ancHas at h
  cases hf : l.find? fun y => decide (y.1 = s) with
  | none => rw [hf] at h; exact nomatch h
  | some y => rw [hf] at h; exact ⟨y, List.mem_of_find?_eq_some hf, by simpa using h⟩
theorem ancGet_law (a : Anc) (name : ByteArray) (hk : ∀ y ∈ a.kept, ∀ z ∈ y.2.list, okE z) : 0 ≤ (ancGet a name).1.2 ∧ (∀ z ∈ (ancGet a name).1.1, okE z) ∧ (ancGet a name).2.told = a.told + (ancGet a name).1.1.length ∧ (ancGet a name).2.kept = a.kept ∧ (a.told ≤ 40 → (ancGet a name).2.told ≤ 40) := by
  unfold ancGet
  split
  · exact ⟨by simp, (fun z hz => nomatch hz), rfl, rfl, id⟩
  · rename_i k hs
    obtain ⟨y, hy, rfl⟩ := ancHas_mem hs
    split
    · exact ⟨by simp, (fun z hz => nomatch hz), rfl, rfl, id⟩
    · split
      · exact ⟨by simp, (fun z hz => nomatch hz), rfl, rfl, id⟩
      · rename_i h40
        exact ⟨Int.le_refl _, hk y hy, rfl, rfl, fun _ => by simp only; omega⟩
theorem says_law {s : OS} {x : Ev} {p : Int} {hi : Nat} (hg : Good right s) (hx : okE x) (hq : pot s < 4294967296) (h0 : 0 ≤ p) (h1 : p ≤ (hi : Int)) :
    RP right s hi (fun _ s' => pot s' = pot s + 1 ∧ s'.m.opn = s.m.opn ∧ s'.m.waits = s.m.waits ∧ s'.m.anc.told = s.m.anc.told) (saysM right x p s) := by
  have ha := ancStep_law (right := right) s.m.anc x hx hg.kp
  have hc := chkStep_e (right := right) s.m.chk x
  unfold saysM
  split
  · rename_i h
    exact ⟨⟨⟨_, hg.st⟩, hg.ok⟩, Fr.refl _, by omega, h0, h1⟩
  · rename_i hz
    split
    · rename_i h
      exact ⟨⟨⟨_, hg.st⟩, hg.ok⟩, Fr.refl _, by have := ha.1; omega, h0, h1⟩
    · split
      · rename_i h; exact absurd h (by simp only [pot] at hq; omega)
      · refine ⟨⟨stepsC_snoc hg.st (by simpa using hz), ?_, ha.2.2, by simp only; rw [ha.2.1]; exact hg.td⟩, Fr.refl _, ?_, rfl, rfl, ha.2.1⟩
        · refine ⟨fun y hy => ?_, ?_⟩
          · simp only [List.mem_append, List.mem_singleton] at hy
            rcases hy with hy | rfl
            · exact hg.ok.1 y hy
            · exact hx
          · simp only [pot] at hq
            simp only [List.length_append, List.length_singleton]; omega
        · simp only [pot, List.length_append, List.length_singleton]; rw [ha.2.1]; omega
theorem saysL_law {p : Int} {hi : Nat} (h0 : 0 ≤ p) (h1 : p ≤ (hi : Int)) : ∀ (l : List Ev) (s : OS), Good right s → (∀ x ∈ l, okE x) → pot s + l.length < 4294967296 →
    RP right s hi (fun _ s' => pot s' = pot s + l.length ∧ s'.m.opn = s.m.opn ∧ s'.m.waits = s.m.waits) (saysL right l p s)
  | [], s, hg, _, _ => RP.ret hg ⟨rfl, rfl, rfl⟩
  | x :: r, s, hg, hx, hq => by
    simp only [saysL]
    simp only [List.length_cons] at hq
    refine RP.bind (says_law hg (hx x (List.mem_cons_self ..)) (by omega) h0 h1) fun _ s1 g1 f1 q1 => ?_
    refine (saysL_law h0 h1 r s1 g1 (fun y hy => hx y (List.mem_cons_of_mem _ hy)) (by omega)).mono fun _ s' q => ⟨?_, q.2.1.trans q1.2.1, q.2.2.trans q1.2.2.1⟩
    have := q.1; have := q1.1
    simp only [List.length_cons]; omega
 end
end Hx
/- The model's plain law: what a line's reading tells. -/
namespace Hx
open Go Sx Go.Proofs
set_option maxRecDepth 100000
set_option maxHeartbeats 4000000
set_option linter.unusedVariables false
set_option linter.unusedSimpArgs false
variable {GOk : Gl → Prop}
section
variable {right : Ev → Bool} {numRead : ByteArray → ByteArray × Int}
theorem quotR_gt (s : ByteArray) (a : Nat) (h : (quotR s a).2.1 = 0) : a < (quotR s a).1 := by
  unfold quotR at h ⊢; split
  · exact quotGo_ge s _ qt0 (a + 1) (Nat.le_refl _)
  · rename_i hi; rw [if_neg hi] at h; exact absurd h (by simp)
theorem pred_pos {k S : Nat} (h : 0 < k) (hk : k ≤ S) : 0 ≤ Int.ofNat k - 1 ∧ Int.ofNat k - 1 ≤ (S : Int) := by
  simp only [Int.ofNat_eq_natCast]; omega
theorem nat_pos {k S : Nat} (hk : k ≤ S) : 0 ≤ Int.ofNat k ∧ Int.ofNat k ≤ (S : Int) := by
  simp only [Int.ofNat_eq_natCast]; omega
theorem must_law {t : ByteArray} {b : Int} {a : Nat} {s : OS} (hg : Good right s) (ha : a ≤ t.size) : RP right s t.size (fun k s' => k = a + 1 ∧ k ≤ t.size ∧ s' = s) (mustM t b a s) := by
  unfold mustM; split
  · rename_i h; exact ⟨hg, Fr.refl _, rfl, isB_lt h, rfl⟩
  · exact RP.fail hg (by simp) (nat_pos ha).1 (nat_pos ha).2
/-- a flow value's post: where it ends, what it told -/
def FQ (t : ByteArray) (a : Nat) (s : OS) (k : Nat) (s' : OS) : Prop := a ≤ k ∧ k ≤ t.size ∧ pot s' ≤ pot s + 2 * (k - a) + 1 ∧ s'.m.opn = s.m.opn
theorem ref_law {t : ByteArray} {a : Nat} {s : OS} (hg : Good right s) (ha : a < t.size) (hq : pot s + 2 * (t.size - a) + 10 ≤ 4294967296) : RP right s t.size (FQ t a s) (refM right t a s) := by
  have hp := nameGo_le t (a + 1) true (a + 1) ha
  have he := nameGo_e t (a + 1) true (a + 1)
  unfold refM
  generalize nameGo t (a + 1) true (a + 1) = z at hp he ⊢
  obtain ⟨k, e0⟩ := z
  simp only at hp he ⊢
  split
  · exact RP.fail hg (by omega) (nat_pos hp.1).1 (nat_pos hp.1).2
  · have hl := ancGet_law s.m.anc (subs t (Int.ofNat (a + 1)) (Int.ofNat k)) hg.kp
    generalize ancGet s.m.anc (subs t (Int.ofNat (a + 1)) (Int.ofNat k)) = y at hl ⊢
    obtain ⟨⟨l, e⟩, anc'⟩ := y
    simp only at hl ⊢
    have hpp := pred_pos (k := k) (S := t.size) (by omega) hp.1
    split
    · exact ⟨⟨⟨_, hg.st⟩, hg.ok⟩, Fr.refl _, by omega, hpp.1, hpp.2⟩
    · have hg1 : Good right { s with m := { s.m with anc := anc' } } := ⟨hg.st, hg.ok, by simp only; rw [hl.2.2.2.1]; exact hg.kp, hl.2.2.2.2 hg.td⟩
      have hpot : pot { s with m := { s.m with anc := anc' } } + l.length = pot s := by
        have := hl.2.2.2.2 hg.td; have := hl.2.2.1; simp only [pot]; omega
      have hb : RP right { s with m := { s.m with anc := anc' } } t.size (FQ t a s) (OM.bind (saysL right l (Int.ofNat k - 1)) (fun _ => OM.ret k) { s with m := { s.m with anc := anc' } }) := by
        refine RP.bind (saysL_law hpp.1 hpp.2 l _ hg1 hl.2.1 (by omega)) fun _ s1 g1 f1 q1 => RP.ret g1 ⟨by omega, hp.1, ?_, q1.2.1⟩
        have := q1.1; omega
      generalize OM.bind (saysL right l (Int.ofNat k - 1)) (fun _ => OM.ret k) { s with m := { s.m with anc := anc' } } = w at hb ⊢
      obtain ⟨r, s2⟩ := w
      cases r with
      | ok b => exact hb
      | err e p => exact hb
      | ovf => exact hb
def FlowLaw (right : Ev → Bool) (numRead : ByteArray → ByteArray × Int) (n : Nat) : Prop := ∀ (t : ByteArray) (a : Nat) (s : OS), a ≤ t.size → Good right s → pot s + 2 * (t.size - a) + 10 ≤ 4294967296 → 4 * (t.size + 2 - a) ≤ n → RP right s t.size (FQ t a s) (flowM right numRead t n a s)
def RowLaw (right : Ev → Bool) (numRead : ByteArray → ByteArray × Int) (n : Nat) : Prop := ∀ (t : ByteArray) (a : Nat) (kind last fin : Int) (s : OS), a < t.size → (kind = 5 ∨ kind = 7) → (fin = 6 ∨ fin = 9) → Good right s → pot s + 2 * (t.size - a) + 10 ≤ 4294967296 → 4 * (t.size + 2 - a) ≤ n + 1 → RP right s t.size (FQ t a s) (rowM right numRead t n a kind last fin s)
def GoLaw (right : Ev → Bool) (numRead : ByteArray → ByteArray × Int) (n : Nat) : Prop := ∀ (t : ByteArray) (a : Nat) (kind last : Int) (s : OS), a ≤ t.size → t.size < 1000000 → Good right s → pot s + 2 * (t.size - a) + 10 ≤ 4294967296 → 4 * (t.size + 2 - a) + 1 ≤ n → RP right s t.size (fun k s' => isB t k last = true ∧ FQ t a s k s') (rowGo right numRead t n a kind last s)
theorem okE0' {k : Int} (h1 : k ≠ 10) (h2 : k ≠ 11) : okE (ev0 k) := okE0 k h1 h2
theorem flow_law_all (hn : NumLaw numRead) : ∀ n, (∀ (t : ByteArray) (a : Nat) (s : OS), t.size < 1000000 → a ≤ t.size → Good right s → pot s + 2 * (t.size - a) + 10 ≤ 4294967296 → 4 * (t.size + 2 - a) ≤ n → RP right s t.size (FQ t a s) (flowM right numRead t n a s)) ∧
    (∀ (t : ByteArray) (a : Nat) (kind last fin : Int) (s : OS), t.size < 1000000 → a < t.size → (kind = 5 ∨ kind = 7) → (fin = 6 ∨ fin = 9) → Good right s → pot s + 2 * (t.size - a) + 10 ≤ 4294967296 → 4 * (t.size + 2 - a) ≤ n + 1 → RP right s t.size (FQ t a s) (rowM right numRead t n a kind last fin s)) ∧ GoLaw right numRead n := by
  intro n
  induction n with
  | zero =>
    refine ⟨fun t a s _ ha _ _ hf => ?_, fun t a kind last fin s _ ha _ _ _ _ hf => ?_, fun t a kind last s ha _ _ _ hf => ?_⟩ <;> omega
  | succ n ih =>
    obtain ⟨ih1, ih2, ih3⟩ := ih
    refine ⟨fun t a s ht ha hg hq hf => ?_, fun t a kind last fin s ht ha hki hfi hg hq hf => ?_, fun t a kind last s ha ht hg hq hf => ?_⟩
    · rw [flowM]
      split
      · rename_i hi; exact ref_law hg (isB_lt hi) hq
      · split
        · rename_i hi; exact ih2 t a _ _ _ s ht (isB_lt hi) (.inl rfl) (.inl rfl) hg hq hf
        · split
          · rename_i hi; exact ih2 t a _ _ _ s ht (isB_lt hi) (.inr rfl) (.inr rfl) hg hq hf
          · generalize hs : scalarR numRead t a true = o
            cases o with
            | none => exact RP.fail hg (by simp) (nat_pos ha).1 (nat_pos ha).2
            | some y =>
              obtain ⟨k, e, x⟩ := y
              have hl := scalarR_law hn ha hs
              simp only
              split
              · exact RP.fail hg (by have := hl.2.2.1; omega) (nat_pos hl.1).1 (nat_pos hl.1).2
              · have hk1 : 0 < k := by
                  have hlt : a < t.size := by
                    refine Nat.lt_of_not_le fun h => ?_
                    unfold scalarR at hs; rw [if_neg (by omega)] at hs; exact nomatch hs
                  rename_i he
                  have he : e = 0 := by simpa using he
                  subst he
                  refine Nat.lt_of_not_le fun h => ?_
                  have hk0 : k = 0 := by omega
                  have ha0 : a = 0 := by omega
                  subst hk0 ha0
                  unfold scalarR at hs
                  rw [if_pos hlt] at hs
                  split at hs
                  · simp only [Option.some.injEq, Prod.mk.injEq] at hs
                    have := quotR_gt t 0 hs.2.1; omega
                  · split at hs
                    · simp only [Option.some.injEq, Prod.mk.injEq] at hs
                      obtain ⟨h1, h2, -⟩ := hs
                      have h3 : (numLoop t 0 0).1 = 0 := by
                        revert h1; unfold numberR; split
                        · exact id
                        · split <;> exact id
                      revert h2; unfold numberR; split
                      · rename_i hx; intro h2; exact absurd h2 hx
                      · rw [h3]
                        have hsub : subs t (Int.ofNat 0) (Int.ofNat 0) = ⟨#[]⟩ := by
                          simp only [subs]
                          have hz : (t.extract (Int.ofNat 0).toNat (Int.ofNat 0).toNat).size = 0 := by simp [ByteArray.size_extract]
                          generalize t.extract (Int.ofNat 0).toNat (Int.ofNat 0).toNat = u at hz ⊢
                          cases u; simp only [ByteArray.mk.injEq]; exact Array.eq_empty_of_size_eq_zero hz
                        rw [hsub, if_neg (by decide)]
                        intro h2; exact absurd h2 (by simp)
                    · have hw : ∀ w : ByteArray, w.data.toList ≠ [] → (wordGo t w.data.toList 0).1 = 0 → (wordGo t w.data.toList 0).2 = true → False := by
                        intro w hw h1 h2
                        cases hl : w.data.toList with
                        | nil => exact hw hl
                        | cons b r =>
                          rw [hl] at h1 h2
                          simp only [wordGo] at h1 h2
                          split at h1
                          · have := wordGo_ge t r (0 + 1); omega
                          · rename_i hc; rw [if_neg hc] at h2; exact absurd h2 (by simp)
                      split at hs
                      · simp only [Option.some.injEq, Prod.mk.injEq] at hs
                        refine hw wNull (by simp [wNull]) hs.1 ?_
                        have := hs.2.1; split at this
                        · assumption
                        · exact absurd this (by simp)
                      · split at hs
                        · simp only [Option.some.injEq, Prod.mk.injEq] at hs
                          refine hw wTrue (by simp [wTrue]) hs.1 ?_
                          have := hs.2.1; split at this
                          · assumption
                          · exact absurd this (by simp)
                        · split at hs
                          · simp only [Option.some.injEq, Prod.mk.injEq] at hs
                            refine hw wFalse (by simp [wFalse]) hs.1 ?_
                            have := hs.2.1; split at this
                            · assumption
                            · exact absurd this (by simp)
                          · exact nomatch hs
                have hpp := pred_pos hk1 hl.1
                refine RP.bind (says_law hg hl.2.2.2 (by omega) hpp.1 hpp.2) fun _ s1 g1 f1 q1 => RP.ret g1 ⟨hl.2.1, hl.1, ?_, q1.2.1⟩
                have := q1.1; omega
    · rw [rowM]
      have hb1 := blanks_ge t (a + 1)
      have hb2 := blanks_le t (a + 1) ha
      have hka : kind ≠ 10 ∧ kind ≠ 11 := by rcases hki with rfl | rfl <;> simp
      have hfa : fin ≠ 10 ∧ fin ≠ 11 := by rcases hfi with rfl | rfl <;> simp
      refine RP.bind (says_law hg (okE0' hka.1 hka.2) (by omega) (nat_pos (Nat.le_of_lt ha)).1 (nat_pos (Nat.le_of_lt ha)).2) fun _ s1 g1 f1 q1 => ?_
      generalize blanks t (a + 1) = b at hb1 hb2 ⊢
      have q11 := q1.1
      refine RP.bind (Q1 := fun k s' => isB t k last = true ∧ FQ t b s1 k s') ?_ fun k s2 g2 f2 q2 => ?_
      · split
        · rename_i hi; exact RP.ret g1 ⟨hi, Nat.le_refl _, hb2, by omega, rfl⟩
        · exact ih3 t b kind last s1 hb2 ht g1 (by omega) (by omega)
      · have hk := isB_lt q2.1
        obtain ⟨q2a, q2b, q2c, q2d⟩ := q2.2
        refine RP.bind (says_law g2 (okE0' hfa.1 hfa.2) (by omega) (nat_pos q2b).1 (nat_pos q2b).2) fun _ s3 g3 f3 q3 => RP.ret g3 ⟨by omega, hk, ?_, by rw [q3.2.1, q2d, q1.2.1]⟩
        have := q3.1; omega
    · rw [rowGo]
      refine RP.bind (Q1 := fun a1 s' => a ≤ a1 ∧ a1 ≤ t.size ∧ pot s' ≤ pot s + 2 * (a1 - a) ∧ s'.m.opn = s.m.opn) ?_ fun a1 s1 g1 f1 q1 => ?_
      · split
        · refine RP.bind (Q1 := fun kl s' => s' = s ∧ a < kl.1 ∧ kl.1 ≤ t.size ∧ kl.2.size < 1099511627776) ?_ fun kl s1 g1 f1 q1 => ?_
          · have h1 := quotR_pos t a ha
            have h2 := quotR_e t a
            have h3 := quotR_gt t a
            have h4 := quotR_le t a
            split
            · rename_i h; exact ⟨hg, Fr.refl _, rfl, h3 h, h1, by rw [bytesOf_size]; omega⟩
            · exact RP.fail hg (by omega) (nat_pos h1).1 (nat_pos h1).2
          · obtain ⟨rfl, q2, q3, q4⟩ := q1
            have hpp := pred_pos (k := kl.1) (S := t.size) (by omega) q3
            refine RP.bind (says_law g1 (okE8 _ q4) (by omega) hpp.1 hpp.2) fun _ s2 g2 f2 p2 => ?_
            have hb1 := blanks_ge t kl.1
            have hb2 := blanks_le t kl.1 q3
            refine RP.bind (must_law g2 hb2) fun k s3 g3 f3 p3 => ?_
            obtain ⟨rfl, hk, rfl⟩ := p3
            have hb3 := blanks_ge t (blanks t kl.1 + 1)
            have hb4 := blanks_le t (blanks t kl.1 + 1) hk
            exact RP.ret g3 ⟨by omega, hb4, by have := p2.1; omega, p2.2.1⟩
        · exact RP.ret hg ⟨Nat.le_refl _, ha, by omega, rfl⟩
      · obtain ⟨qa, qb, qc, qd⟩ := q1
        refine RP.bind (ih1 t a1 s1 ht qb g1 (by omega) (by omega)) fun a2 s2 g2 f2 q2 => ?_
        obtain ⟨ra, rb, rc, rd⟩ := q2
        have hb1 := blanks_ge t a2
        have hb2 := blanks_le t a2 rb
        split
        · rename_i hi; exact RP.ret g2 ⟨hi, by omega, hb2, by omega, by rw [rd, qd]⟩
        · refine RP.bind (must_law g2 hb2) fun a3 s3 g3 f3 p3 => ?_
          obtain ⟨rfl, hk, rfl⟩ := p3
          have hb3 := blanks_ge t (blanks t a2 + 1)
          have hb4 := blanks_le t (blanks t a2 + 1) hk
          refine (ih3 t _ kind last s3 hb4 ht g3 (by omega) (by omega)).mono fun k s' q => ⟨q.1, ?_⟩
          obtain ⟨ta, tb, tc, td⟩ := q.2
          exact ⟨by omega, tb, by omega, by rw [td, rd, qd]⟩
theorem flowA_law (hn : NumLaw numRead) {t : ByteArray} {a : Nat} {s : OS} (ht : t.size < 1000000) (ha : a ≤ t.size) (hg : Good right s) (hq : pot s + 2 * (t.size - a) + 10 ≤ 4294967296) : RP right s t.size (FQ t a s) (flowA right numRead t a s) :=
  (flow_law_all hn _).1 t a s ht ha hg hq (Nat.le_refl _)
 end
end Hx
