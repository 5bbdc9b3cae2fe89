/-
  Part of a proof.
-/
import Derived.Test.YtkkifbjdbhjhaaaGreatDoorV12
import Derived.Test.YtkkifbjdbhjhaaaGreatDoorV25
import Derived.Test.YtkkifbjdbhjhaaaGreatDoorV15
set_option linter.unusedVariables false
set_option linter.unusedSimpArgs false
/- Two events held against each other, for !=. -/
namespace Hx
open Go Sx Go.Proofs
set_option maxRecDepth 100000
set_option maxHeartbeats 4000000
set_option linter.unusedVariables false
set_option linter.unusedSimpArgs false
variable {GOk : Gl → Prop}
theorem eqIn_ev (k k' : Int) (s s' v v' : ByteArray) (w : World) : (Op.equalIn 10000 56 (.agg #[.int .i64 k, .string s, .string v]) (.agg #[.int .i64 k', .string s', .string v'])).run P w = .ok (decide (k = k') && (decide (s = s') && decide (v = v'))) w := by
  obtain ⟨f0, f1, f2, hf, ⟨n0, n1, n2⟩, ⟨t0, t1, t2⟩, o0, o1, o2⟩ := ev_fields
  have u3 : P.underlying 3 = some (.int .i64) := by kernel_rfl
  have u9 : P.underlying 9 = some .string := by kernel_rfl
  have ut : P.underlying 56 = some (.struct (P.fieldsOf 56)) := by kernel_rfl
  have hh : P.stoodInHeld 56 = false := by kernel_rfl
  rw [run_equalIn_agg (P := P) w 9999 56 _ _ ut hh, hf]
  simp only [Op.eqFields, n0, n1, n2, ne_eq, not_false_eq_true, if_true, Sem.run_bind, t0, t1, t2, o0, o1, o2]
  rw [part_ 3 _ 0 (.int .i64 k) w (.inl rfl) rfl]
  simp only [Result.andThen_ok]
  rw [part_ 3 _ 0 (.int .i64 k') w (.inl rfl) rfl]
  simp only [Result.andThen_ok]
  rw [run_equalIn_int (P := P) w 9998 3 .i64 .i64 k k' u3]
  simp only [Result.andThen_ok, Sem.run_ite, Sem.run_bind, Sem.run_pure]
  rw [part_ 9 _ 1 (.string s) w (.inr rfl) rfl]
  simp only [Result.andThen_ok]
  rw [part_ 9 _ 1 (.string s') w (.inr rfl) rfl]
  simp only [Result.andThen_ok]
  rw [run_equalIn_string (P := P) w 9998 9 s s' u9]
  simp only [Result.andThen_ok, Sem.run_ite, Sem.run_bind, Sem.run_pure]
  rw [part_ 9 _ 2 (.string v) w (.inr rfl) rfl]
  simp only [Result.andThen_ok]
  rw [part_ 9 _ 2 (.string v') w (.inr rfl) rfl]
  simp only [Result.andThen_ok]
  rw [run_equalIn_string (P := P) w 9998 9 v v' u9]
  simp only [Result.andThen_ok, Sem.run_ite, Sem.run_pure]
  have b1 : ∀ x y : ByteArray, (x.toList == y.toList) = decide (x = y) := fun x y => by
    rw [Bool.eq_iff_iff]
    simp only [beq_iff_eq, decide_eq_true_eq]
    constructor
    · intro h
      rw [toList_eq, toList_eq] at h
      cases x; cases y
      simp only [ByteArray.mk.injEq] at h ⊢
      exact Array.toList_inj.1 h
    · rintro rfl; rfl
  rw [b1, b1]
  by_cases h1 : k = k'
  · by_cases h2 : s = s'
    · by_cases h3 : v = v' <;> simp [h1, h2, h3]
    · simp [h1, h2]
  · simp [h1]
end Hx
/- ref05.Whole and Same, ref06.Walk, law18.few: the walks. -/
namespace Hx
open Go Sx Go.Proofs
set_option maxRecDepth 100000
set_option maxHeartbeats 4000000
set_option linter.unusedVariables false
set_option linter.unusedSimpArgs false
variable {GOk : Gl → Prop}
theorem refSteps_at {rr : Ev → Bool} : ∀ (b l : List Ev), refSteps rr l b = true → ∀ (i : Nat) (x : Ev), b[i]? = some x → refStep rr (l ++ b.take i) x = 0
  | [], l, h, i, x, hx => by simp at hx
  | y :: r, l, h, 0, x, hx => by
    simp only [refSteps, Bool.and_eq_true, decide_eq_true_eq] at h
    simp only [List.getElem?_cons_zero, Option.some.injEq] at hx
    subst hx
    simpa using h.1
  | y :: r, l, h, i + 1, x, hx => by
    simp only [refSteps, Bool.and_eq_true, decide_eq_true_eq] at h
    have := refSteps_at r (l ++ [y]) h.2 i x (by simpa using hx)
    simpa using this
theorem VecOk.take {α : Type} {p : Bool} {lo len cap : Nat} {xs l : List α} (h : VecOk p lo len cap xs l) {i : Nat} (hi : i ≤ len) : VecOk p lo i cap xs (l.take i) :=
  ⟨h.pr, h.room, Nat.le_trans hi h.fits, by rw [← h.eq, List.take_take, Nat.min_eq_left hi]⟩
theorem whole_r (p wr : Bool) (lo len cap : Nat) (xs l : List Ev) (hv : VecOk p lo len cap xs l) (hlen : len ≤ 1000000) (hkl : ∀ y ∈ l, k49 y.kind) (h : refWhole refRight l = 0) :
    Triple (BB Ip GOk) 18 1 1 [.vec p 0 3 lo len cap] [.arr p wr 0 56 encE xs] (fun K => K (.ret (.tuple [.int .i64 (Int.ofNat len), .int .i64 0])) [.arr p wr 0 56 encE xs]) := by
  have hst : refSteps refRight [] l = true := by
    unfold refWhole at h
    cases hs : refSteps refRight [] l with
    | true => rfl
    | false => rw [hs] at h; simp at h
  have hno : opnGo 0 [] l = [] ∧ l ≠ [] := by
    unfold refWhole at h
    rw [hst] at h
    simp only [Bool.not_true, Bool.false_eq_true, if_false] at h
    by_cases hx : opnGo 0 [] l ≠ [] ∨ l = []
    · rw [if_pos hx] at h; exact absurd h (by decide)
    · simp only [not_or, Decidable.not_not] at hx; exact hx
  have hvl := hv.length
  have hroom := hv.room
  have hfits := hv.fits
  refine triple_of BB_ok (tb := ty) rfl (n0 := 1) (fun _ : Unit => _) pl18 Tryz.call18 Tryz.func18 rfl (by kernel_rfl) (Nat.le_of_ble_eq_true rfl) (by decide) rfl pre_none ?_
  rintro G hG K hK W bi bc bs bk bu bb bo bg bl bp bn be Ncond Nob Nop Nloop Nscope hN Nfin hf _ _
  cbv
  refine loopN_ hN (loop_ hN ty_ok mixed (ι := Nat) (fun i => ⟨[(0, .vec p 0 3 lo len cap), (4, .int .i64 (Int.ofNat i))], [.arr p wr 0 56 encE xs], 1⟩) (fun i => i ≤ len) (fun i => len - i) ?_ ?_)
  · exact Leads.idx 0 [] (Nat.zero_le _) ⟨⟨rfl, rfl, trivial⟩, rfl, Nat.le_of_ble_eq_true rfl⟩
  rintro i hi Nnext hn _
  cbv
  refine cond_ hN ?_ ?_ <;> intro hc <;> rw [clt hN] at hc
  · skip
    simp only [decide_eq_true_eq, decide_eq_false_iff_not, Int.ofNat_eq_natCast, gt_iff_lt, ge_iff_le, Bool.not_eq_true', Bool.not_eq_false', Int.not_lt, Int.not_le] at hc
    have hilt : i < len := by have : (i : Int) < (len : Int) := hc; omega
    have hpt : p = true := by
      cases p with
      | true => rfl
      | false => have := hv.pr rfl; omega
    have hil : i < l.length := by omega
    have hli : l[i]? = some (l[i]'hil) := List.getElem?_eq_getElem hil
    have hxi : xs[lo + i]? = some (l[i]'hil) := by
      have h5 : ((xs.drop lo).take len)[i]? = some (l[i]'hil) := by rw [hv.eq]; exact hli
      rw [List.getElem?_take, if_pos hilt, List.getElem?_drop] at h5
      exact h5
    generalize (l[i]'hil) = x at hxi hli
    have hss := refSteps_at l [] hst i x hli
    rw [List.nil_append] at hss
    have hkx := hkl x (List.mem_of_getElem? hli)
    have hT := step_r (GOk := GOk) p wr lo i cap xs (l.take i) (hv.take (by omega)) (by omega) x hkx (fun y hy => hkl y (List.mem_of_mem_take hy)) hss
    obtain ⟨kind, text, val⟩ := x
    simp only at hT
    have hidx : bp lo (Int.ofNat i) = lo + i := by rw [bp_ hN]; simp
    have hinx : bi .add .i64 (Int.ofNat i) 1 = Int.ofNat (i + 1) := inext hN (by omega)
    have hb1 : bo lo 0 cap = lo := by rw [bo_ hN]; simp [sloff]
    have hb2 : bg (Int.ofNat i) 0 = i := by rw [bg_ hN]; simp
    have hb3 : bl cap 0 = cap := by rw [bl_ hN]; simp
    cbv
    refine ob_ hN ⟨⟨by simp, by simp, by simp; omega⟩, trivial⟩ ?_
    simp only [hb1, hb2, hb3]
    cbv
    refine ob_ hN ⟨⟨by simp, by simpa using hilt⟩, hpt, trivial⟩ ?_
    cbv
    refine ⟨op_ hN (load_arr ty_ok rfl hpt rfl wideE (Nat.le_of_ble_eq_true rfl) (by rw [hidx]; omega) ?_), trivial⟩
    intro z hz
    rw [hidx, hxi] at hz
    obtain rfl := Option.some.inj hz
    clear hz
    cbv
    refine ⟨op_ hN (call_ hT hG [0] rfl rfl rfl rfl rfl ?_), trivial⟩
    cbv
    refine cond_F hN ?_ ?_
    · rw [cne hN]; rfl
    cbv
    simp only [hinx]
    exact hn _ (Leads.nxt (i + 1) [] hilt (by omega) ⟨⟨rfl, rfl, trivial⟩, rfl, Nat.le_of_ble_eq_true rfl⟩)
  · skip
    simp only [decide_eq_true_eq, decide_eq_false_iff_not, Int.ofNat_eq_natCast, gt_iff_lt, ge_iff_le, Bool.not_eq_true', Bool.not_eq_false', Int.not_lt, Int.not_le] at hc
    have hie : i = len := by have : (len : Int) ≤ (i : Int) := hc; omega
    have hl0 : 0 < len := by
      cases l with
      | nil => exact absurd rfl hno.2
      | cons y r => simp at hvl; omega
    cbv
    refine op_ hN (call_ (at_spec_r (GOk := GOk) p wr lo len cap xs l hv hlen) hG [0] rfl rfl rfl rfl rfl ?_)
    intro a d had
    have had : a = -1 := by
      rcases had with ⟨_, h1, _⟩ | ⟨q, ps, h1, _⟩
      · exact h1
      · rw [hno.1] at h1; exact absurd h1 (by simp)
    cbv
    subst had
    repeat' (first
      | (refine cond_T hN ?_ ?_; (focus (rw [cge hN]; rfl)); cbv)
      | (refine cond_F hN ?_ ?_; (focus (rw [cge hN]; rfl)); cbv)
      | (refine cond_F hN ?_ ?_; (focus (rw [ceq hN]; simp; omega)); cbv)
      | (refine cond_T hN rfl ?_; cbv)
      | (refine cond_F hN rfl ?_; cbv))
    exact hf _ _ (fin_ [0] rfl rfl hK)
theorem ne_ev {X : Cx Pd} (hP : X.P = P) {a b : Operand} {k k' : Int} {s s' v v' : ByteArray} {type : TypeId} {cs : List (Chunk Pd)} {n : Nat} {cont : Out → List (Chunk Pd) → Nat → Prop}
    (hk : ∀ b : Bool, b = !(decide (k = k') && (decide (s = s') && decide (v = v'))) → cont (.ret (.bool b)) cs n) :
    NodeX X (.binOp .neq 56 a b 56) type [.agg [.int .i64 k, .str s, .str v], .agg [.int .i64 k', .str s', .str v']] cs n cont := by
  intro ρ F w ρe o ho _ hvs hs
  obtain ⟨dst, op, ty', pos, after, guard⟩ := o
  simp only at ho; subst ho
  have hab : ρe a = .agg #[.int .i64 k, .string s, .string v] ∧ ρe b = .agg #[.int .i64 k', .string s', .string v'] := by simpa [Op.operands, SV.denL, SV.den] using hvs
  have hg : P.eqGuardType P.depth 56 = false := by kernel_rfl
  have he := eqIn_ev k k' s s' v v' w
  have h2 : (execOp ρe ⟨dst, .binOp .neq 56 a b 56, ty', pos, after, guard⟩).run X.P w = .ok (.value (.bool (!(decide (k = k') && (decide (s = s') && decide (v = v')))))) w := by
    rw [hP]
    simp only [execOp, hab.1, hab.2, Sem.run_bind, run_eqGuard_agg w .neq 56 a b _ _ hg, Result.andThen_ok, run_neq_struct, he, Sem.run_pure]
  rw [h2]
  exact ⟨.bool _, cs, n, ρ, rfl, Nat.le_refl _, Ext.refl _ _, hs, hk _ rfl⟩
theorem VecOk.at {p : Bool} {lo len cap : Nat} {xs l : List Ev} (hv : VecOk p lo len cap xs l) {i : Nat} {x : Ev} (h : l[i]? = some x) : xs[lo + i]? = some x := by
  have hvl := hv.length
  have hil : i < l.length := (List.getElem?_eq_some_iff.1 h).1
  have h5 : ((xs.drop lo).take len)[i]? = some x := by rw [hv.eq]; exact h
  rw [List.getElem?_take, if_pos (by omega), List.getElem?_drop] at h5
  exact h5
def plSame : List (Nat × Plan) := [(6, (tk [0, 1, 2, 4, 5, 6] (.all [(3, (.all [(7, (.all [(8, .done)]))])), (7, (.all [(3, (.all [(8, .done)]))]))])))]
theorem same_r (p wr : Bool) (lo len cap : Nat) (xs l : List Ev) (hv : VecOk p lo len cap xs l) (q wr2 : Bool) (lo2 len2 cap2 : Nat) (ys : List Ev) (hw : VecOk q lo2 len2 cap2 ys l) (hlen : len ≤ 1000000) :
    Triple (BB Ip GOk) 9 2 2 [.vec p 0 3 lo len cap, .vec q 1 3 lo2 len2 cap2] [.arr p wr 0 56 encE xs, .arr q wr2 1 56 encE ys] (fun K => K (.ret (.bool true)) [.arr p wr 0 56 encE xs, .arr q wr2 1 56 encE ys]) := by
  have hvl := hv.length
  have hwl := hw.length
  obtain rfl : len = len2 := by omega
  have hroom := hv.room
  have hfits := hv.fits
  have hroom2 := hw.room
  have hfits2 := hw.fits
  refine triple_of BB_ok (tb := ty) rfl (n0 := 2) (fun _ : Unit => _) plSame Tryz.call9 Tryz.func9 rfl (by kernel_rfl) (Nat.le_of_ble_eq_true rfl) (by decide) rfl pre_none ?_
  rintro G hG K hK W bi bc bs bk bu bb bo bg bl bp bn be Ncond Nob Nop Nloop Nscope hN Nfin hf _ _
  cbv
  refine cond_F hN ?_ ?_
  · rw [cne hN]; simp
  cbv
  refine loopN_ hN (loop_ hN ty_ok mixed (ι := Nat) (fun i => ⟨[(0, .vec p 0 3 lo len cap), (1, .vec q 1 3 lo2 len cap2), (5, .int .i64 (Int.ofNat i))], [.arr p wr 0 56 encE xs, .arr q wr2 1 56 encE ys], 2⟩) (fun i => i ≤ len) (fun i => len - i) ?_ ?_)
  · exact Leads.idx 0 [] (Nat.zero_le _) ⟨⟨rfl, rfl, rfl, trivial⟩, rfl, Nat.le_of_ble_eq_true rfl⟩
  rintro i hi Nnext hn _
  cbv
  refine cond_ hN ?_ ?_ <;> intro hc <;> rw [clt hN] at hc
  · skip
    simp only [decide_eq_true_eq, decide_eq_false_iff_not, Int.ofNat_eq_natCast, gt_iff_lt, ge_iff_le, Bool.not_eq_true', Bool.not_eq_false', Int.not_lt, Int.not_le] at hc
    have hilt : i < len := by have : (i : Int) < (len : Int) := hc; omega
    have hpt : p = true := by
      cases p with
      | true => rfl
      | false => have := hv.pr rfl; omega
    have hqt : q = true := by
      cases q with
      | true => rfl
      | false => have := hw.pr rfl; omega
    have hil : i < l.length := by omega
    have hli : l[i]? = some (l[i]'hil) := List.getElem?_eq_getElem hil
    have hxi := hv.at hli
    have hyi := hw.at hli
    generalize (l[i]'hil) = x at hxi hyi hli
    obtain ⟨kind, text, val⟩ := x
    have hidx : bp lo (Int.ofNat i) = lo + i := by rw [bp_ hN]; simp
    have hidx2 : bp lo2 (Int.ofNat i) = lo2 + i := by rw [bp_ hN]; simp
    have hinx : bi .add .i64 (Int.ofNat i) 1 = Int.ofNat (i + 1) := inext hN (by omega)
    cbv
    refine ob_ hN ⟨⟨by simp, by simpa using hilt⟩, hpt, trivial⟩ ?_
    cbv
    refine ob_ hN ⟨⟨by simp, by simpa using hilt⟩, hqt, trivial⟩ ?_
    cbv
    refine ⟨?_, ?_, trivial⟩
    · refine op_ hN (load_arr ty_ok rfl hpt rfl wideE (Nat.le_of_ble_eq_true rfl) (by rw [hidx]; omega) ?_)
      intro z hz
      rw [hidx, hxi] at hz
      obtain rfl := Option.some.inj hz
      clear hz
      cbv
      refine ⟨op_ hN (load_arr ty_ok rfl hqt rfl wideE (Nat.le_of_ble_eq_true rfl) (by rw [hidx2]; omega) ?_), trivial⟩
      intro z hz
      rw [hidx2, hyi] at hz
      obtain rfl := Option.some.inj hz
      clear hz
      cbv
      refine ⟨op_ hN (ne_ev rfl ?_), trivial⟩
      intro b hb
      obtain rfl : b = false := by rw [hb]; simp
      cbv
      refine cond_F hN rfl ?_
      cbv
      simp only [hinx]
      exact hn _ (Leads.nxt (i + 1) [] hilt (by omega) ⟨⟨rfl, rfl, rfl, trivial⟩, rfl, Nat.le_of_ble_eq_true rfl⟩)
    · refine op_ hN (load_arr ty_ok rfl hqt rfl wideE (Nat.le_of_ble_eq_true rfl) (by rw [hidx2]; omega) ?_)
      intro z hz
      rw [hidx2, hyi] at hz
      obtain rfl := Option.some.inj hz
      clear hz
      cbv
      refine ⟨op_ hN (load_arr ty_ok rfl hpt rfl wideE (Nat.le_of_ble_eq_true rfl) (by rw [hidx]; omega) ?_), trivial⟩
      intro z hz
      rw [hidx, hxi] at hz
      obtain rfl := Option.some.inj hz
      clear hz
      cbv
      refine ⟨op_ hN (ne_ev rfl ?_), trivial⟩
      intro b hb
      obtain rfl : b = false := by rw [hb]; simp
      cbv
      refine cond_F hN rfl ?_
      cbv
      simp only [hinx]
      exact hn _ (Leads.nxt (i + 1) [] hilt (by omega) ⟨⟨rfl, rfl, rfl, trivial⟩, rfl, Nat.le_of_ble_eq_true rfl⟩)
  · skip
    cbv
    exact hf _ _ (fin_as (.bool true) (fun _ => rfl) (fin_ [] rfl rfl hK))
end Hx
/- ref06.Walk, law18.few: the walks. -/
namespace Hx
open Go Sx Go.Proofs
set_option maxRecDepth 100000
set_option maxHeartbeats 4000000
set_option linter.unusedVariables false
set_option linter.unusedSimpArgs false
variable {GOk : Gl → Prop}
theorem fields_k49 : ∀ {hd : List ByteArray} {ts : List (List UInt8)} {x : Ev}, x ∈ fieldsE hd ts → k49 x.kind
  | h :: hs, t :: ts, x, hx => by
    simp only [fieldsE, List.mem_append] at hx
    rcases hx with hx | hx
    · unfold fieldE at hx
      simp only [List.mem_cons, List.not_mem_nil, or_false] at hx
      rcases hx with rfl | rfl
      · exact .inr (.inr (.inr (.inr (.inl rfl))))
      · exact .inl rfl
    · exact fields_k49 hx
  | [], _, x, hx => by simp [fieldsE] at hx
  | _ :: _, [], x, hx => by simp [fieldsE] at hx
theorem table_k49 {rows : List (List (List UInt8))} {hs : List (List UInt8)} : ∀ x ∈ tableE rows hs, k49 x.kind := by
  intro x hx
  unfold tableE at hx
  simp only [List.mem_cons, List.mem_append, List.mem_flatMap, List.not_mem_nil, or_false] at hx
  rcases hx with rfl | ⟨ts, _, hx⟩ | rfl
  · exact .inr (.inl rfl)
  · unfold rowE at hx
    simp only [List.mem_cons, List.mem_append, List.not_mem_nil, or_false] at hx
    rcases hx with rfl | hx | rfl
    · exact .inr (.inr (.inr (.inl rfl)))
    · exact fields_k49 hx
    · exact .inr (.inr (.inr (.inr (.inr rfl))))
  · exact .inr (.inr (.inl rfl))
theorem walk_r (n : Nd) (hO : OldN GOk n) (hke : ∀ x ∈ evs n, k49 x.kind) (hw : walkM rightM n = 0) (hl : (evs n).length ≤ 100000) :
    Triple (BB Ip GOk) 8 0 1 [n.sv] [] (fun K => ∀ q lo len cap ys, VecOk q lo len cap ys (evs n) → K (.ret (.tuple [.vec q 0 3 lo len cap, .int .i64 0])) [.arr q true 0 56 encE ys]) := by
  obtain ⟨hgo, hwh⟩ := inkdelim_ref n hw
  have hT := rgoes_all (GOk := GOk) (sizeOf n) n (Nat.le_refl _) hO hke [] (evs n) (fun y hy => nomatch hy) hgo hl false 0 0 0 [] ⟨fun _ => rfl, Nat.le_refl _, Nat.le_refl _, rfl⟩
  obtain ⟨kind, text, val, p, g, off, cap, kids⟩ := n
  obtain ⟨nlen, hnl⟩ : ∃ x, kids.length = x := ⟨_, rfl⟩
  have hsv : Nd.sv (.mk kind text val p g off cap kids) = .agg [.int .i64 kind, .str text, .str val, .gsl p g off 4 nlen cap] := by simp [Nd.sv, Nd.row, Nd.sl, Nd.kind, Nd.text, Nd.val, Nd.p, Nd.g, Nd.off, Nd.kids, Nd.cap, hnl]
  rw [hsv] at hT ⊢
  generalize evs (.mk kind text val p g off cap kids) = l at hT hgo hwh hke hl ⊢
  refine triple_of BB_ok (tb := ty) rfl (n0 := 0) (fun _ : Unit => _) pl8 Tryz.call8 Tryz.func8 rfl (by kernel_rfl) (Nat.le_of_ble_eq_true rfl) (by decide) rfl pre_none ?_
  rintro G hG K hK W bi bc bs bk bu bb bo bg bl bp bn be Ncond Nob Nop Nloop Nscope hN Nfin hf _ _
  cbv
  refine op_ hN (op_noArr true 4 5 56 encE [] rfl rfl (op_vals (vals' := [.fn (.func 17) [] [], .agg [.int .i64 kind, .str text, .str val, .gsl p g off 4 nlen cap], .vec false 4 3 0 0 0]) (fun ρ F w h => by simp [SV.denL, SV.den]) (call_ hT hG [4] rfl rfl rfl rfl rfl ?_)))
  intro q lo2 len2 cap2 ys hv
  have hvl := hv.length
  cbv
  refine cond_F hN ?_ ?_
  · rw [cne hN]; rfl
  cbv
  refine op_ hN (call_ (whole_r (GOk := GOk) q true lo2 len2 cap2 ys l hv (by omega) hke hwh) hG [5] rfl rfl rfl rfl rfl ?_)
  cbv
  refine cond_F hN ?_ ?_
  · rw [cne hN]; rfl
  cbv
  exact hf _ _ (fin_ [5] rfl rfl (hK _ _ _ _ _ hv))
theorem lawfew_r (n : Nd) (hO : OldN GOk n) :
    Triple (BB Ip GOk) 4 0 0 [n.sv] [] (fun K => ∀ b, b = decide (0 ≤ fewM 21 n 200) → K (.ret (.bool b)) []) := by
  obtain ⟨kind, text, val, p, g, off, cap, kids⟩ := n
  obtain ⟨nlen, hnl⟩ : ∃ x, kids.length = x := ⟨_, rfl⟩
  have hsv : Nd.sv (.mk kind text val p g off cap kids) = .agg [.int .i64 kind, .str text, .str val, .gsl p g off 4 nlen cap] := by simp [Nd.sv, Nd.row, Nd.sl, Nd.kind, Nd.text, Nd.val, Nd.p, Nd.g, Nd.off, Nd.kids, Nd.cap, hnl]
  have hT := few_spec (GOk := GOk) 21 (by decide) kind text val p g off cap nlen kids hnl hO 200 20 (by decide) (by decide)
  rw [hsv]
  generalize fewM 21 (.mk kind text val p g off cap kids) 200 = r0 at hT ⊢
  refine triple_of BB_ok (tb := ty) rfl (n0 := 0) (fun _ : Unit => _) pl4 Tryz.call4 Tryz.func4 rfl (by kernel_rfl) (Nat.le_of_ble_eq_true rfl) (by decide) rfl pre_none ?_
  rintro G hG K hK W bi bc bs bk bu bb bo bg bl bp bn be Ncond Nob Nop Nloop Nscope hN Nfin hf _ _
  cbv
  refine op_ hN (call_ hT hG [] rfl rfl rfl rfl rfl ?_)
  intro r hr
  subst hr
  cbv
  exact hf _ _ (fin_ [] rfl rfl (hK _ (by rw [cge hN])))
end Hx
