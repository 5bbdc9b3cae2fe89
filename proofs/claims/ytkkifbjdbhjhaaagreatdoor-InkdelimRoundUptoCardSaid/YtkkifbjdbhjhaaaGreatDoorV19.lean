/-
  Part of a proof.
-/
import Derived.Test.YtkkifbjdbhjhaaaGreatDoorV11
import Derived.Test.YtkkifbjdbhjhaaaGreatDoorV05
import Derived.Test.YtkkifbjdbhjhaaaGreatDoorV14
set_option linter.unusedVariables false
set_option linter.unusedSimpArgs false
/- delim.machine: says, names: the walks. -/
namespace Hx
open Go Sx Go.Proofs
set_option maxRecDepth 100000
set_option maxHeartbeats 4000000
set_option linter.unusedVariables false
set_option linter.unusedSimpArgs false
variable {GOk : Gl → Prop}
theorem dlmTm {state : Int} {started row named : Bool} {header : List ByteArray} {cell : List UInt8} {cells : Nat} {p : Bool} {lo len cap : Nat} {xs : List ByteArray} {q : Bool} {lo2 len2 cap2 : Nat} {ys : List UInt8} (hv1 : VecOk p lo len cap xs header) (hv2 : VecOk q lo2 len2 cap2 ys cell) (hok : header.length ≤ 900001 ∧ cell.length ≤ 48 ∧ cells ≤ header.length) :
    Tm (.dlm ⟨state, started, row, header, named, cell, cells⟩) [.cells 0 70 [.int .i64 state, .bool started, .bool row, .vec p 2 1 lo len cap, .bool named, .vec q 3 1 lo2 len2 cap2, .int .i64 (Int.ofNat cells)], .arr p true 2 9 encS xs, .arr q true 3 5 encB ys] :=
  ⟨p, lo, len, cap, xs, q, lo2, len2, cap2, ys, hv1, hv2, hok, rfl⟩
theorem says_d (m : Dlm) (x : UInt8) (b : Int) (hb : ((x.toNat : Nat) : Int) = b) : Triple (BB Ip GOk) 226 2 2 [.ptr 0 0, .int .u8 b] [.abs (.dlm m) [0, 1]]
    (fun K => ∀ e m', (∀ q, dSays x (m, q) = some (e, m', q)) → K (.ret (.int .i64 e)) [.abs (.dlm m') [0, 1]]) := by
  obtain ⟨state, started, row, header, named, cell, cells⟩ := m
  refine triple_of BB_ok (tb := ty) rfl (n0 := 4) (fun y : {cs' // Tm (.dlm ⟨state, started, row, header, named, cell, cells⟩) cs'} => csRen (sg [0, 1] 2) y.1 ++ []) pl226 Tryz.call226 Tryz.func226 rfl (by kernel_rfl) (Nat.le_of_ble_eq_true rfl) (by decide) rfl (pre_open rfl rfl rfl) ?_
  rintro G hG K hK W bi bc bs bk bu bb bo bg bl bp bn be Ncond Nob Nop Nloop Nscope hN Nfin hf _ ⟨cs', hT⟩
  obtain ⟨p, lo, len, cap, xs, q, lo2, len2, cap2, ys, hv1, hv2, hok, rfl⟩ := id hT
  simp only at hv1 hv2 hok
  have hl2 := hv2.length
  have hge : bc .geq (Int.ofNat len2) 48 = decide (48 ≤ len2) := by
    rw [cge hN]
    by_cases h : 48 ≤ len2
    · have h2 : (48 : Int) ≤ (len2 : Int) := by omega
      simp [h, h2]
    · have h2 : ¬ (48 : Int) ≤ (len2 : Int) := by omega
      simp [h, h2]
  cbv
  refine cond_ hN ?_ ?_ <;> intro h <;> rw [hge] at h
  · have h : 48 ≤ len2 := of_decide_eq_true h
    have hK := hK 4 ⟨state, started, row, header, named, cell, cells⟩ (fun q => by unfold dSays; rw [if_pos (by simp only; omega)])
    cbv
    exact hf _ _ (fin_cput 0 [.int .i64 state, .bool started, .bool row, .vec p 2 1 lo len cap, .bool named, .vec q 3 1 lo2 len2 cap2, .int .i64 (Int.ofNat cells)] rfl (fun _ => rfl) (fin_close rfl (.dlm ⟨state, started, row, header, named, cell, cells⟩) [0, 1] [2, 3] _ (dlmTm hv1 hv2 hok) rfl (fin_ [] rfl rfl hK)))
  · have h : ¬ 48 ≤ len2 := of_decide_eq_false h
    have hK := hK 0 ⟨state, started, row, header, named, cell ++ [x], cells⟩ (fun q => by unfold dSays; rw [if_neg (by simp only; omega)])
    cbv
    repeat' (first | exact True.intro | with_reducible refine dup ?_ | refine And.intro ?_ ?_)
    all_goals
      refine op_ hN (append_vec (new := [x]) (z := 0) ty_ok rfl rfl rfl rfl (fun k => by simp) rfl rfl wideB rfl rfl (src_cells wideB rfl (fun _ _ _ _ => by rw [← hb]; rfl) rfl) hv2.pr hv2.room hv2.fits (by simp; omega) (by decide) ?_)
      intro p' lo' m' cap' xs' hm' e1 e2 e3 e4
      have hv5 : VecOk p' lo' m' cap' xs' (cell ++ [x]) := ⟨e1, e2, e3, by rw [e4, hv2.eq]⟩
      have hok5 : header.length ≤ 900001 ∧ (cell ++ [x]).length ≤ 48 ∧ cells ≤ header.length := ⟨hok.1, by simp; omega, hok.2.2⟩
      generalize cell ++ [x] = cell5 at hv5 hok5 hK
      cbv
      repeat' (first | exact True.intro | with_reducible refine dup ?_ | refine And.intro ?_ ?_)
      all_goals
        exact hf _ _ (fin_cput 0 [.int .i64 state, .bool started, .bool row, .vec p 2 1 lo len cap, .bool named, .vec p' 5 1 lo' m' cap', .int .i64 (Int.ofNat cells)] rfl (fun _ => rfl) (fin_close rfl (.dlm ⟨state, started, row, header, named, cell5, cells⟩) [0, 1] [2, 5] _ (dlmTm hv1 hv5 hok5) rfl (fin_ [] rfl rfl hK)))
theorem index_spec (p : Bool) (lo len cap : Nat) (xs l : List ByteArray) (hv : VecOk p lo len cap xs l) (hsm : len ≤ 1000000) (t : ByteArray) :
    Triple (BB Ip GOk) 230 1 1 [.vec p 0 1 lo len cap, .str t] [.arr p true 0 9 encS xs] (fun K => ∀ r : Int, (0 ≤ r ↔ hasB l t = true) → K (.ret (.int .i64 r)) [.arr p true 0 9 encS xs]) := by
  refine triple_of BB_ok (tb := ty) rfl (n0 := 1) (fun _ : Unit => _) pl230 Tryz.call230 Tryz.func230 rfl (by kernel_rfl) (Nat.le_of_ble_eq_true rfl) (by decide) rfl pre_none ?_
  rintro G hG K hK W bi bc bs bk bu bb bo bg bl bp bn be Ncond Nob Nop Nloop Nscope hN Nfin hf _ _
  have hl1 := hv.length
  have hroom := hv.room
  have hfits := hv.fits
  cbv
  refine loopN_ hN (loop_ hN ty_ok mixed (ι := Nat) (fun y => ⟨[(0, .vec p 0 1 lo len cap), (1, .str t), (7, .int .i64 (Int.ofNat len)), (8, .int .i64 (Int.ofNat y))], [.arr p true 0 9 encS xs], 1⟩)
    (fun y => y ≤ len ∧ hasB (l.take y) t = false) (fun y => len - y) ?_ ?_)
  · exact Leads.idx 0 [] ⟨Nat.zero_le _, rfl⟩ ⟨⟨rfl, rfl, rfl, rfl, trivial⟩, rfl, Nat.le_of_ble_eq_true rfl⟩
  rintro i ⟨hi, hgo⟩ Nnext hn _
  cbv
  refine cond_ hN (fun h => ?_) (fun h => ?_)
  · rw [clt hN] at h
    simp only [decide_eq_true_eq, decide_eq_false_iff_not, Int.ofNat_eq_natCast, gt_iff_lt, ge_iff_le, Bool.not_eq_true', Bool.not_eq_false', Int.not_lt, Int.not_le] at h
    have hilt : i < len := by have : (i : Int) < (len : Int) := h; omega
    have hpt : p = true := by
      cases p with
      | true => rfl
      | false => have := hv.pr rfl; omega
    have hxi : ∃ x, l[i]? = some x ∧ xs[lo + i]? = some x := by
      refine ⟨l[i]'(by omega), List.getElem?_eq_getElem _, ?_⟩
      have h5 : ((xs.drop lo).take len)[i]? = some (l[i]'(by omega)) := by rw [hv.eq]; exact List.getElem?_eq_getElem _
      rw [List.getElem?_take, if_pos hilt, List.getElem?_drop] at h5
      exact h5
    obtain ⟨x, hx1, hx2⟩ := hxi
    have hidx1 : bp lo (Int.ofNat i) = lo + i := by rw [bp_ hN]; simp
    have hnx : bi .add .i64 (Int.ofNat i) 1 = Int.ofNat (i + 1) := inext hN (by omega)
    cbv
    refine ob_ hN ⟨⟨by simp, by simpa using hilt⟩, hpt, trivial⟩ ?_
    cbv
    refine op_ hN (load_arr ty_ok rfl hpt rfl wideS (Nat.le_of_ble_eq_true rfl) (by rw [hidx1]; omega) ?_)
    intro z hz
    rw [hidx1, hx2] at hz
    obtain rfl := Option.some.inj hz
    clear hz
    cbv
    refine cond_ hN ?_ ?_ <;> intro h2 <;> rw [seq_eq hN] at h2
    · have h3 : t = x := by simpa using h2
      cbv
      exact hf _ _ (fin_ [] rfl rfl (hK (Int.ofNat i) (by
        have : hasB l t = true := hasB_mem (h3 ▸ List.mem_of_getElem? hx1)
        rw [this]; simp)))
    · have h3 : t ≠ x := by simpa using h2
      cbv
      simp only [hnx]
      exact hn _ (Leads.nxt (i + 1) [] ⟨hilt, by
        rw [List.take_add_one, hx1]
        unfold hasB at hgo ⊢
        rw [List.any_append, hgo]
        simp [Ne.symm h3]⟩ (by omega) ⟨⟨rfl, rfl, rfl, rfl, trivial⟩, rfl, Nat.le_of_ble_eq_true rfl⟩)
  · rw [clt hN] at h
    simp only [decide_eq_true_eq, decide_eq_false_iff_not, Int.ofNat_eq_natCast, gt_iff_lt, ge_iff_le, Bool.not_eq_true', Bool.not_eq_false', Int.not_lt, Int.not_le] at h
    have hie : i = len := by have : (len : Int) ≤ (i : Int) := h; omega
    rw [List.take_of_length_le (by omega)] at hgo
    cbv
    exact hf _ _ (fin_ [] rfl rfl (hK (-1) (by rw [hgo]; simp)))

theorem names_d (m : Dlm) (t : ByteArray) (more : Bool) (hh : m.header.length < 900000) : Triple (BB Ip GOk) 228 2 2 [.ptr 0 0, .str t, .bool more] [.abs (.dlm m) [0, 1]]
    (fun K => ∀ e m', (∀ q, dNames t more (m, q) = some (e, m', q)) → K (.ret (.int .i64 e)) [.abs (.dlm m') [0, 1]]) := by
  obtain ⟨state, started, row, header, named, cell, cells⟩ := m
  refine triple_of BB_ok (tb := ty) rfl (n0 := 4) (fun y : {cs' // Tm (.dlm ⟨state, started, row, header, named, cell, cells⟩) cs'} => csRen (sg [0, 1] 2) y.1 ++ []) pl228 Tryz.call228 Tryz.func228 rfl (by kernel_rfl) (Nat.le_of_ble_eq_true rfl) (by decide) rfl (pre_open rfl rfl rfl) ?_
  rintro G hG K hK W bi bc bs bk bu bb bo bg bl bp bn be Ncond Nob Nop Nloop Nscope hN Nfin hf _ ⟨cs', hT⟩
  obtain ⟨p, lo, len, cap, xs, q, lo2, len2, cap2, ys, hv1, hv2, hok, rfl⟩ := id hT
  simp only at hv1 hv2 hok
  simp only at hh
  have hl1 := hv1.length
  cbv
  refine op_ hN (inline_ BB_ok (tb := ty) rfl pl229 Tryz.call229 Tryz.func229 rfl (by kernel_rfl) (Nat.le_of_ble_eq_true rfl) ?_)
  intro W2 bi2 bc2 bs2 bk2 bu2 bb2 bo2 bg2 bl2 bp2 bn2 be2 Ncond2 Nob2 Nop2 Nloop2 Nscope2 hN2
  cbv
  refine op_ hN2 (call_ (index_spec p lo len cap xs header hv1 (by omega) t) hG [2] rfl rfl rfl rfl rfl ?_)
  intro r hr
  obtain ⟨b, hb⟩ : ∃ b, bc2 .geq r 0 = b := ⟨_, rfl⟩
  have hbh : b = hasB header t := by
    rw [← hb, cge hN2]
    cases hq : hasB header t with
    | true => have := hr.2 hq; simpa using this
    | false => rw [hq] at hr; simpa using hr
  clear hr
  cbv
  simp only [hb]
  clear hb
  cases b with
  | true =>
    have hK := hK 6 ⟨state, started, row, header, named, cell, cells⟩ (fun q => by unfold dNames; rw [if_neg (by simp only; omega), if_pos hbh.symm])
    cbv
    refine cond_T hN rfl ?_
    cbv
    exact hf _ _ (fin_cput 0 [.int .i64 state, .bool started, .bool row, .vec p 2 1 lo len cap, .bool named, .vec q 3 1 lo2 len2 cap2, .int .i64 (Int.ofNat cells)] rfl (fun _ => rfl) (fin_close rfl (.dlm ⟨state, started, row, header, named, cell, cells⟩) [0, 1] [2, 3] _ (dlmTm hv1 hv2 hok) rfl (fin_ [] rfl rfl hK)))
  | false =>
    have hlen1 : (header ++ [t]).length = len + 1 := by simp; omega
    have hK : ∀ e m', (∀ q, (if more && decide (len + 1 ≥ 8) then some ((16 : Int), ((⟨state, started, row, header ++ [t], named, cell, cells⟩ : Dlm), (q : List Ev))) else if more then some (0, (⟨state, started, row, header ++ [t], named, cell, cells⟩, q)) else some (0, (⟨state, started, false, header ++ [t], true, cell, cells⟩, q))) = some (e, m', q)) → K (.ret (.int .i64 e)) [.abs (.dlm m') [0, 1]] := fun e m' h => hK e m' fun q => by
      rw [← h q]
      unfold dNames
      rw [if_neg (by simp only; omega), if_neg (by rw [← hbh]; simp)]
      simp only [hl1]
    have hge : bc .geq (Int.ofNat (len + 1)) 8 = decide (len + 1 ≥ 8) := by
      rw [cge hN]
      by_cases h : len + 1 ≥ 8
      · have h2 : (8 : Int) ≤ ((len + 1 : Nat) : Int) := by omega
        rw [decide_eq_true h]
        exact decide_eq_true h2
      · have h2 : ¬ (8 : Int) ≤ ((len + 1 : Nat) : Int) := by omega
        rw [decide_eq_false h]
        exact decide_eq_false h2
    obtain ⟨b8, hb8⟩ : ∃ b, decide (len + 1 ≥ 8) = b := ⟨_, rfl⟩
    rw [hb8] at hge hK
    clear hb8
    cbv
    refine cond_F hN rfl ?_
    cbv
    repeat' (first | exact True.intro | with_reducible refine dup ?_ | refine And.intro ?_ ?_)
    all_goals
      refine op_ hN (append_vec (new := [t]) (z := ⟨#[]⟩) ty_ok rfl rfl rfl rfl (fun k => by simp) rfl rfl wideS rfl rfl (src_cells wideS rfl (fun _ _ _ _ => rfl) rfl) hv1.pr hv1.room hv1.fits (by simp; omega) (by decide) ?_)
      intro p' lo' m' cap' xs' hm' e1 e2 e3 e4
      have hv5 : VecOk p' lo' m' cap' xs' (header ++ [t]) := ⟨e1, e2, e3, by rw [e4, hv1.eq]⟩
      have hok5 : (header ++ [t]).length ≤ 900001 ∧ cell.length ≤ 48 ∧ cells ≤ (header ++ [t]).length := ⟨by rw [hlen1]; omega, hok.2.1, by rw [hlen1]; omega⟩
      have hm5 : m' = len + 1 := by have := hv5.length; omega
      rw [← hm5] at hge
      generalize header ++ [t] = header5 at hv5 hok5 hK
      cbv
      repeat' (first | exact True.intro | with_reducible refine dup ?_ | refine And.intro ?_ ?_)
      all_goals
        cases more with
        | true =>
          cbv
          refine cond_T hN rfl ?_
          cbv
          refine cond_ hN ?_ ?_ <;> intro h <;> rw [hge] at h
          · have hK := hK 16 ⟨state, started, row, header5, named, cell, cells⟩ (fun q => by rw [h]; rfl)
            cbv
            exact hf _ _ (fin_cput 0 [.int .i64 state, .bool started, .bool row, .vec p' 5 1 lo' m' cap', .bool named, .vec q 3 1 lo2 len2 cap2, .int .i64 (Int.ofNat cells)] rfl (fun _ => rfl) (fin_close rfl (.dlm ⟨state, started, row, header5, named, cell, cells⟩) [0, 1] [5, 3] _ (dlmTm hv5 hv2 hok5) rfl (fin_ [] rfl rfl hK)))
          · have hK := hK 0 ⟨state, started, row, header5, named, cell, cells⟩ (fun q => by rw [h]; rfl)
            cbv
            refine cond_F hN rfl ?_
            cbv
            repeat' (first | exact True.intro | with_reducible refine dup ?_ | refine And.intro ?_ ?_)
            all_goals
              exact hf _ _ (fin_cput 0 [.int .i64 state, .bool started, .bool row, .vec p' 5 1 lo' m' cap', .bool named, .vec q 3 1 lo2 len2 cap2, .int .i64 (Int.ofNat cells)] rfl (fun _ => rfl) (fin_close rfl (.dlm ⟨state, started, row, header5, named, cell, cells⟩) [0, 1] [5, 3] _ (dlmTm hv5 hv2 hok5) rfl (fin_ [] rfl rfl hK)))
        | false =>
          have hK := hK 0 ⟨state, started, false, header5, true, cell, cells⟩ (fun q => rfl)
          cbv
          refine cond_F hN rfl ?_
          cbv
          refine cond_T hN rfl ?_
          cbv
          repeat' (first | exact True.intro | with_reducible refine dup ?_ | refine And.intro ?_ ?_)
          all_goals
            exact hf _ _ (fin_cput 0 [.int .i64 state, .bool started, .bool false, .vec p' 5 1 lo' m' cap', .bool true, .vec q 3 1 lo2 len2 cap2, .int .i64 (Int.ofNat cells)] rfl (fun _ => rfl) (fin_close rfl (.dlm ⟨state, started, false, header5, true, cell, cells⟩) [0, 1] [5, 3] _ (dlmTm hv5 hv2 hok5) rfl (fin_ [] rfl rfl hK)))
end Hx
/- delim.machine.ends: the walk. -/
namespace Hx
open Go Sx Go.Proofs
set_option maxRecDepth 100000
set_option maxHeartbeats 4000000
set_option linter.unusedVariables false
set_option linter.unusedSimpArgs false
variable {GOk : Gl → Prop}
/-- what a part of the machine comes to -/
def PostD (K : Out → List (Chunk Pd) → Prop) (c : Core) : Option (Int × DS) → Prop
  | none => False
  | some (e, m, q) => ∀ c', c' = { c with queue := q } → K (.ret (.int .i64 e)) [.abs (.dlm m) [0, 1], .abs (.core c' 68 51) [1, 0]]
theorem PostD.same {K : Out → List (Chunk Pd) → Prop} {c d : Core} {r : Option (Int × DS)} (h : PostD K c r) (he : ∃ q, d = { c with queue := q }) : PostD K d r := by
  obtain ⟨q, rfl⟩ := he
  cases r with
  | none => exact h
  | some x => obtain ⟨e, m, q2⟩ := x; exact h
theorem told_d (tv td : Nat) (c : Core) (x : Ev) (hq : c.queue.length < 4294967296) : Triple (BB Ip GOk) 55 2 2 [.ptr 0 0, .agg [.int .i64 x.kind, .str x.text, .str x.val]] [.abs (.core c tv td) [0, 1]]
    (fun K => ∀ c', c' = { c with queue := c.queue ++ [x] } → K (.ret (.tuple [])) [.abs (.core c' tv td) [0, 1]]) :=
  ⟨(tell_spec tv td c x hq).call, fun G hG K hK => (tell_spec tv td c x hq).goes G hG K (hK _ rfl)⟩
/-- an event is told, or there is no room -/
theorem dTell_cases (x : Ev) (m : Dlm) (q : List Ev) : (dTell x (m, q) = none ∧ ¬ q.length < 4294967296) ∨ (dTell x (m, q) = some (m, q ++ [x]) ∧ q.length < 4294967296) := by
  unfold dTell
  by_cases h : q.length ≥ 4294967296
  · exact .inl ⟨by rw [if_pos h], by omega⟩
  · exact .inr ⟨by rw [if_neg h], by omega⟩
/-- a row's cell, behind its Map -/
def dRow4 (more : Bool) (s3 : DS) : Option (Int × DS) :=
  if (more != decide (s3.1.cells + 1 < s3.1.header.length)) = true then some (17, ({ s3.1 with cells := s3.1.cells + 1 }, s3.2))
  else if more then some (0, ({ s3.1 with cells := s3.1.cells + 1 }, s3.2))
  else match dTell (ev0 9) s3 with
    | none => none
    | some s4 => some (0, ({ s4.1 with cells := 0, row := false }, s4.2))
def dRow3 (t : ByteArray) (more : Bool) (s2 : DS) : Option (Int × DS) := match dTell ⟨4, t, ⟨#[]⟩⟩ s2 with
  | none => none
  | some s3 => dRow4 more s3
def dRow2 (t : ByteArray) (more : Bool) (s1 : DS) : Option (Int × DS) := match s1.1.header[s1.1.cells]? with
  | none => none
  | some h => match dTell ⟨8, h, ⟨#[]⟩⟩ s1 with
    | none => none
    | some s2 => dRow3 t more s2
theorem dRow2_none {t : ByteArray} {more : Bool} {m : Dlm} {q : List Ev} (h : m.header[m.cells]? = none) : dRow2 t more (m, q) = none := by unfold dRow2; simp only [h]
theorem dRow2_some {t : ByteArray} {more : Bool} {m : Dlm} {q : List Ev} {k : ByteArray} (h : m.header[m.cells]? = some k) : dRow2 t more (m, q) = match dTell ⟨8, k, ⟨#[]⟩⟩ (m, q) with
    | none => none
    | some s2 => dRow3 t more s2 := by unfold dRow2; simp only [h]
theorem vec_at {α : Type} {p : Bool} {lo len cap : Nat} {xs l : List α} (hv : VecOk p lo len cap xs l) {i : Nat} {x : α} (h : l[i]? = some x) : i < len ∧ xs[lo + i]? = some x ∧ lo + i < xs.length := by
  have hl := hv.length
  have hr := hv.room
  have hf := hv.fits
  have hi := (List.getElem?_eq_some_iff.1 h).1
  refine ⟨by omega, ?_, by omega⟩
  have h5 : ((xs.drop lo).take len)[i]? = some x := by rw [hv.eq]; exact h
  rw [List.getElem?_take, if_pos (by omega), List.getElem?_drop] at h5
  exact h5
theorem dRow_eq (t : ByteArray) (more : Bool) (s : DS) : dRow t more s = match (if s.1.cells = 0 then dTell (ev0 7) s else some s) with
  | none => none
  | some s1 => dRow2 t more s1 := rfl
def plEnds : List (Nat × Plan) := [(2, (tk [0, 1, 2, 3, 4, 6, 7, 8] (.all [(5, (.all [(9, (tk [10] (.all [(11, (tk [12, 13] (.all [(14, (tk [15, 16] (.all [(17, .done)])))])))])))])), (9, (tk [10] (.all [(5, (.all [(11, (tk [12, 13] (.all [(14, (tk [15, 16] (.all [(17, .done)])))])))]))])))]))), (7, (tk [0, 1, 2, 3, 5, 6, 7] (.all [(4, (.all [(8, (tk [9] (.all [(10, (tk [11] (.all [(12, .done)])))])))])), (8, (.all [(4, (tk [9] (.all [(10, (tk [11] (.all [(12, .done)])))])))]))]))), (10, (tk [0, 1, 2, 3, 5, 6, 7] (.all [(4, (.all [(8, (tk [9, 10, 11] .done))])), (8, (tk [9] (.all [(4, (tk [10, 11] .done))])))])))]
theorem ends_d (m : Dlm) (c : Core) (more : Bool) : Triple (BB Ip GOk) 227 2 2 [.ptr 0 0, .bool more, .fn (.func 55) [.ptr 1 0] []] [.abs (.dlm m) [0, 1], .abs (.core c 68 51) [1, 0]]
    (fun K => PostD K c (dEnds more (m, c.queue))) := by
  obtain ⟨state, started, row, header, named, cell, cells⟩ := m
  refine triple_of BB_ok (tb := ty) rfl (n0 := 4) (fun y : {cs' // Tm (.dlm ⟨state, started, row, header, named, cell, cells⟩) cs'} => csRen (sg [0, 1] 2) y.1 ++ [.abs (.core c 68 51) [1, 0]]) plEnds Tryz.call227 Tryz.func227 rfl (by kernel_rfl) (Nat.le_of_ble_eq_true rfl) (by decide) rfl (pre_open rfl rfl rfl) ?_
  rintro G hG K hK W bi bc bs bk bu bb bo bg bl bp bn be Ncond Nob Nop Nloop Nscope hN Nfin hf _ ⟨cs', hT⟩
  obtain ⟨p, lo, len, cap, xs, q, lo2, len2, cap2, ys, hv1, hv2, hok, rfl⟩ := id hT
  simp only at hv1 hv2 hok
  have hl2 := hv2.length
  have hroom2 := hv2.room
  have hfits2 := hv2.fits
  have hv6 : VecOk q lo2 0 cap2 ys [] := ⟨hv2.pr, hv2.room, Nat.zero_le _, rfl⟩
  unfold dEnds at hK
  simp only at hK
  cbv
  refine op_ hN (bytes_str ty_ok rfl rfl rfl rfl rfl rfl rfl (by omega) (fun h => by have := hv2.pr h; omega) ?_)
  intro s hs
  have hsb : bytesOf cell = s := by rw [← hv2.eq, ← hs]; simp [bytesOf]
  rw [hsb] at hK
  clear hs hsb
  cbv
  repeat' (first | exact True.intro | with_reducible refine dup ?_ | refine And.intro ?_ ?_)
  all_goals
    refine op_ hN (slice_none ty_ok (t := 34) (wd := 1) rfl rfl ?_)
    cbv
    repeat' (first | exact True.intro | with_reducible refine dup ?_ | refine And.intro ?_ ?_)
  all_goals
    cases named with
    | false =>
      rw [if_neg (by simp)] at hK
      by_cases hh : header.length < 900000
      rotate_left
      · have hno : dNames s more (⟨0, started, row, header, false, [], cells⟩, c.queue) = none := by unfold dNames; rw [if_pos (by simp only; omega)]
        rw [hno] at hK; exact hK.elim
      cbv
      refine cond_T hN rfl ?_
      cbv
      refine op_ hN (op_cput 0 [.int .i64 0, .bool started, .bool row, .vec p 2 1 lo len cap, .bool false, .vec q 3 1 lo2 0 cap2, .int .i64 (Int.ofNat cells)] rfl (fun _ => rfl) (op_close rfl (.dlm ⟨0, started, row, header, false, [], cells⟩) [0, 1] [2, 3] _ (dlmTm hv1 hv6 ⟨hok.1, Nat.zero_le _, hok.2.2⟩) rfl rfl ?_))
      refine call_ (names_d ⟨0, started, row, header, false, [], cells⟩ s more hh) hG [0, 1] rfl rfl rfl rfl rfl ?_
      intro e m' h
      rw [h c.queue] at hK
      cbv
      exact hf _ _ (fin_ [] rfl rfl (hK c rfl))
    | true =>
      rw [if_pos rfl, dRow_eq] at hK
      simp only at hK
      have hceq : bc .eql (Int.ofNat cells) 0 = decide (cells = 0) := by
        rw [ceq hN]
        by_cases h : cells = 0
        · rw [h]; rfl
        · have h2 : ¬ ((cells : Int) = 0) := by omega
          simp [h]
      cbv
      refine cond_F hN rfl ?_
      cbv
      refine cond_ hN ?_ ?_ <;> intro h0 <;> rw [hceq] at h0
      · have h0 : cells = 0 := of_decide_eq_true h0
        rw [if_pos h0] at hK
        rcases dTell_cases (ev0 7) ⟨0, started, row, header, true, [], cells⟩ c.queue with ⟨h1, _⟩ | ⟨h1, hq⟩
        · rw [h1] at hK; exact hK.elim
        rw [h1] at hK
        cbv
        refine op_ hN (call_ (told_d _ _ c (ev0 7) hq) hG [1, 0] rfl rfl rfl rfl rfl ?_)
        intro c1 hc1
        have hK1 : PostD K c1 (dRow2 s more (⟨0, started, row, header, true, [], cells⟩, c1.queue)) := by
          have := PostD.same hK ⟨_, hc1⟩
          rw [hc1] at this ⊢
          exact this
        clear hK hc1 h1 hq
        have hK1 := hK1
        cases hget : header[cells]? with
        | none =>
          rw [dRow2_none hget] at hK1
          exact hK1.elim
        | some hk =>
          rw [dRow2_some hget] at hK1
          obtain ⟨hcl, hx1, hx2⟩ := vec_at hv1 hget
          have hl1 := hv1.length
          have hpt : p = true := by
            cases p with
            | true => rfl
            | false => have := hv1.pr rfl; have := hv1.fits; omega
          have hidx : bp lo (Int.ofNat cells) = lo + cells := by rw [bp_ hN]; simp
          have hadd : bi .add .i64 (Int.ofNat cells) 1 = Int.ofNat (cells + 1) := inext hN (by omega)
          have hlss : bc .lss (Int.ofNat (cells + 1)) (Int.ofNat len) = decide (cells + 1 < header.length) := by
            rw [clt hN, hl1]
            by_cases h : cells + 1 < len
            · have h2 : ((cells + 1 : Nat) : Int) < (len : Int) := by omega
              rw [decide_eq_true h]; exact decide_eq_true h2
            · have h2 : ¬ ((cells + 1 : Nat) : Int) < (len : Int) := by omega
              rw [decide_eq_false h]; exact decide_eq_false h2
          obtain ⟨blt, hblt⟩ : ∃ b, decide (cells + 1 < header.length) = b := ⟨_, rfl⟩
          rw [hblt] at hlss
          obtain ⟨cells1, hcells1⟩ : ∃ x, x = cells + 1 := ⟨_, rfl⟩
          rw [← hcells1] at hadd hlss
          have hok1 : header.length ≤ 900001 ∧ ([] : List UInt8).length ≤ 48 ∧ cells1 ≤ header.length := ⟨hok.1, Nat.zero_le _, by omega⟩
          have hok0 : header.length ≤ 900001 ∧ ([] : List UInt8).length ≤ 48 ∧ 0 ≤ header.length := ⟨hok.1, Nat.zero_le _, Nat.zero_le _⟩
          cbv
          repeat' (first | exact True.intro | with_reducible refine dup ?_ | refine And.intro ?_ ?_)
          all_goals
            refine ob_ hN ⟨⟨by simp, by simpa using hcl⟩, hpt, trivial⟩ ?_
            cbv
            repeat' (first | exact True.intro | with_reducible refine dup ?_ | refine And.intro ?_ ?_)
            refine op_ hN (load_arr ty_ok rfl hpt rfl wideS (Nat.le_of_ble_eq_true rfl) (by rw [hidx]; exact hx2) ?_)
            intro z hz
            rw [hidx, hx1] at hz
            obtain rfl := Option.some.inj hz
            clear hz
            cbv
            repeat' (first | exact True.intro | with_reducible refine dup ?_ | refine And.intro ?_ ?_)
            all_goals
              rcases dTell_cases ⟨8, hk, ⟨#[]⟩⟩ ⟨0, started, row, header, true, [], cells⟩ c1.queue with ⟨h1, _⟩ | ⟨h1, hq⟩
              · rw [h1] at hK1; exact hK1.elim
              rw [h1] at hK1
              refine op_ hN (call_ (told_d _ _ c1 ⟨8, hk, ⟨#[]⟩⟩ hq) hG [1, 0] rfl rfl rfl rfl rfl ?_)
              intro c2 hcn
              have hK1 : PostD K c2 (dRow3 s more (⟨0, started, row, header, true, [], cells⟩, c2.queue)) := by
                have := PostD.same hK1 ⟨_, hcn⟩
                rw [hcn] at this ⊢
                exact this
              clear hcn h1 hq
              unfold dRow3 at hK1
              cbv
              rcases dTell_cases ⟨4, s, ⟨#[]⟩⟩ ⟨0, started, row, header, true, [], cells⟩ c2.queue with ⟨h1, _⟩ | ⟨h1, hq⟩
              · rw [h1] at hK1; exact hK1.elim
              rw [h1] at hK1
              refine op_ hN (call_ (told_d _ _ c2 ⟨4, s, ⟨#[]⟩⟩ hq) hG [1, 0] rfl rfl rfl rfl rfl ?_)
              intro c3 hcn
              have hK1 : PostD K c3 (dRow4 more (⟨0, started, row, header, true, [], cells⟩, c3.queue)) := by
                have := PostD.same hK1 ⟨_, hcn⟩
                rw [hcn] at this ⊢
                exact this
              clear hcn h1 hq
              have hd4 : dRow4 more (⟨0, started, row, header, true, [], cells⟩, c3.queue) = if (more != blt) = true then some ((17 : Int), ((⟨0, started, row, header, true, [], cells1⟩ : Dlm), c3.queue)) else if more then some (0, (⟨0, started, row, header, true, [], cells1⟩, c3.queue))
                  else match dTell (ev0 9) (⟨0, started, row, header, true, [], cells⟩, c3.queue) with
                    | none => none
                    | some s4 => some (0, ({ s4.1 with cells := 0, row := false }, s4.2)) := by rw [← hblt, hcells1]; rfl
              rw [hd4] at hK1
              clear hd4 hget
              cbv
              simp only [hadd]
              cbv
              repeat' (first | exact True.intro | with_reducible refine dup ?_ | refine And.intro ?_ ?_)
              all_goals
                simp only [hlss]
                cases more with
                | true =>
                  cases blt with
                  | true =>
                    have hK1 : PostD K c3 (some (0, ((⟨0, started, row, header, true, [], cells1⟩ : Dlm), c3.queue))) := hK1
                    have hKf := hK1 c3 rfl
                    cbv
                    refine cond_F hN rfl ?_
                    cbv
                    refine cond_F hN rfl ?_
                    cbv
                    exact hf _ _ (fin_cput 0 [.int .i64 0, .bool started, .bool row, .vec p 2 1 lo len cap, .bool true, .vec q 3 1 lo2 0 cap2, .int .i64 (Int.ofNat cells1)] rfl (fun _ => rfl) (fin_close rfl (.dlm ⟨0, started, row, header, true, [], cells1⟩) [0, 1] [2, 3] _ (dlmTm hv1 hv6 hok1) rfl (fin_ [] rfl rfl hKf)))
                  | false =>
                    have hK1 : PostD K c3 (some (17, ((⟨0, started, row, header, true, [], cells1⟩ : Dlm), c3.queue))) := hK1
                    have hKf := hK1 c3 rfl
                    cbv
                    refine cond_T hN rfl ?_
                    cbv
                    exact hf _ _ (fin_cput 0 [.int .i64 0, .bool started, .bool row, .vec p 2 1 lo len cap, .bool true, .vec q 3 1 lo2 0 cap2, .int .i64 (Int.ofNat cells1)] rfl (fun _ => rfl) (fin_close rfl (.dlm ⟨0, started, row, header, true, [], cells1⟩) [0, 1] [2, 3] _ (dlmTm hv1 hv6 hok1) rfl (fin_ [] rfl rfl hKf)))
                | false =>
                  cases blt with
                  | true =>
                    have hK1 : PostD K c3 (some (17, ((⟨0, started, row, header, true, [], cells1⟩ : Dlm), c3.queue))) := hK1
                    have hKf := hK1 c3 rfl
                    cbv
                    refine cond_T hN rfl ?_
                    cbv
                    exact hf _ _ (fin_cput 0 [.int .i64 0, .bool started, .bool row, .vec p 2 1 lo len cap, .bool true, .vec q 3 1 lo2 0 cap2, .int .i64 (Int.ofNat cells1)] rfl (fun _ => rfl) (fin_close rfl (.dlm ⟨0, started, row, header, true, [], cells1⟩) [0, 1] [2, 3] _ (dlmTm hv1 hv6 hok1) rfl (fin_ [] rfl rfl hKf)))
                  | false =>
                    rcases dTell_cases (ev0 9) ⟨0, started, row, header, true, [], cells⟩ c3.queue with ⟨h1, _⟩ | ⟨h1, hq⟩
                    · rw [h1] at hK1; exact (show False from hK1).elim
                    rw [h1] at hK1
                    have hK1 : PostD K c3 (some (0, ((⟨0, started, false, header, true, [], 0⟩ : Dlm), c3.queue ++ [ev0 9]))) := hK1
                    cbv
                    refine cond_F hN rfl ?_
                    cbv
                    refine cond_T hN rfl ?_
                    cbv
                    refine op_ hN (call_ (told_d _ _ c3 (ev0 9) hq) hG [1, 0] rfl rfl rfl rfl rfl ?_)
                    intro c4 hc4
                    have hKf := hK1 c4 hc4
                    clear hc4 h1 hK1
                    cbv
                    repeat' (first | exact True.intro | with_reducible refine dup ?_ | refine And.intro ?_ ?_)
                    all_goals
                      exact hf _ _ (fin_cput 0 [.int .i64 0, .bool started, .bool false, .vec p 2 1 lo len cap, .bool true, .vec q 3 1 lo2 0 cap2, .int .i64 (Int.ofNat 0)] rfl (fun _ => rfl) (fin_close rfl (.dlm ⟨0, started, false, header, true, [], 0⟩) [0, 1] [2, 3] _ (dlmTm hv1 hv6 hok0) rfl (fin_ [] rfl rfl hKf)))
      · have h0 : ¬ cells = 0 := of_decide_eq_false h0
        rw [if_neg h0] at hK
        have hK1 : PostD K c (dRow2 s more (⟨0, started, row, header, true, [], cells⟩, c.queue)) := hK
        have hK1 := hK1
        cases hget : header[cells]? with
        | none =>
          rw [dRow2_none hget] at hK1
          exact hK1.elim
        | some hk =>
          rw [dRow2_some hget] at hK1
          obtain ⟨hcl, hx1, hx2⟩ := vec_at hv1 hget
          have hl1 := hv1.length
          have hpt : p = true := by
            cases p with
            | true => rfl
            | false => have := hv1.pr rfl; have := hv1.fits; omega
          have hidx : bp lo (Int.ofNat cells) = lo + cells := by rw [bp_ hN]; simp
          have hadd : bi .add .i64 (Int.ofNat cells) 1 = Int.ofNat (cells + 1) := inext hN (by omega)
          have hlss : bc .lss (Int.ofNat (cells + 1)) (Int.ofNat len) = decide (cells + 1 < header.length) := by
            rw [clt hN, hl1]
            by_cases h : cells + 1 < len
            · have h2 : ((cells + 1 : Nat) : Int) < (len : Int) := by omega
              rw [decide_eq_true h]; exact decide_eq_true h2
            · have h2 : ¬ ((cells + 1 : Nat) : Int) < (len : Int) := by omega
              rw [decide_eq_false h]; exact decide_eq_false h2
          obtain ⟨blt, hblt⟩ : ∃ b, decide (cells + 1 < header.length) = b := ⟨_, rfl⟩
          rw [hblt] at hlss
          obtain ⟨cells1, hcells1⟩ : ∃ x, x = cells + 1 := ⟨_, rfl⟩
          rw [← hcells1] at hadd hlss
          have hok1 : header.length ≤ 900001 ∧ ([] : List UInt8).length ≤ 48 ∧ cells1 ≤ header.length := ⟨hok.1, Nat.zero_le _, by omega⟩
          have hok0 : header.length ≤ 900001 ∧ ([] : List UInt8).length ≤ 48 ∧ 0 ≤ header.length := ⟨hok.1, Nat.zero_le _, Nat.zero_le _⟩
          cbv
          repeat' (first | exact True.intro | with_reducible refine dup ?_ | refine And.intro ?_ ?_)
          all_goals
            refine ob_ hN ⟨⟨by simp, by simpa using hcl⟩, hpt, trivial⟩ ?_
            cbv
            repeat' (first | exact True.intro | with_reducible refine dup ?_ | refine And.intro ?_ ?_)
            refine op_ hN (load_arr ty_ok rfl hpt rfl wideS (Nat.le_of_ble_eq_true rfl) (by rw [hidx]; exact hx2) ?_)
            intro z hz
            rw [hidx, hx1] at hz
            obtain rfl := Option.some.inj hz
            clear hz
            cbv
            repeat' (first | exact True.intro | with_reducible refine dup ?_ | refine And.intro ?_ ?_)
            all_goals
              rcases dTell_cases ⟨8, hk, ⟨#[]⟩⟩ ⟨0, started, row, header, true, [], cells⟩ c.queue with ⟨h1, _⟩ | ⟨h1, hq⟩
              · rw [h1] at hK1; exact hK1.elim
              rw [h1] at hK1
              refine op_ hN (call_ (told_d _ _ c ⟨8, hk, ⟨#[]⟩⟩ hq) hG [1, 0] rfl rfl rfl rfl rfl ?_)
              intro c2 hcn
              have hK1 : PostD K c2 (dRow3 s more (⟨0, started, row, header, true, [], cells⟩, c2.queue)) := by
                have := PostD.same hK1 ⟨_, hcn⟩
                rw [hcn] at this ⊢
                exact this
              clear hcn h1 hq
              unfold dRow3 at hK1
              cbv
              rcases dTell_cases ⟨4, s, ⟨#[]⟩⟩ ⟨0, started, row, header, true, [], cells⟩ c2.queue with ⟨h1, _⟩ | ⟨h1, hq⟩
              · rw [h1] at hK1; exact hK1.elim
              rw [h1] at hK1
              refine op_ hN (call_ (told_d _ _ c2 ⟨4, s, ⟨#[]⟩⟩ hq) hG [1, 0] rfl rfl rfl rfl rfl ?_)
              intro c3 hcn
              have hK1 : PostD K c3 (dRow4 more (⟨0, started, row, header, true, [], cells⟩, c3.queue)) := by
                have := PostD.same hK1 ⟨_, hcn⟩
                rw [hcn] at this ⊢
                exact this
              clear hcn h1 hq
              have hd4 : dRow4 more (⟨0, started, row, header, true, [], cells⟩, c3.queue) = if (more != blt) = true then some ((17 : Int), ((⟨0, started, row, header, true, [], cells1⟩ : Dlm), c3.queue)) else if more then some (0, (⟨0, started, row, header, true, [], cells1⟩, c3.queue))
                  else match dTell (ev0 9) (⟨0, started, row, header, true, [], cells⟩, c3.queue) with
                    | none => none
                    | some s4 => some (0, ({ s4.1 with cells := 0, row := false }, s4.2)) := by rw [← hblt, hcells1]; rfl
              rw [hd4] at hK1
              clear hd4 hget
              cbv
              simp only [hadd]
              cbv
              repeat' (first | exact True.intro | with_reducible refine dup ?_ | refine And.intro ?_ ?_)
              all_goals
                simp only [hlss]
                cases more with
                | true =>
                  cases blt with
                  | true =>
                    have hK1 : PostD K c3 (some (0, ((⟨0, started, row, header, true, [], cells1⟩ : Dlm), c3.queue))) := hK1
                    have hKf := hK1 c3 rfl
                    cbv
                    refine cond_F hN rfl ?_
                    cbv
                    refine cond_F hN rfl ?_
                    cbv
                    exact hf _ _ (fin_cput 0 [.int .i64 0, .bool started, .bool row, .vec p 2 1 lo len cap, .bool true, .vec q 3 1 lo2 0 cap2, .int .i64 (Int.ofNat cells1)] rfl (fun _ => rfl) (fin_close rfl (.dlm ⟨0, started, row, header, true, [], cells1⟩) [0, 1] [2, 3] _ (dlmTm hv1 hv6 hok1) rfl (fin_ [] rfl rfl hKf)))
                  | false =>
                    have hK1 : PostD K c3 (some (17, ((⟨0, started, row, header, true, [], cells1⟩ : Dlm), c3.queue))) := hK1
                    have hKf := hK1 c3 rfl
                    cbv
                    refine cond_T hN rfl ?_
                    cbv
                    exact hf _ _ (fin_cput 0 [.int .i64 0, .bool started, .bool row, .vec p 2 1 lo len cap, .bool true, .vec q 3 1 lo2 0 cap2, .int .i64 (Int.ofNat cells1)] rfl (fun _ => rfl) (fin_close rfl (.dlm ⟨0, started, row, header, true, [], cells1⟩) [0, 1] [2, 3] _ (dlmTm hv1 hv6 hok1) rfl (fin_ [] rfl rfl hKf)))
                | false =>
                  cases blt with
                  | true =>
                    have hK1 : PostD K c3 (some (17, ((⟨0, started, row, header, true, [], cells1⟩ : Dlm), c3.queue))) := hK1
                    have hKf := hK1 c3 rfl
                    cbv
                    refine cond_T hN rfl ?_
                    cbv
                    exact hf _ _ (fin_cput 0 [.int .i64 0, .bool started, .bool row, .vec p 2 1 lo len cap, .bool true, .vec q 3 1 lo2 0 cap2, .int .i64 (Int.ofNat cells1)] rfl (fun _ => rfl) (fin_close rfl (.dlm ⟨0, started, row, header, true, [], cells1⟩) [0, 1] [2, 3] _ (dlmTm hv1 hv6 hok1) rfl (fin_ [] rfl rfl hKf)))
                  | false =>
                    rcases dTell_cases (ev0 9) ⟨0, started, row, header, true, [], cells⟩ c3.queue with ⟨h1, _⟩ | ⟨h1, hq⟩
                    · rw [h1] at hK1; exact (show False from hK1).elim
                    rw [h1] at hK1
                    have hK1 : PostD K c3 (some (0, ((⟨0, started, false, header, true, [], 0⟩ : Dlm), c3.queue ++ [ev0 9]))) := hK1
                    cbv
                    refine cond_F hN rfl ?_
                    cbv
                    refine cond_T hN rfl ?_
                    cbv
                    refine op_ hN (call_ (told_d _ _ c3 (ev0 9) hq) hG [1, 0] rfl rfl rfl rfl rfl ?_)
                    intro c4 hc4
                    have hKf := hK1 c4 hc4
                    clear hc4 h1 hK1
                    cbv
                    repeat' (first | exact True.intro | with_reducible refine dup ?_ | refine And.intro ?_ ?_)
                    all_goals
                      exact hf _ _ (fin_cput 0 [.int .i64 0, .bool started, .bool false, .vec p 2 1 lo len cap, .bool true, .vec q 3 1 lo2 0 cap2, .int .i64 (Int.ofNat 0)] rfl (fun _ => rfl) (fin_close rfl (.dlm ⟨0, started, false, header, true, [], 0⟩) [0, 1] [2, 3] _ (dlmTm hv1 hv6 hok0) rfl (fin_ [] rfl rfl hKf)))
end Hx
