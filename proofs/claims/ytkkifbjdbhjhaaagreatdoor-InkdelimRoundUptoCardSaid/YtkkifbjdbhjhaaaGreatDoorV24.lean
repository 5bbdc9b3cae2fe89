/-
  Part of a proof.
-/
import Derived.Test.YtkkifbjdbhjhaaaGreatDoorV23
import Derived.Test.YtkkifbjdbhjhaaaGreatDoorV19
set_option linter.unusedVariables false
set_option linter.unusedSimpArgs false
/- ref05.Step, where it takes: the walk. -/
namespace Hx
open Go Sx Go.Proofs
set_option maxRecDepth 100000
set_option maxHeartbeats 4000000
set_option linter.unusedVariables false
set_option linter.unusedSimpArgs false
variable {GOk : Gl → Prop}
theorem opnGo_lt : ∀ (l : List Ev) (i : Nat) (s : List Nat), (∀ j ∈ s, j < i) → ∀ j ∈ opnGo i s l, j < i + l.length
  | [], i, s, h, j, hj => by simp only [opnGo] at hj; have := h j hj; simp; omega
  | x :: r, i, s, h, j, hj => by
    simp only [opnGo] at hj
    have := opnGo_lt r (i + 1) _ (fun a ha => by
      split at ha
      · rcases List.mem_cons.1 ha with rfl | ha
        · omega
        · have := h a ha; omega
      · split at ha
        · have := h a (List.mem_of_mem_tail ha); omega
        · have := h a ha; omega) j hj
    simp only [List.length_cons]; omega
theorem ownGo_len : ∀ (l : List Ev) (i : Nat) (d : Int), (ownGo i d l).length ≤ l.length
  | [], _, _ => Nat.le_refl _
  | x :: r, i, d => by
    simp only [ownGo, List.length_cons]
    split
    · have := ownGo_len r (i + 1) (d - 1); omega
    · have := ownGo_len r (i + 1) (if k57a x.kind then d + 1 else d)
      rw [List.length_append]
      split <;> simp <;> omega
/-- what is known where something is open -/
structure StepAt (l : List Ev) (x : Ev) (q : Nat) (ps : List Nat) : Prop where
  fits : fitsR (l.getD q evD).kind (lastK (ownE l q)) x = true
  deep : k57a x.kind = true → ¬ 6 ≤ ps.length + 1
  key : x.kind = 8 → (∀ y ∈ ownE l q, y.kind = 8 → y.text ≠ x.text) ∧ ((ownE l q).filter fun y => y.kind == 8).length < 10
theorem refStep_facts {l : List Ev} {x : Ev} (h : refStep refRight l x = 0) : refRight x = true ∧ ((opnGo 0 [] l = [] → isVal x.kind = true ∧ l = []) ∧ ∀ q ps, opnGo 0 [] l = q :: ps → StepAt l x q ps) := by
  unfold refStep at h
  by_cases hr : refRight x = true
  rotate_left
  · rw [if_pos (by simpa using hr)] at h; exact absurd h (by decide)
  rw [if_neg (by simpa using hr)] at h
  refine ⟨hr, fun ho => ?_, fun q ps ho => ?_⟩
  · rw [ho] at h
    simp only at h
    split at h
    · exact absurd h (by decide)
    · rename_i hn
      simp only [Bool.or_eq_true, Bool.not_eq_true', decide_eq_true_eq, not_or, Bool.not_eq_false] at hn
      exact ⟨hn.1, List.eq_nil_of_length_eq_zero (by omega)⟩
  · rw [ho] at h
    simp only at h
    split at h
    · exact absurd h (by decide)
    rename_i h1
    split at h
    · exact absurd h (by decide)
    rename_i h2
    refine ⟨by simpa using h1, fun hk hd => h2 (by simp [hk, hd]), fun h8 => ?_⟩
    rw [if_pos (.inl h8)] at h
    split at h
    · exact absurd h (by decide)
    rename_i h3
    split at h
    · exact absurd h (by decide)
    rename_i h4
    rw [h8] at h3 h4
    refine ⟨fun y hy hy8 hyt => h3 ?_, by omega⟩
    rw [List.any_eq_true]
    exact ⟨y, hy, by simp [hy8, hyt]⟩
theorem own_last {l : List Ev} {q : Nat} {o : List Nat} (ho : ownGo (q + 1) 0 (l.drop (q + 1)) = o) : ownE l q = o.map fun i => l.getD i evD := by unfold ownE; rw [ho]
theorem getD_at {l : List Ev} {j : Nat} (h : j < l.length) : l[j]? = some (l.getD j evD) := by
  rw [List.getD_eq_getElem?_getD, List.getElem?_eq_getElem h]; rfl
theorem lastK_map {l : List Ev} : ∀ {o : List Nat} {d j : Nat}, o.length = d + 1 → o[d]? = some j → lastK (o.map fun i => l.getD i evD) = (l.getD j evD).kind := fun {o d j} h1 h2 => by
  unfold lastK
  rw [List.getLast?_eq_getElem?, List.length_map, h1, Nat.add_sub_cancel, List.getElem?_map, h2]
  rfl
theorem step_r (p wr : Bool) (lo len cap : Nat) (xs l : List Ev) (hv : VecOk p lo len cap xs l) (hlen : len ≤ 1000000) (x : Ev) (hk : k49 x.kind) (hkl : ∀ y ∈ l, k49 y.kind) (h : refStep refRight l x = 0) :
    Triple (BB Ip GOk) 32 1 1 [.vec p 0 3 lo len cap, .agg [.int .i64 x.kind, .str x.text, .str x.val]] [.arr p wr 0 56 encE xs] (fun K => K (.ret (.int .i64 0)) [.arr p wr 0 56 encE xs]) := by
  obtain ⟨hr, hno, hst⟩ := refStep_facts h
  clear h
  have hvl := hv.length
  have hroom := hv.room
  have hfits := hv.fits
  have hRt := right_r (GOk := GOk) x hk hr
  obtain ⟨k, t, v⟩ := x
  simp only at hk hRt hno
  refine triple_of BB_ok (tb := ty) rfl (n0 := 1) (fun _ : Unit => _) pl32 Tryz.call32 Tryz.func32 (c := rst_128) rst_fold (by kernel_rfl) (Nat.le_of_ble_eq_true rfl) (by decide) rfl pre_none ?_
  rintro G hG K hK W bi bc bs bk bu bb bo bg bl bp bn be Ncond Nob Nop Nloop Nscope hN Nfin hf _ _
  cbv
  refine op_ hN (call_ hRt hG [] rfl rfl rfl rfl rfl ?_)
  cbv
  refine cond_F hN rfl ?_
  cbv
  refine op_ hN (call_ (at_spec_r p wr lo len cap xs l hv hlen) hG [0] rfl rfl rfl rfl rfl ?_)
  intro a d hcase
  have h44 : bc .eql 4 4 = true := by rw [ceq hN]; rfl
  cbv
  rcases hcase with ⟨ho, rfl, rfl⟩ | ⟨q0, ps, ho, rfl, rfl⟩
  · obtain ⟨hval, rfl⟩ := hno ho
    have hl0 : len = 0 := by simpa using hvl.symm
    subst hl0
    have hneg : bc .lss (-1) 0 = true := by rw [clt hN]; rfl
    have hgt : bc .gtr (Int.ofNat 0) 0 = false := by rw [cgt hN]; rfl
    rcases hk with rfl | rfl | rfl | rfl | rfl | rfl
    all_goals first
      | exact absurd hval (by decide)
      | skip
    all_goals
      repeat' (first
        | (refine cond_T hN ?_ ?_; (focus (rw [ceq hN]; rfl)); cbv)
        | (refine cond_F hN ?_ ?_; (focus (rw [ceq hN]; rfl)); cbv))
      refine cond_T hN hneg ?_
      cbv
      try simp only [h44]
      repeat' (first
        | (refine cond_F hN hgt ?_; cbv)
        | (refine cond_F hN rfl ?_; cbv)
        | (refine cond_T hN rfl ?_; cbv))
      exact hf _ _ (fin_ [] rfl rfl hK)
  · have hS := hst q0 ps ho
    have hpt : p = true := by
      cases p with
      | true => rfl
      | false =>
        have := hv.pr rfl
        have := opnGo_lt l 0 [] (by simp) q0 (by rw [ho]; simp)
        omega
    have hq0 : q0 < l.length := by
      have := opnGo_lt l 0 [] (by simp) q0 (by rw [ho]; simp)
      omega
    clear hno hst hRt
    have hown : ∀ j ∈ ownGo (q0 + 1) 0 (l.drop (q0 + 1)), j < l.length := fun j hj => by
      have := ownGo_lt _ _ _ j hj
      rw [List.length_drop] at this; omega
    have holl : (ownGo (q0 + 1) 0 (l.drop (q0 + 1))).length ≤ 1000000 := by
      have := ownGo_len (l.drop (q0 + 1)) (q0 + 1) 0
      rw [List.length_drop] at this; omega
    have hOw := own_spec_r (GOk := GOk) p wr lo len cap xs l hv hlen q0 (by omega)
    have hoE := own_last (l := l) (q := q0) rfl
    obtain ⟨hfit, hdeep, hkey⟩ := hS
    rw [hoE] at hfit hkey
    generalize ownGo (q0 + 1) 0 (l.drop (q0 + 1)) = o at hOw hown hfit hkey holl
    have hkq := hkl (l.getD q0 evD) (by rw [List.getD_eq_getElem?_getD, List.getElem?_eq_getElem hq0]; exact List.getElem_mem _)
    have hxq : xs[lo + q0]? = some (l.getD q0 evD) := (vec_at hv (getD_at hq0)).2.1
    have hget : ∀ j ∈ o, xs[lo + j]? = some (l.getD j evD) ∧ j < len := fun j hj => ⟨(vec_at hv (getD_at (hown j hj))).2.1, by have := hown j hj; omega⟩
    obtain ⟨yq, hyq⟩ : ∃ y, l.getD q0 evD = y := ⟨_, rfl⟩
    rw [hyq] at hxq hkq hfit
    obtain ⟨kq, tq, vq⟩ := yq
    simp only at hkq hfit hdeep hkey
    have hkq2 : kq = 5 ∨ kq = 7 := by
      unfold fitsR at hfit
      rcases hkq with rfl | rfl | rfl | rfl | rfl | rfl <;> first | exact .inl rfl | exact .inr rfl | simp at hfit
    have hneg : bc .lss (Int.ofNat q0) 0 = false := by
      rw [clt hN]
      have h2 : ¬ ((q0 : Int) < 0) := by omega
      exact decide_eq_false h2
    have hd6 : k57a k = true → bc .geq (Int.ofNat (ps.length + 1)) 6 = false := fun h => by
      rw [cge hN]
      have h2 : ¬ ((6 : Int) ≤ ((ps.length + 1 : Nat) : Int)) := by have := hdeep h; omega
      exact decide_eq_false h2
    have hqlen : (q0 : Int) < (len : Int) := by omega
    obtain ⟨dp, hdp⟩ : ∃ x, ps.length + 1 = x := ⟨_, rfl⟩
    rw [hdp] at hd6
    simp only [hdp]
    have hidq : bp lo (Int.ofNat q0) = lo + q0 := by rw [bp_ hN]; simp
    rcases hk with rfl | rfl | rfl | rfl | rfl | rfl
    all_goals
      try simp only [h44]
      repeat' (first
        | (refine cond_T hN ?_ ?_; (focus (rw [ceq hN]; rfl)); cbv)
        | (refine cond_F hN ?_ ?_; (focus (rw [ceq hN]; rfl)); cbv))
      try simp only [h44]
      refine cond_F hN hneg ?_
      cbv
      refine op_ hN (call_ hOw hG [0] rfl rfl rfl rfl rfl ?_)
      intro oq olo olen ocap oys hw
      cbv
      refine cond_ hN ?_ ?_ <;> intro hol <;> rw [cgt hN] at hol
      · have hol : 0 < olen := by
          have := of_decide_eq_true hol
          have : (0 : Int) < (olen : Int) := this
          omega
        obtain ⟨m, hm⟩ : ∃ m, olen = m + 1 := ⟨olen - 1, by omega⟩
        have hwl := hw.length
        rw [List.length_map] at hwl
        obtain ⟨j, hj⟩ : ∃ j, o[m]? = some j := ⟨o[m]'(by omega), List.getElem?_eq_getElem (by omega)⟩
        obtain ⟨hw1, hw2, hw3⟩ := vec_at hw (i := m) (x := Int.ofNat j) (by rw [List.getElem?_map, hj]; rfl)
        have hoqt : oq = true := by
          cases oq with
          | true => rfl
          | false => have := hw.pr rfl; have := hw.fits; omega
        have hjm := List.mem_of_getElem? hj
        obtain ⟨hgj1, hgj2⟩ := hget j hjm
        have hlkE := lastK_map (l := l) (o := o) (d := m) (by omega) hj
        have hsub : bi .sub .i64 (Int.ofNat olen) 1 = Int.ofNat m := by rw [isub hN (by simp; omega) (by simp; omega)]; simp; omega
        have hidm : bp olo (Int.ofNat m) = olo + m := by rw [bp_ hN]; simp
        have hidj : bp lo (Int.ofNat j) = lo + j := by rw [bp_ hN]; simp
        cbv
        simp only [hsub]
        refine ob_ hN ⟨⟨by simp, by simp; omega⟩, hoqt, trivial⟩ ?_
        cbv
        refine op_ hN (load_arr ty_ok rfl hoqt rfl wideI (Nat.le_of_ble_eq_true rfl) (by rw [hidm]; omega) ?_)
        intro z hz
        rw [hidm, hw2] at hz
        cbv
        obtain rfl := Option.some.inj hz
        clear hz
        refine ob_ hN ⟨⟨by simp, by simpa using hgj2⟩, hpt, trivial⟩ ?_
        cbv
        refine op_ hN (load_arr ty_ok rfl hpt rfl wideE (Nat.le_of_ble_eq_true rfl) (by rw [hidj]; omega) ?_)
        intro y hy
        rw [hidj, hgj1] at hy
        cbv
        obtain ⟨yk, yt, yv⟩ := y
        have hyk : yk = lastK (o.map fun i => l.getD i evD) := by rw [hlkE]; exact congrArg Ev.kind (Option.some.inj hy).symm
        generalize lastK (o.map fun i => l.getD i evD) = lk at hfit hyk
        dsimp only
        subst hyk
        refine ob_ hN ⟨⟨by simp, by simpa using hqlen⟩, hpt, trivial⟩ ?_
        cbv
        refine op_ hN (load_arr ty_ok rfl hpt rfl wideE (Nat.le_of_ble_eq_true rfl) (by rw [hidq]; omega) ?_)
        intro z hz
        rw [hidq, hxq] at hz
        cbv
        obtain ⟨zk, zt, zv⟩ := z
        have hzk : zk = kq := congrArg Ev.kind (Option.some.inj hz).symm
        dsimp only
        subst hzk
        rcases hkq2 with rfl | rfl
        all_goals
          repeat' (first
            | (refine cond_T hN ?_ ?_; (focus (rw [ceq hN]; rfl)); cbv)
            | (refine cond_F hN ?_ ?_; (focus (rw [ceq hN]; rfl)); cbv))
          try simp only [h44]
          repeat' (first
            | exact hf _ _ (fin_ [] rfl rfl hK)
            | (exfalso; revert hfit; simp [fitsR, isVal, k57a, k1234]; done)
            | (exfalso; revert hfit; simp [fitsR, isVal, k57a, k1234, h8]; done)
            | (refine cond_F hN (hd6 rfl) ?_; cbv)
            | (refine cond_T hN rfl ?_; cbv)
            | (refine cond_F hN rfl ?_; cbv)
            | (refine cond_T hN ?_ ?_; (focus (rw [ceq hN]; rfl)); cbv)
            | (refine cond_F hN ?_ ?_; (focus (rw [ceq hN]; rfl)); cbv)
            | (refine cond_ hN ?_ ?_ <;> intro h8 <;> rw [ceq hN] at h8 <;> (first | replace h8 := of_decide_eq_true h8 | replace h8 := of_decide_eq_false h8) <;> cbv))
          all_goals
            obtain ⟨hdup, hcnt⟩ := hkey rfl
            clear hkey hfit hd6
            have hwl := hw.length
            rw [List.length_map] at hwl
            refine loopN_ hN (loop_ hN ty_ok mixed (ι := Nat × Nat) (fun y => ⟨[(0, .vec p 0 3 lo len cap), (3, .ptr 1 0), (8, .int .i64 8), (11, .vec oq 2 1 olo olen ocap), (14, .int .i64 (Int.ofNat y.2)), (15, .int .i64 (Int.ofNat y.1))], [.arr p wr 0 56 encE xs, .arr oq true 2 3 encI oys, .cells 1 56 [.int .i64 8, .str t, .str v]], 3⟩)
              (fun y => y.1 ≤ olen ∧ y.2 = (((o.take y.1).map fun i => l.getD i evD).filter fun y => y.kind == 8).length) (fun y => olen - y.1) ?_ ?_)
            · exact Leads.idx (0, 0) [1, 2] ⟨Nat.zero_le _, rfl⟩ ⟨⟨rfl, rfl, rfl, rfl, rfl, rfl, trivial⟩, rfl, Nat.le_of_ble_eq_true rfl⟩
            rintro ⟨i, n⟩ ⟨hi, hn2⟩ Nnext hnx _
            simp only at hi hn2
            have hli : bc .lss (Int.ofNat i) (Int.ofNat olen) = decide (i < olen) := by
              rw [clt hN]
              by_cases h : i < olen
              · have h2 : (i : Int) < (olen : Int) := by omega
                rw [decide_eq_true h]; exact decide_eq_true h2
              · have h2 : ¬ (i : Int) < (olen : Int) := by omega
                rw [decide_eq_false h]; exact decide_eq_false h2
            cbv
            refine cond_ hN ?_ ?_ <;> intro hio <;> rw [hli] at hio
            · have hio := of_decide_eq_true hio
              obtain ⟨j, hj⟩ : ∃ j, o[i]? = some j := ⟨o[i]'(by omega), List.getElem?_eq_getElem (by omega)⟩
              obtain ⟨hw1, hw2, hw3⟩ := vec_at hw (i := i) (x := Int.ofNat j) (by rw [List.getElem?_map, hj]; rfl)
              have hoqt : oq = true := by
                cases oq with
                | true => rfl
                | false => have := hw.pr rfl; have := hw.fits; omega
              have hjm := List.mem_of_getElem? hj
              obtain ⟨hgj1, hgj2⟩ := hget j hjm
              have hidm : bp olo (Int.ofNat i) = olo + i := by rw [bp_ hN]; simp
              have hidj : bp lo (Int.ofNat j) = lo + j := by rw [bp_ hN]; simp
              have htake : ((o.take (i + 1)).map fun i => l.getD i evD) = ((o.take i).map fun i => l.getD i evD) ++ [l.getD j evD] := by rw [List.take_add_one, hj]; simp
              have hmem : l.getD j evD ∈ o.map fun i => l.getD i evD := List.mem_map.2 ⟨j, hjm, rfl⟩
              have hdj := hdup _ hmem
              have hinx : bi .add .i64 (Int.ofNat i) 1 = Int.ofNat (i + 1) := inext hN (by omega)
              have hle : (((o.take i).map fun i => l.getD i evD).filter fun y => y.kind == 8).length ≤ i := by
                refine Nat.le_trans (List.length_filter_le _ _) ?_
                rw [List.length_map, List.length_take]; omega
              have hnnx : bi .add .i64 (Int.ofNat n) 1 = Int.ofNat (n + 1) := inext hN (by omega)
              have hob1 : obsP [.inb (Int.ofNat i) (Int.ofNat olen), .tru oq] := ⟨⟨by simp, by simp; omega⟩, hoqt, trivial⟩
              have hob2 : obsP [.inb (Int.ofNat j) (Int.ofNat len), .tru p] := ⟨⟨by simp, by simpa using hgj2⟩, hpt, trivial⟩
              generalize l.getD j evD = yj at hgj1 htake hdj
              obtain ⟨jk, jt, jv⟩ := yj
              simp only at hdj
              cbv
              refine ob_ hN hob1 ?_
              cbv
              refine op_ hN (load_arr ty_ok rfl hoqt rfl wideI (Nat.le_of_ble_eq_true rfl) (by rw [hidm]; omega) ?_)
              intro z hz
              rw [hidm, hw2] at hz
              cbv
              obtain rfl := Option.some.inj hz
              clear hz
              refine ob_ hN hob2 ?_
              cbv
              refine op_ hN (load_arr ty_ok rfl hpt rfl wideE (Nat.le_of_ble_eq_true rfl) (by rw [hidj]; omega) ?_)
              intro y hy
              rw [hidj, hgj1] at hy
              cbv
              obtain rfl := Option.some.inj hy
              clear hy
              dsimp only
              refine cond_ hN ?_ ?_ <;> intro hj8 <;> rw [ceq hN] at hj8
              · have hj8 : jk = 8 := of_decide_eq_true hj8
                have hne := hdj hj8
                have hseq : bs .eql jt t = false := by rw [seq_eq hN]; simpa using hne
                cbv
                simp only [hnnx]
                repeat' (first
                  | exact True.intro
                  | with_reducible refine dup ?_
                  | refine And.intro ?_ ?_
                  | (refine ob_ hN hob1 ?_; cbv)
                  | (refine ob_ hN hob2 ?_; cbv)
                  | (refine op_ hN (load_arr ty_ok rfl hoqt rfl wideI (Nat.le_of_ble_eq_true rfl) (by rw [hidm]; omega) ?_); intro z hz; rw [hidm, hw2] at hz; cbv; obtain rfl := Option.some.inj hz; clear hz)
                  | (refine op_ hN (load_arr ty_ok rfl hpt rfl wideE (Nat.le_of_ble_eq_true rfl) (by rw [hidj]; omega) ?_); intro y hy; rw [hidj, hgj1] at hy; cbv; obtain rfl := Option.some.inj hy; clear hy; dsimp only)
                  | (refine cond_F hN hseq ?_; cbv))
                all_goals
                  simp only [hinx]
                  exact hnx _ (Leads.nxt (i + 1, n + 1) [1, 2] ⟨hio, by rw [htake, List.filter_append, List.length_append, ← hn2]; simp [hj8]⟩ (by simp only; omega) ⟨⟨rfl, rfl, rfl, rfl, rfl, rfl, trivial⟩, rfl, Nat.le_of_ble_eq_true rfl⟩)
              · have hj8 : ¬ jk = 8 := of_decide_eq_false hj8
                cbv
                simp only [hinx]
                exact hnx _ (Leads.nxt (i + 1, n) [1, 2] ⟨hio, by rw [htake, List.filter_append, List.length_append, ← hn2]; simp [hj8]⟩ (by simp only; omega) ⟨⟨rfl, rfl, rfl, rfl, rfl, rfl, trivial⟩, rfl, Nat.le_of_ble_eq_true rfl⟩)
            · have hio := of_decide_eq_false hio
              rw [List.take_of_length_le (by omega)] at hn2
              have hge : bc .geq (Int.ofNat n) 10 = false := by
                rw [cge hN]
                have h2 : ¬ ((10 : Int) ≤ (n : Int)) := by omega
                exact decide_eq_false h2
              cbv
              refine cond_F hN hge ?_
              cbv
              exact hf _ _ (fin_ [] rfl rfl hK)
      · have hol : olen = 0 := by
          have := of_decide_eq_false hol
          have : ¬ (0 : Int) < (olen : Int) := this
          omega
        have hwl := hw.length
        rw [List.length_map] at hwl
        have ho0 : o = [] := List.eq_nil_of_length_eq_zero (by omega)
        rw [ho0, show lastK (([] : List Nat).map fun i => l.getD i evD) = 0 from rfl] at hfit
        cbv
        refine ob_ hN ⟨⟨by simp, by simpa using hqlen⟩, hpt, trivial⟩ ?_
        cbv
        refine op_ hN (load_arr ty_ok rfl hpt rfl wideE (Nat.le_of_ble_eq_true rfl) (by rw [hidq]; omega) ?_)
        intro z hz
        rw [hidq, hxq] at hz
        cbv
        obtain ⟨zk, zt, zv⟩ := z
        have hzk : zk = kq := congrArg Ev.kind (Option.some.inj hz).symm
        dsimp only
        subst hzk
        rcases hkq2 with rfl | rfl
        all_goals
          repeat' (first
            | (refine cond_T hN ?_ ?_; (focus (rw [ceq hN]; rfl)); cbv)
            | (refine cond_F hN ?_ ?_; (focus (rw [ceq hN]; rfl)); cbv))
          try simp only [h44]
          repeat' (first
            | exact hf _ _ (fin_ [] rfl rfl hK)
            | (exfalso; revert hfit; simp [fitsR, isVal, k57a, k1234]; done)
            | (exfalso; revert hfit; simp [fitsR, isVal, k57a, k1234, h8]; done)
            | (refine cond_F hN (hd6 rfl) ?_; cbv)
            | (refine cond_T hN rfl ?_; cbv)
            | (refine cond_F hN rfl ?_; cbv)
            | (refine cond_T hN ?_ ?_; (focus (rw [ceq hN]; rfl)); cbv)
            | (refine cond_F hN ?_ ?_; (focus (rw [ceq hN]; rfl)); cbv)
            | (refine cond_ hN ?_ ?_ <;> intro h8 <;> rw [ceq hN] at h8 <;> (first | replace h8 := of_decide_eq_true h8 | replace h8 := of_decide_eq_false h8) <;> cbv))
          all_goals
            obtain ⟨hdup, hcnt⟩ := hkey rfl
            clear hkey hfit hd6
            have hwl := hw.length
            rw [List.length_map] at hwl
            refine loopN_ hN (loop_ hN ty_ok mixed (ι := Nat × Nat) (fun y => ⟨[(0, .vec p 0 3 lo len cap), (3, .ptr 1 0), (8, .int .i64 8), (11, .vec oq 2 1 olo olen ocap), (14, .int .i64 (Int.ofNat y.2)), (15, .int .i64 (Int.ofNat y.1))], [.arr p wr 0 56 encE xs, .arr oq true 2 3 encI oys, .cells 1 56 [.int .i64 8, .str t, .str v]], 3⟩)
              (fun y => y.1 ≤ olen ∧ y.2 = (((o.take y.1).map fun i => l.getD i evD).filter fun y => y.kind == 8).length) (fun y => olen - y.1) ?_ ?_)
            · exact Leads.idx (0, 0) [1, 2] ⟨Nat.zero_le _, rfl⟩ ⟨⟨rfl, rfl, rfl, rfl, rfl, rfl, trivial⟩, rfl, Nat.le_of_ble_eq_true rfl⟩
            rintro ⟨i, n⟩ ⟨hi, hn2⟩ Nnext hnx _
            simp only at hi hn2
            have hli : bc .lss (Int.ofNat i) (Int.ofNat olen) = decide (i < olen) := by
              rw [clt hN]
              by_cases h : i < olen
              · have h2 : (i : Int) < (olen : Int) := by omega
                rw [decide_eq_true h]; exact decide_eq_true h2
              · have h2 : ¬ (i : Int) < (olen : Int) := by omega
                rw [decide_eq_false h]; exact decide_eq_false h2
            cbv
            refine cond_ hN ?_ ?_ <;> intro hio <;> rw [hli] at hio
            · have hio := of_decide_eq_true hio
              obtain ⟨j, hj⟩ : ∃ j, o[i]? = some j := ⟨o[i]'(by omega), List.getElem?_eq_getElem (by omega)⟩
              obtain ⟨hw1, hw2, hw3⟩ := vec_at hw (i := i) (x := Int.ofNat j) (by rw [List.getElem?_map, hj]; rfl)
              have hoqt : oq = true := by
                cases oq with
                | true => rfl
                | false => have := hw.pr rfl; have := hw.fits; omega
              have hjm := List.mem_of_getElem? hj
              obtain ⟨hgj1, hgj2⟩ := hget j hjm
              have hidm : bp olo (Int.ofNat i) = olo + i := by rw [bp_ hN]; simp
              have hidj : bp lo (Int.ofNat j) = lo + j := by rw [bp_ hN]; simp
              have htake : ((o.take (i + 1)).map fun i => l.getD i evD) = ((o.take i).map fun i => l.getD i evD) ++ [l.getD j evD] := by rw [List.take_add_one, hj]; simp
              have hmem : l.getD j evD ∈ o.map fun i => l.getD i evD := List.mem_map.2 ⟨j, hjm, rfl⟩
              have hdj := hdup _ hmem
              have hinx : bi .add .i64 (Int.ofNat i) 1 = Int.ofNat (i + 1) := inext hN (by omega)
              have hle : (((o.take i).map fun i => l.getD i evD).filter fun y => y.kind == 8).length ≤ i := by
                refine Nat.le_trans (List.length_filter_le _ _) ?_
                rw [List.length_map, List.length_take]; omega
              have hnnx : bi .add .i64 (Int.ofNat n) 1 = Int.ofNat (n + 1) := inext hN (by omega)
              have hob1 : obsP [.inb (Int.ofNat i) (Int.ofNat olen), .tru oq] := ⟨⟨by simp, by simp; omega⟩, hoqt, trivial⟩
              have hob2 : obsP [.inb (Int.ofNat j) (Int.ofNat len), .tru p] := ⟨⟨by simp, by simpa using hgj2⟩, hpt, trivial⟩
              generalize l.getD j evD = yj at hgj1 htake hdj
              obtain ⟨jk, jt, jv⟩ := yj
              simp only at hdj
              cbv
              refine ob_ hN hob1 ?_
              cbv
              refine op_ hN (load_arr ty_ok rfl hoqt rfl wideI (Nat.le_of_ble_eq_true rfl) (by rw [hidm]; omega) ?_)
              intro z hz
              rw [hidm, hw2] at hz
              cbv
              obtain rfl := Option.some.inj hz
              clear hz
              refine ob_ hN hob2 ?_
              cbv
              refine op_ hN (load_arr ty_ok rfl hpt rfl wideE (Nat.le_of_ble_eq_true rfl) (by rw [hidj]; omega) ?_)
              intro y hy
              rw [hidj, hgj1] at hy
              cbv
              obtain rfl := Option.some.inj hy
              clear hy
              dsimp only
              refine cond_ hN ?_ ?_ <;> intro hj8 <;> rw [ceq hN] at hj8
              · have hj8 : jk = 8 := of_decide_eq_true hj8
                have hne := hdj hj8
                have hseq : bs .eql jt t = false := by rw [seq_eq hN]; simpa using hne
                cbv
                simp only [hnnx]
                repeat' (first
                  | exact True.intro
                  | with_reducible refine dup ?_
                  | refine And.intro ?_ ?_
                  | (refine ob_ hN hob1 ?_; cbv)
                  | (refine ob_ hN hob2 ?_; cbv)
                  | (refine op_ hN (load_arr ty_ok rfl hoqt rfl wideI (Nat.le_of_ble_eq_true rfl) (by rw [hidm]; omega) ?_); intro z hz; rw [hidm, hw2] at hz; cbv; obtain rfl := Option.some.inj hz; clear hz)
                  | (refine op_ hN (load_arr ty_ok rfl hpt rfl wideE (Nat.le_of_ble_eq_true rfl) (by rw [hidj]; omega) ?_); intro y hy; rw [hidj, hgj1] at hy; cbv; obtain rfl := Option.some.inj hy; clear hy; dsimp only)
                  | (refine cond_F hN hseq ?_; cbv))
                all_goals
                  simp only [hinx]
                  exact hnx _ (Leads.nxt (i + 1, n + 1) [1, 2] ⟨hio, by rw [htake, List.filter_append, List.length_append, ← hn2]; simp [hj8]⟩ (by simp only; omega) ⟨⟨rfl, rfl, rfl, rfl, rfl, rfl, trivial⟩, rfl, Nat.le_of_ble_eq_true rfl⟩)
              · have hj8 : ¬ jk = 8 := of_decide_eq_false hj8
                cbv
                simp only [hinx]
                exact hnx _ (Leads.nxt (i + 1, n) [1, 2] ⟨hio, by rw [htake, List.filter_append, List.length_append, ← hn2]; simp [hj8]⟩ (by simp only; omega) ⟨⟨rfl, rfl, rfl, rfl, rfl, rfl, trivial⟩, rfl, Nat.le_of_ble_eq_true rfl⟩)
            · have hio := of_decide_eq_false hio
              rw [List.take_of_length_le (by omega)] at hn2
              have hge : bc .geq (Int.ofNat n) 10 = false := by
                rw [cge hN]
                have h2 : ¬ ((10 : Int) ≤ (n : Int)) := by omega
                exact decide_eq_false h2
              cbv
              refine cond_F hN hge ?_
              cbv
              exact hf _ _ (fin_ [] rfl rfl hK)
end Hx
