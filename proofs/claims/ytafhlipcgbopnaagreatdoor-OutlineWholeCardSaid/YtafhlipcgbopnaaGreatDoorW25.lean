/-
  Part of a proof.
-/
import Derived.Test.YtafhlipcgbopnaaGreatDoorW24
set_option linter.unusedVariables false
set_option linter.unusedSimpArgs false
/- anchors.Anchors.Step. -/
namespace Hx
open Go Sx Go.Proofs
set_option maxRecDepth 100000
set_option maxHeartbeats 4000000
set_option linter.unusedVariables false
set_option linter.unusedSimpArgs false
variable {GOk : Gl → Prop}
variable {right : Ev → Bool}
def stepK (right : Ev → Bool) (x : Ev) (k : Kpt) : Kpt := ⟨k.list ++ [x], (chkStep right k.check x).2⟩
open Classical in
noncomputable def updS (right : Ev → Bool) (x : Ev) (S : List ByteArray) (it : Item) : Item := if it.2.1 ∈ S then (it.1, (it.2.1, stepK right x it.2.2)) else it
theorem updS_name {x : Ev} {S : List ByteArray} {it : Item} : (updS right x S it).2.1 = it.2.1 ∧ (updS right x S it).1 = it.1 := by
  unfold updS; split <;> exact ⟨rfl, rfl⟩
theorem upd_next {x : Ev} {items : List Item} (hnd : (items.map (·.2.1)).Nodup) {it : Item} (hit : it ∈ items) {S : List ByteArray} (hS : it.2.1 ∉ S) :
    ∃ ks', (kpsL (items.map (updS right x S))).Perm ((it.1, it.2.2) :: ks') ∧ (kpsL (items.map (updS right x (S ++ [it.2.1])))).Perm ((it.1, stepK right x it.2.2) :: ks') := by
  obtain ⟨l1, l2, rfl⟩ := List.append_of_mem hit
  have hne : ∀ y, y ∈ l1 ∨ y ∈ l2 → y.2.1 ≠ it.2.1 := by
    intro y hy e
    rw [List.map_append, List.map_cons] at hnd
    have h1 := (List.perm_middle.nodup_iff).1 hnd
    rw [List.nodup_cons, List.mem_append] at h1
    exact h1.1 (hy.imp (fun h => List.mem_map.2 ⟨y, h, e⟩) (fun h => List.mem_map.2 ⟨y, h, e⟩))
  have hsame : ∀ y, y ∈ l1 ∨ y ∈ l2 → updS right x (S ++ [it.2.1]) y = updS right x S y := by
    intro y hy
    have : (y.2.1 ∈ S ++ [it.2.1]) ↔ y.2.1 ∈ S := by
      rw [List.mem_append, List.mem_singleton]
      exact ⟨fun h => h.elim id fun e => absurd e (hne y hy), .inl⟩
    unfold updS
    by_cases h : y.2.1 ∈ S
    · rw [if_pos h, if_pos (this.2 h)]
    · rw [if_neg h, if_neg (fun h2 => h (this.1 h2))]
  have h1 : l1.map (updS right x (S ++ [it.2.1])) = l1.map (updS right x S) := List.map_congr_left fun y hy => hsame y (.inl hy)
  have h2 : l2.map (updS right x (S ++ [it.2.1])) = l2.map (updS right x S) := List.map_congr_left fun y hy => hsame y (.inr hy)
  have h3 : updS right x S it = it := by unfold updS; rw [if_neg hS]
  have h4 : updS right x (S ++ [it.2.1]) it = (it.1, (it.2.1, stepK right x it.2.2)) := by unfold updS; rw [if_pos (by simp)]
  refine ⟨kpsL (l1.map (updS right x S) ++ l2.map (updS right x S)), ?_, ?_⟩
  · rw [List.map_append, List.map_cons, h3]
    simp only [kpsL, List.map_append, List.map_cons]
    exact List.perm_middle
  · rw [List.map_append, List.map_cons, h1, h2, h4]
    simp only [kpsL, List.map_append, List.map_cons]
    exact List.perm_middle
theorem upd_mapL {x : Ev} {S : List ByteArray} {items : List Item} : mapL (items.map (updS right x S)) = mapL items := by
  simp only [mapL, List.map_map]
  refine List.map_congr_left fun y _ => ?_
  simp only [Function.comp_apply]
  rw [(updS_name (right := right)).1, (updS_name (right := right)).2]
theorem upd_all {x : Ev} {items order : List Item} (hnd : (items.map (·.2.1)).Nodup) (ho : order.Perm (items.filter openI)) {kept : List (ByteArray × Kpt)} (hi : items.map (·.2) = kept) :
    (items.map (updS right x (order.map (·.2.1)))).map (·.2) = kept.map fun y => if kptDone y.2 then y else (y.1, ⟨y.2.list ++ [x], (chkStep right y.2.check x).2⟩) := by
  rw [← hi, List.map_map, List.map_map]
  refine List.map_congr_left fun y hy => ?_
  simp only [Function.comp_apply]
  have hiff : y.2.1 ∈ order.map (·.2.1) ↔ openI y = true := by
    constructor
    · intro h
      obtain ⟨z, hz, e⟩ := List.mem_map.1 h
      have hz2 := List.mem_filter.1 (ho.mem_iff.1 hz)
      have : z = y := nodup_inj (f := fun x : Item => x.2.1) hnd hz2.1 hy e
      rw [← this]; exact hz2.2
    · intro h
      exact List.mem_map.2 ⟨y, ho.mem_iff.2 (List.mem_filter.2 ⟨hy, h⟩), rfl⟩
  unfold updS
  cases hd : kptDone y.2.2 with
  | true => rw [if_neg (fun h : y.2.1 ∈ order.map (·.2.1) => by have := hiff.1 h; simp [openI, hd] at this), if_pos rfl]
  | false => rw [if_pos (hiff.2 (by simp [openI, hd])), if_neg (by simp)]; rfl
theorem open_count {items order : List Item} {kept : List (ByteArray × Kpt)} (ho : order.Perm (items.filter openI)) (hi : items.map (·.2) = kept) : (kept.filter fun y => !kptDone y.2).length = order.length := by
  rw [ho.length_eq, ← hi, List.filter_map, List.length_map]; rfl
theorem open_all {items order : List Item} {kept : List (ByteArray × Kpt)} (ho : order.Perm (items.filter openI)) (hi : items.map (·.2) = kept) (f : Kpt → Bool) : ((kept.filter fun y => !kptDone y.2).all fun y => f y.2) = order.all fun it => f it.2.2 := by
  rw [ho.all_eq, ← hi, List.filter_map, List.all_map]; rfl
theorem anc_step_spec (hr : RgtOk GOk right) (a : Anc) (x : Ev) (hx : okE x) : Triple (BB Ip GOk) 162 1 1 [.ptr 0 0, .agg [.int .i64 x.kind, .str x.text, .str x.val]] [.abs (.anc a) [0]] (fun K => ∀ e a', (e, a') = ancStep right a x → K (.ret (.int .i64 e)) [.abs (.anc a') [0]]) := by
  obtain ⟨kind, text, val⟩ := x
  have hxs := hx
  obtain ⟨hx1, hx2, -, -⟩ := hxs
  simp only at hx1 hx2
  refine triple_of BB_ok (tb := ty) rfl (n0 := 3) (fun y : {cs' // Tm (.anc a) cs'} => csRen (sg [0] 1) y.1 ++ []) pl162 Tryz.call162 Tryz.func162 rfl (by kernel_rfl) (Nat.le_of_ble_eq_true rfl) (by decide) rfl (pre_open rfl rfl rfl) ?_
  rintro G hG K hK W bi bc bs bk bu bb bo bg bl bp bn be Ncond Nob Nop Nloop Nscope hN Nfin hf _ ⟨cs', hT⟩
  obtain ⟨hB, items, es, ks, hi, hes, hks, rfl⟩ := anc_open hT
  obtain ⟨kept, size, told⟩ := a
  obtain ⟨b1, b2, b3, b4, b5, b6, b7⟩ := id hB
  simp only at b1 b2 b3 b4 b5 b6 b7 hi
  have hkept : ∀ x : Item, x ∈ items → x.2 ∈ kept := fun x hx => by rw [← hi]; exact List.mem_map.2 ⟨x, hx, rfl⟩
  have hnd : (items.map (·.2.1)).Nodup := by rw [← hi, List.map_map] at b6; exact b6
  have hil : items.length ≤ 200 := by have : items.length = kept.length := by rw [← hi, List.length_map]
                                      omega
  have same : ∀ e : Int, (e, (⟨kept, size, told⟩ : Anc)) = ancStep right ⟨kept, size, told⟩ ⟨kind, text, val⟩ → ∀ cs rest, pickC (idsOf (csRen (nm ([0] ++ [1, 2])) (ancC ⟨kept, size, told⟩ es ks))) cs = some (csRen (nm ([0] ++ [1, 2])) (ancC ⟨kept, size, told⟩ es ks), rest) → Nfin (.ret (.int .i64 e)) cs :=
    fun e he cs rest hp => hf _ _ (fin_close rfl (.anc ⟨kept, size, told⟩) [0] [1, 2] _ hT hp (fin_ [] rfl rfl (hK e _ he)))
  cbv
  refine op_ hN (call_ (opens_spec2 size told items es ks hes hks hnd (fun x hx => b7 _ (hkept x hx)) hil) hG [0, 1, 2] rfl rfl rfl rfl rfl ?_)
  intro order ho p lo len cap xs hv
  have hlen : order.length = len := by have := hv.length; rw [List.length_map] at this; exact this
  have hroom := hv.room
  have hfits := hv.fits
  have hin : ∀ x ∈ order, x ∈ items ∧ openI x = true := fun x hx => by have := ho.mem_iff.1 hx; exact List.mem_filter.1 this
  have hlen2 : len ≤ 200 := by
    have := ho.length_eq
    have := List.length_filter_le openI items
    omega
  have hMall : ancStep right ⟨kept, size, told⟩ ⟨kind, text, val⟩ = if (order.all fun it => kptGoes right it.2.2 ⟨kind, text, val⟩) then
      (if size + len * (text.size + val.size + 1) > 200 then (12, ⟨kept, size, told⟩)
       else (0, ⟨kept.map fun y => if kptDone y.2 then y else (y.1, ⟨y.2.list ++ [⟨kind, text, val⟩], (chkStep right y.2.check ⟨kind, text, val⟩).2⟩), size + len * (text.size + val.size + 1), told⟩)) else (19, ⟨kept, size, told⟩) := by
    have hmore : ancMore ⟨kept, size, told⟩ ⟨kind, text, val⟩ = len * (text.size + val.size + 1) := by
      show (kept.filter _).length * _ = _
      rw [open_count ho hi, hlen]
    unfold ancStep
    rw [hmore, open_all ho hi (fun k => kptGoes right k ⟨kind, text, val⟩)]
  obtain ⟨Z, hZ⟩ : ∃ Z, Z = text.size + val.size + 1 := ⟨_, rfl⟩
  obtain ⟨Y, hY⟩ : ∃ Y, Y = text.size + val.size := ⟨_, rfl⟩
  have hmul0 : len * Z ≤ 200 * Z := Nat.mul_le_mul_right _ hlen2
  obtain ⟨M, hM0⟩ : ∃ M, M = len * Z := ⟨_, rfl⟩
  obtain ⟨S2, hS2⟩ : ∃ S2, S2 = size + M := ⟨_, rfl⟩
  have ha1 : bi .add .i64 (bn text) (bn val) = Int.ofNat Y := by rw [len_eq hN, len_eq hN, iadd hN (by omega) (by omega), hY]; simp
  have ha2 : bi .add .i64 (Int.ofNat Y) 1 = Int.ofNat Z := by rw [hZ, ← hY]; exact inext hN (by omega)
  have ha3 : bi .mul .i64 (Int.ofNat len) (Int.ofNat Z) = Int.ofNat M := by
    have h9 : (len : Int) * (Z : Int) = ((M : Nat) : Int) := by rw [hM0]; simp
    rw [bi_ hN]
    show IntKind.i64.wrap ((len : Int) * (Z : Int)) = _
    rw [h9, wrap_id (by omega) (by omega)]; rfl
  have ha4 : bi .add .i64 (Int.ofNat size) (Int.ofNat M) = Int.ofNat S2 := by rw [iadd hN (by simp; omega) (by simp; omega), hS2]; simp
  rw [← hZ, ← hM0, ← hS2] at hMall
  cbv
  refine loopN_ hN (loop_ hN ty_ok mixed (ι := Nat) (fun i => ⟨[(0, .ptr 0 0), (3, .ptr 3 0), (5, .vec p 4 1 lo len cap), (13, .vec p 4 1 lo len cap), (14, .int .i64 (Int.ofNat len)), (15, .int .i64 (Int.ofNat i))],
      [.cells 3 44 [.int .i64 kind, .str text, .str val], .cells 0 70 [.map 1, .int .i64 (Int.ofNat size), .int .i64 (Int.ofNat told)], .map 1 es, .abs (.kps ks) [2], .arr p true 4 231 encP xs], 5⟩)
    (fun i => i ≤ len ∧ ∀ it ∈ order.take i, kptGoes right it.2.2 ⟨kind, text, val⟩ = true) (fun i => len - i) ?_ ?_)
  · exact Leads.idx 0 [1, 2, 3, 4] ⟨Nat.zero_le _, fun it h => nomatch h⟩ ⟨⟨rfl, rfl, rfl, rfl, rfl, rfl, trivial⟩, rfl, Nat.le_of_ble_eq_true rfl⟩
  rintro i ⟨hile, hgo⟩ Nnext hn _
  cbv
  refine cond_ hN (fun h => ?_) (fun h => ?_)
  · rw [clt hN] at h
    simp only [decide_eq_true_eq, decide_eq_false_iff_not, Int.ofNat_eq_natCast, gt_iff_lt, ge_iff_le, Bool.not_eq_true', Bool.not_eq_false', Int.not_lt, Int.not_le] at h
    have hilt : i < len := by have : (i : Int) < (len : Int) := h; omega
    have hil2 : i < order.length := by omega
    have hpt : p = true := by
      cases p with
      | true => rfl
      | false => have := hv.pr rfl; omega
    have hidx : bp lo (Int.ofNat i) = lo + i := by rw [bp_ hN]; simp
    have hxi : xs[lo + i]? = some (some (order[i]'hil2).1) := by
      have h5 : ((xs.drop lo).take len)[i]? = some (some (order[i]'hil2).1) := by rw [hv.eq, List.getElem?_map, List.getElem?_eq_getElem hil2]; rfl
      rw [List.getElem?_take, if_pos hilt, List.getElem?_drop] at h5
      exact h5
    have htake : order.take (i + 1) = order.take i ++ [order[i]'hil2] := by rw [List.take_add_one, List.getElem?_eq_getElem hil2]; rfl
    have hito := List.getElem_mem hil2
    have hadd : bi .add .i64 (Int.ofNat i) 1 = Int.ofNat (i + 1) := inext hN (by omega)
    generalize (order[i]'hil2) = it at hxi htake hito
    obtain ⟨g, name, k⟩ := it
    obtain ⟨hit, -⟩ := hin _ hito
    obtain ⟨l1, l2, -, hperm⟩ := item_perm hit
    rw [← hks] at hperm
    obtain ⟨ks2, hks2⟩ : ∃ ks2, ks2 = kpsL (l1 ++ l2) := ⟨_, rfl⟩
    rw [← hks2] at hperm
    have hperm : ks.Perm ((g, k) :: ks2) := hperm
    have back := hperm.symm
    have hk4 : k.list.length ≤ size := b4 _ (hkept _ hit)
    have hk5 : ∀ y ∈ k.list, okE y := b5 _ (hkept _ hit)
    simp only at hxi
    cbv
    refine ob_ hN ⟨⟨by simp, by simpa using hilt⟩, hpt, trivial⟩ ?_
    cbv
    refine op_ hN (op_kps rfl 2 hperm rfl rfl rfl rfl ?_)
    refine op_open rfl 2 2 rfl rfl rfl rfl ?_
    rintro _ rfl
    refine load_ptr (j := 5) (g := g) ty_ok rfl hpt rfl rfl (by rw [hidx]; exact hxi) (by simp [csRen, Chunk.ren, sg]) ?_
    cbv
    refine op_ hN (call_ (goes_spec hr k ⟨kind, text, val⟩ hx hk5 (by omega)) hG [5] rfl rfl rfl rfl rfl ?_)
    intro b hb
    cases b with
    | false =>
      have hM : ancStep right ⟨kept, size, told⟩ ⟨kind, text, val⟩ = (19, ⟨kept, size, told⟩) := by
        rw [hMall, if_neg]
        intro hall
        have := List.all_eq_true.1 hall _ hito
        simp only at this
        rw [← hb] at this
        exact nomatch this
      cbv
      refine cond_T hN rfl ?_
      cbv
      refine hf _ _ (fin_close rfl (.kps ((g, k) :: ks2)) [2] [5, 6] [.at_ 1 g, .abs (.kpt k) [1], .abs (.kps ks2) [2]] rfl rfl ?_)
      refine fin_kps rfl 40 2 back rfl rfl rfl ?_
      exact fin_close rfl (.anc ⟨kept, size, told⟩) [0] [1, 2] _ hT rfl (fin_ [] rfl rfl (hK 19 _ hM.symm))
    | true =>
      cbv
      refine cond_F hN rfl ?_
      cbv
      simp only [hadd]
      refine hn _ (leads_close rfl (.kps ((g, k) :: ks2)) [2] [5, 6] [.at_ 1 g, .abs (.kpt k) [1], .abs (.kps ks2) [2]] rfl rfl ?_)
      refine leads_kps rfl 2 back rfl rfl rfl ?_
      refine Leads.nxt (i + 1) [1, 2, 3, 4] ⟨hilt, fun it hit2 => ?_⟩ (by omega) ⟨⟨rfl, rfl, rfl, rfl, rfl, rfl, trivial⟩, rfl, Nat.le_of_ble_eq_true rfl⟩
      rw [htake] at hit2
      rcases List.mem_append.1 hit2 with h | h
      · exact hgo it h
      · rw [List.mem_singleton.1 h]; exact hb.symm
  · rw [clt hN] at h
    simp only [decide_eq_true_eq, decide_eq_false_iff_not, Int.ofNat_eq_natCast, gt_iff_lt, ge_iff_le, Bool.not_eq_true', Bool.not_eq_false', Int.not_lt, Int.not_le] at h
    have hie : i = len := by have : (len : Int) ≤ (i : Int) := h; omega
    have hall : (order.all fun it => kptGoes right it.2.2 ⟨kind, text, val⟩) = true := by
      rw [hie, ← hlen, List.take_length] at hgo
      exact List.all_eq_true.2 hgo
    rw [if_pos hall] at hMall
    clear hgo
    cbv
    simp only [ha1, ha2, ha3, ha4]
    refine cond_ hN (fun h2 => ?_) (fun h2 => ?_)
    · rw [cgt hN] at h2
      have h2' : S2 > 200 := by have : (200 : Int) < ((S2 : Nat) : Int) := by simpa using h2
                                omega
      rw [if_pos h2'] at hMall
      cbv
      exact same 12 hMall.symm _ _ rfl
    · rw [cgt hN] at h2
      have h2' : ¬ S2 > 200 := by have : ¬ (200 : Int) < ((S2 : Nat) : Int) := by simpa using h2
                                  omega
      rw [if_neg h2'] at hMall
      have hu0 : ks = kpsL (items.map (updS right ⟨kind, text, val⟩ [])) := by
        rw [hks]
        congr 1
        have : items.map (updS right ⟨kind, text, val⟩ []) = items.map id := List.map_congr_left fun y _ => by unfold updS; rw [if_neg (by simp)]; rfl
        rw [this, List.map_id]
      have hndo : (order.map (·.2.1)).Nodup := ((ho.map (·.2.1)).nodup_iff).2 (hnd.sublist ((List.filter_sublist).map _))
      cbv
      simp only [ha4]
      refine loopN_ hN (loop_ hN ty_ok mixed (ι := Nat × List (Nat × Kpt)) (fun y => ⟨[(3, .ptr 3 0), (50, .vec p 4 1 lo len cap), (51, .int .i64 (Int.ofNat len)), (52, .int .i64 (Int.ofNat y.1))],
          [.cells 3 44 [.int .i64 kind, .str text, .str val], .cells 0 70 [.map 1, .int .i64 (Int.ofNat S2), .int .i64 (Int.ofNat told)], .map 1 es, .abs (.kps y.2) [2], .arr p true 4 231 encP xs], 5⟩)
        (fun y => y.1 ≤ len ∧ y.2 = kpsL (items.map (updS right ⟨kind, text, val⟩ ((order.take y.1).map (·.2.1))))) (fun y => len - y.1) ?_ ?_)
      · exact Leads.idx (0, ks) [1, 2, 3, 4] ⟨Nat.zero_le _, hu0⟩ ⟨⟨rfl, rfl, rfl, rfl, trivial⟩, rfl, Nat.le_of_ble_eq_true rfl⟩
      rintro ⟨i, ki⟩ ⟨hile, hki⟩ Nnext2 hn2 _
      simp only at hile hki
      cbv
      refine cond_ hN (fun h => ?_) (fun h => ?_)
      · rw [clt hN] at h
        simp only [decide_eq_true_eq, decide_eq_false_iff_not, Int.ofNat_eq_natCast, gt_iff_lt, ge_iff_le, Bool.not_eq_true', Bool.not_eq_false', Int.not_lt, Int.not_le] at h
        have hilt : i < len := by have : (i : Int) < (len : Int) := h; omega
        have hil2 : i < order.length := by omega
        have hpt : p = true := by
          cases p with
          | true => rfl
          | false => have := hv.pr rfl; omega
        have hidx : bp lo (Int.ofNat i) = lo + i := by rw [bp_ hN]; simp
        have hxi : xs[lo + i]? = some (some (order[i]'hil2).1) := by
          have h5 : ((xs.drop lo).take len)[i]? = some (some (order[i]'hil2).1) := by rw [hv.eq, List.getElem?_map, List.getElem?_eq_getElem hil2]; rfl
          rw [List.getElem?_take, if_pos hilt, List.getElem?_drop] at h5
          exact h5
        have htake : order.take (i + 1) = order.take i ++ [order[i]'hil2] := by rw [List.take_add_one, List.getElem?_eq_getElem hil2]; rfl
        have hito := List.getElem_mem hil2
        have hadd : bi .add .i64 (Int.ofNat i) 1 = Int.ofNat (i + 1) := inext hN (by omega)
        have hndt : ((order.take (i + 1)).map (·.2.1)).Nodup := hndo.sublist ((List.take_sublist _ _).map _)
        generalize (order[i]'hil2) = it at hxi htake hito
        rw [htake, List.map_append, List.map_cons, List.map_nil, List.nodup_append] at hndt
        have hS : it.2.1 ∉ (order.take i).map (·.2.1) := fun hm => hndt.2.2 _ hm _ (List.mem_singleton.2 rfl) rfl
        obtain ⟨hit, -⟩ := hin _ hito
        obtain ⟨ks2, hp1, hp2⟩ := upd_next (right := right) (x := ⟨kind, text, val⟩) hnd hit hS
        have hnxt : (order.take (i + 1)).map (·.2.1) = (order.take i).map (·.2.1) ++ [it.2.1] := by rw [htake, List.map_append]; rfl
        rw [← hnxt] at hp2
        rw [← hki] at hp1
        obtain ⟨g, name, k⟩ := it
        have hk4 : k.list.length ≤ size := b4 _ (hkept _ hit)
        simp only at hxi hp1 hp2
        obtain ⟨kj, hkj⟩ : ∃ kj, kj = kpsL (items.map (updS right ⟨kind, text, val⟩ ((order.take (i + 1)).map (·.2.1)))) := ⟨_, rfl⟩
        rw [← hkj] at hp2
        obtain ⟨list, check⟩ := k
        simp only at hk4
        cbv
        refine ob_ hN ⟨⟨by simp, by simpa using hilt⟩, hpt, trivial⟩ ?_
        cbv
        refine op_ hN (op_kps rfl 2 hp1 rfl rfl rfl rfl ?_)
        refine op_open rfl 2 2 rfl rfl rfl rfl ?_
        rintro _ rfl
        refine load_ptr (j := 5) (g := g) ty_ok rfl hpt rfl rfl (by rw [hidx]; exact hxi) (by simp [csRen, Chunk.ren, sg]) ?_
        cbv
        repeat' (first | exact True.intro | with_reducible refine dup ?_ | refine And.intro ?_ ?_)
        all_goals
          refine op_ hN (op_open rfl 5 2 rfl rfl rfl rfl ?_)
          rintro _ ⟨pk, lok, lenk, capk, xk, hvk, rfl⟩
          refine load_ ty_ok rfl ?_
          simp only at hvk
          have hvkl := hvk.length
          cbv
          repeat' (first | exact True.intro | with_reducible refine dup ?_ | refine And.intro ?_ ?_)
        all_goals
          refine op_ hN (call_ (step_rgt hr check ⟨kind, text, val⟩ hx) hG [14] rfl rfl rfl rfl rfl ?_)
          intro e check' he
          have hstep : stepK right ⟨kind, text, val⟩ ⟨list, check⟩ = ⟨list ++ [⟨kind, text, val⟩], check'⟩ := by simp only [stepK]; rw [← he]
          simp only [hstep] at hp2
          have hp3 := hp2.symm
          cbv
          repeat' (first | exact True.intro | with_reducible refine dup ?_ | refine And.intro ?_ ?_)
        all_goals
          refine op_ hN (append_vec (new := [(⟨kind, text, val⟩ : Ev)]) (z := ⟨0, ⟨#[]⟩, ⟨#[]⟩⟩) ty_ok rfl rfl rfl rfl (fun k => by simp) rfl rfl wideE rfl rfl (src_cells wideE rfl (fun _ _ _ _ => rfl) rfl) hvk.pr hvk.room hvk.fits (by simp; omega) (by decide) ?_)
          intro p' lo' m' cap' xs' hm' e1 e2 e3 e4
          have hv' : VecOk p' lo' m' cap' xs' (list ++ [⟨kind, text, val⟩]) := ⟨e1, e2, e3, by rw [e4, hvk.eq]⟩
          cbv
          repeat' (first | exact True.intro | with_reducible refine dup ?_ | refine And.intro ?_ ?_)
        all_goals
          simp only [hadd]
          refine hn2 _ (leads_close rfl (.kpt ⟨list ++ [⟨kind, text, val⟩], check'⟩) [5] [26, 14] _ ⟨p', lo', m', cap', xs', hv', rfl⟩ rfl ?_)
          refine leads_close rfl (.kps ((g, ⟨list ++ [⟨kind, text, val⟩], check'⟩) :: ks2)) [2] [5, 6] [.at_ 1 g, .abs (.kpt ⟨list ++ [⟨kind, text, val⟩], check'⟩) [1], .abs (.kps ks2) [2]] rfl rfl ?_
          refine leads_kps rfl 2 hp3 rfl rfl rfl ?_
          exact Leads.nxt (i + 1, kj) [1, 2, 3, 4] ⟨hilt, hkj⟩ (by simp only; omega) ⟨⟨rfl, rfl, rfl, rfl, trivial⟩, rfl, Nat.le_of_ble_eq_true rfl⟩
      · rw [clt hN] at h
        simp only [decide_eq_true_eq, decide_eq_false_iff_not, Int.ofNat_eq_natCast, gt_iff_lt, ge_iff_le, Bool.not_eq_true', Bool.not_eq_false', Int.not_lt, Int.not_le] at h
        have hie : i = len := by have : (len : Int) ≤ (i : Int) := h; omega
        have hki2 : ki = kpsL (items.map (updS right ⟨kind, text, val⟩ (order.map (·.2.1)))) := by rw [hki, hie, ← hlen, List.take_length]
        have hi2 := upd_all (right := right) (x := ⟨kind, text, val⟩) hnd ho hi
        have hes2 : es = mapL (items.map (updS right ⟨kind, text, val⟩ (order.map (·.2.1)))) := by rw [upd_mapL]; exact hes
        have hB2 : AncB ⟨kept.map fun y => if kptDone y.2 then y else (y.1, ⟨y.2.list ++ [⟨kind, text, val⟩], (chkStep right y.2.check ⟨kind, text, val⟩).2⟩), S2, told⟩ := by
          have hmem : ∀ y ∈ kept, openI (0, y) = true → 1 ≤ len := by
            intro y hy ho1
            have : 0 < (kept.filter fun y => !kptDone y.2).length := List.length_pos_of_mem (List.mem_filter.2 ⟨hy, ho1⟩)
            rw [open_count ho hi] at this
            omega
          have hZ1 : 1 ≤ Z := by omega
          have hMZ : 1 ≤ len → 1 ≤ M := fun h => by rw [hM0]; exact Nat.mul_pos h hZ1
          refine ⟨by simp only; omega, b2, by simp only [List.length_map]; omega, ?_, ?_, ?_, ?_⟩
          · intro z hz
            obtain ⟨y, hy, rfl⟩ := List.mem_map.1 hz
            have := b4 y hy
            cases hd : kptDone y.2 with
            | true => rw [if_pos rfl]; simp only; omega
            | false =>
              rw [if_neg (by simp)]
              have := hMZ (hmem y hy (by simp [openI, hd]))
              simp only [List.length_append, List.length_singleton]; omega
          · intro z hz
            obtain ⟨y, hy, rfl⟩ := List.mem_map.1 hz
            cases hd : kptDone y.2 with
            | true => rw [if_pos rfl]; exact b5 y hy
            | false =>
              rw [if_neg (by simp)]
              intro w hw
              rcases List.mem_append.1 hw with hw | hw
              · exact b5 y hy w hw
              · rw [List.mem_singleton.1 hw]; exact hx
          · have : (kept.map fun y => if kptDone y.2 then y else (y.1, (⟨y.2.list ++ [⟨kind, text, val⟩], (chkStep right y.2.check ⟨kind, text, val⟩).2⟩ : Kpt))).map (·.1) = kept.map (·.1) := by
              rw [List.map_map]
              exact List.map_congr_left fun y _ => by simp only [Function.comp_apply]; split <;> rfl
            simp only
            rw [this]; exact b6
          · intro z hz
            obtain ⟨y, hy, rfl⟩ := List.mem_map.1 hz
            have := b7 y hy
            split <;> exact this
        have hTm2 := anc_close hB2 hi2 hes2 hki2
        have hK2 := hK 0 _ hMall.symm
        clear hB2 hi2
        generalize (kept.map fun y => if kptDone y.2 then y else (y.1, (⟨y.2.list ++ [⟨kind, text, val⟩], (chkStep right y.2.check ⟨kind, text, val⟩).2⟩ : Kpt))) = kept2 at hTm2 hK2
        cbv
        exact hf _ _ (fin_close rfl (.anc ⟨kept2, S2, told⟩) [0] [1, 2] _ hTm2 rfl (fin_ [] rfl rfl hK2))
end Hx
