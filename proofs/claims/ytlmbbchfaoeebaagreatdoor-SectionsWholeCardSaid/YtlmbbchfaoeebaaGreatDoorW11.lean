/-
  Part of a proof.
-/
import Derived.Test.YtlmbbchfaoeebaaGreatDoorW06
import Derived.Test.YtlmbbchfaoeebaaGreatDoorW04
import Derived.Test.YtlmbbchfaoeebaaGreatDoorW03
import Derived.Test.YtlmbbchfaoeebaaGreatDoorW09
set_option linter.unusedVariables false
set_option linter.unusedSimpArgs false
/- Going backward over a list: what comes, in which order. -/
namespace Hx
open Go Sx Go.Proofs
set_option maxRecDepth 100000
set_option maxHeartbeats 4000000
set_option linter.unusedVariables false
set_option linter.unusedSimpArgs false
variable {GOk : Gl → Prop}
/-- the elements from the last on, each with its index -/
def revI {α : Type} (l : List α) : List (Nat × α) := (l.zipIdx.map fun x => (x.2, x.1)).reverse
theorem revI_len {α : Type} (l : List α) : (revI l).length = l.length := by simp [revI]
theorem revI_get {α : Type} {l : List α} {j : Nat} (h : j < l.length) : (revI l)[j]? = some (l.length - 1 - j, l[l.length - 1 - j]'(by omega)) := by
  unfold revI
  rw [List.getElem?_reverse (by simpa using h)]
  simp only [List.length_map, List.length_zipIdx, List.getElem?_map]
  rw [List.getElem?_eq_getElem (by simp; omega)]
  simp
theorem revI_snd {α : Type} (l : List α) : (revI l).map (·.2) = l.reverse := by
  unfold revI
  rw [List.map_reverse, List.map_map]
  congr 1
  have : ((fun x : Nat × α => x.2) ∘ fun x : α × Nat => (x.2, x.1)) = fun x : α × Nat => x.1 := rfl
  rw [this, List.zipIdx_map_fst]
/-- states that the rounds lead to -/
def Reach {σT αT : Type} (go : σT → αT → σT → Prop) : List αT → σT → σT → Prop
  | [], a, b => a = b
  | x :: r, a, b => ∃ c, go a x c ∧ Reach go r c b
theorem Reach.snoc {σT αT : Type} {go : σT → αT → σT → Prop} {x : αT} {b c : σT} : ∀ {l : List αT} {a : σT}, Reach go l a b → go b x c → Reach go (l ++ [x]) a c
  | [], a, h, g => by simp only [Reach] at h; subst h; exact ⟨c, g, rfl⟩
  | y :: r, a, ⟨d, h1, h2⟩, g => ⟨d, h1, Reach.snoc h2 g⟩
end Hx
/- slices.Backward over steps: the iterator's walk. -/
namespace Hx
open Go Sx Go.Proofs
set_option maxRecDepth 100000
set_option maxHeartbeats 4000000
set_option linter.unusedVariables false
set_option linter.unusedSimpArgs false
variable {GOk : Gl → Prop}
theorem back_steps_spec {G0 : Gl} {yv : Value} {σT : Type} {argv : Nat × (ByteArray × Bool) → List Value} {ok : σT → Nat × (ByteArray × Bool) → Prop} {go : σT → Nat × (ByteArray × Bool) → σT → Prop} {S : σT → HP} {D : σT → Nat × (ByteArray × Bool) → HP} {E : σT → Nat × (ByteArray × Bool) → Value → HP}
    (hY : YOk (BB Ip (fun G' => G' = G0)) G0 yv argv ok go S D E) (hav : ∀ ρ x, SV.denL ρ [.int .i64 (Int.ofNat x.1), .agg [.str x.2.1, .bool x.2.2]] = argv x)
    (q : Bool) (lo len cap : Nat) (ys l : List (ByteArray × Bool)) (hv : VecOk q lo len cap ys l) (hlen : len ≤ 1000) (st0 : σT) (hok : ∀ st j x, (revI l)[j]? = some x → Reach go ((revI l).take j) st0 st → ok st x) :
    Triple (BB Ip (fun G' => G' = G0)) 179 2 2 [.raw yv, .ptr 1 0] ([.arr q true 0 240 encT ys, .cells 1 53 [.vec q 0 2 lo len cap]] ++ [.own 0 (S st0)])
      (IterPost ok (fun st => Reach go (revI l) st0 st) [.arr q true 0 240 encT ys, .cells 1 53 [.vec q 0 2 lo len cap]] S D E) := by
  refine triple_iter BB_ok (tb := ty) rfl (n0 := 2) (fun _ : Unit => _) pl179 Tryz.call179 Tryz.func179 rfl (by kernel_rfl) (Nat.le_of_ble_eq_true rfl) (by decide) rfl pre_none ?_
  rintro G hG K hK W bi bc bs bk bu bb bo bg bl bp bn be Ncond Nob Nop Nloop Nscope hN Nfin hf _ _
  obtain ⟨hK1, hK2, hK3⟩ := hK
  have hlt := hv.length
  have hroom := hv.room
  have hfits := hv.fits
  obtain ⟨z, hz⟩ : ∃ z : Int, bi .sub .i64 (Int.ofNat len) 1 = z := ⟨_, rfl⟩
  have hz2 : z = (len : Int) - 1 := by
    rw [← hz]
    cases len with
    | zero => rw [bi_ hN]; rfl
    | succ n => rw [isub hN (by simp) (by simp; omega)]; simp
  cbv
  simp only [hz]
  cbv
  have hz2 : z = (len : Int) - 1 := hz2
  refine loopN_ hN (loop_ hN ty_ok mixed (ι := Nat × σT × Int) (fun y => ⟨[(0, .raw yv), (1, .ptr 1 0), (3, .int .i64 y.2.2)], [.arr q true 0 240 encT ys, .cells 1 53 [.vec q 0 2 lo len cap], .own 0 (S y.2.1)], 2⟩)
    (fun y => y.1 ≤ len ∧ y.2.2 + Int.ofNat y.1 + 1 = Int.ofNat len ∧ Reach go ((revI l).take y.1) st0 y.2.1) (fun y => len - y.1) (Leads.idx (0, st0, z) [] ⟨Nat.zero_le _, (show z + ((0 : Nat) : Int) + 1 = (len : Int) by omega), rfl⟩ ⟨⟨rfl, rfl, rfl, trivial⟩, rfl, Nat.le_of_ble_eq_true rfl⟩) ?_)
  rintro ⟨j, st, i⟩ ⟨hj, hi, hreach⟩ Nnext hn _
  simp only at hj hi hreach
  cbv
  refine cond_ hN (fun h => ?_) (fun h => ?_)
  · rw [cge hN] at h
    simp only [decide_eq_true_eq, decide_eq_false_iff_not, Int.ofNat_eq_natCast, gt_iff_lt, ge_iff_le, Bool.not_eq_true', Bool.not_eq_false', Int.not_lt, Int.not_le] at h
    have h : (0 : Int) ≤ i := h
    have hi : i + (j : Int) + 1 = (len : Int) := hi
    have hjl : j < len := by omega
    have hpt : q = true := by
      cases q with
      | true => rfl
      | false => have := hv.pr rfl; omega
    obtain ⟨k, hk⟩ : ∃ k : Nat, k = len - 1 - j := ⟨_, rfl⟩
    obtain rfl : i = Int.ofNat k := (show i = (k : Int) by omega)
    have hrg := revI_get (l := l) (j := j) (by omega)
    have hkl : l.length - 1 - j = k := by omega
    have hgk : l[k]? = some (l[l.length - 1 - j]'(by omega)) := by
      have h0 : l[l.length - 1 - j]? = some (l[l.length - 1 - j]'(by omega)) := List.getElem?_eq_getElem _
      exact (congrArg (fun z => l[z]?) hkl).symm.trans h0
    generalize (l[l.length - 1 - j]'(by omega)) = x at hrg hgk
    rw [hkl] at hrg
    have hx : ys[lo + k]? = some x := by
      have h5 : ((ys.drop lo).take len)[k]? = some x := by rw [hv.eq]; exact hgk
      rw [List.getElem?_take, if_pos (by omega), List.getElem?_drop] at h5
      exact h5
    have hidx : bp lo (Int.ofNat k) = lo + k := by rw [bp_ hN]; simp
    have hjk : len - j = k + 1 := by omega
    have hoks := hok st j _ hrg hreach
    have htake : (revI l).take (j + 1) = (revI l).take j ++ [(k, x)] := by rw [List.take_add_one, hrg]; rfl
    obtain ⟨z2, hz3⟩ : ∃ z : Int, bi .sub .i64 (Int.ofNat k) 1 = z := ⟨_, rfl⟩
    have hz4 : z2 = (k : Int) - 1 := by
      rw [← hz3]
      cases k with
      | zero => rw [bi_ hN]; rfl
      | succ n => rw [isub hN (by simp) (by simp; omega)]; simp
    obtain ⟨key, rows⟩ := x
    cbv
    refine ob_ hN ⟨⟨by simp, by simp; omega⟩, hpt, trivial⟩ ?_
    cbv
    refine op_ hN (load_arr ty_ok rfl hpt rfl wideT (Nat.le_of_ble_eq_true rfl) (by rw [hidx]; omega) ?_)
    intro x2 hx2
    rw [hidx, hx] at hx2
    obtain rfl := (Option.some.inj hx2).symm
    cbv
    refine op_ hN (yield_ hY st (k, (key, rows)) hoks 0 rfl (fun ρ => ?_) (fun st' hgo => ?_) ?_ (fun v => ?_) ?_)
    · exact hav ρ (k, (key, rows))
    · cbv
      simp only [hz3]
      have hz4 : z2 = (k : Int) - 1 := hz4
      exact hn _ (Leads.nxt (j + 1, st', z2) [] ⟨hjl, (show z2 + ((j + 1 : Nat) : Int) + 1 = (len : Int) by omega), by rw [htake]; exact hreach.snoc hgo⟩ (by simp only; omega) ⟨⟨rfl, rfl, rfl, trivial⟩, rfl, Nat.le_of_ble_eq_true rfl⟩)
    · cbv
      exact hf _ _ (fin_ [] rfl rfl (hK2 st _ hoks))
    · cbv
      exact hf _ _ (fin_ [] rfl rfl (hK3 st _ v hoks))
    · exact ⟨rfl, rfl, hG⟩
  · rw [cge hN] at h
    simp only [decide_eq_true_eq, decide_eq_false_iff_not, Int.ofNat_eq_natCast, gt_iff_lt, ge_iff_le, Bool.not_eq_true', Bool.not_eq_false', Int.not_lt, Int.not_le] at h
    have h : i < (0 : Int) := h
    have hi : i + (j : Int) + 1 = (len : Int) := hi
    have hje : j = len := by omega
    have htk : (revI l).take j = revI l := List.take_of_length_le (by rw [revI_len]; omega)
    rw [htk] at hreach
    cbv
    exact hf _ _ (fin_ [] rfl rfl (hK1 st hreach))
end Hx
/- sections.machine.leaves: the walk. -/
namespace Hx
open Go Sx Go.Proofs
set_option maxRecDepth 100000
set_option maxHeartbeats 4000000
set_option linter.unusedVariables false
set_option linter.unusedSimpArgs false
variable {GOk : Gl → Prop}
variable {right : Ev → Bool}
/- the machine, of which a checker and a decoder alone turn -/
def secAt (ahead : Nat) (line : List UInt8) (place : List (ByteArray × Bool)) (header : List ByteArray) (begun : Bool) (y : Chk × Core) : OS Sec := ⟨⟨ahead, line, y.1, place, header, begun⟩, y.2⟩
def saysY (right : Ev → Bool) (x : Ev) (at_ : Int) (y : Chk × Core) : Res Unit × (Chk × Core) :=
  if (chkStep right y.1 x).1 ≠ 0 then (.err (chkStep right y.1 x).1 at_, ((chkStep right y.1 x).2, y.2))
  else if y.2.queue.length ≥ 4294967296 then (.ovf, y)
  else (.ok (), ((chkStep right y.1 x).2, { y.2 with queue := y.2.queue ++ [x] }))
def leaveY (right : Ev → Bool) (at_ : Int) (x : ByteArray × Bool) (y : Chk × Core) : Res Unit × (Chk × Core) :=
  match saysY right (ev0 9) at_ y with
  | (.ok _, y1) => if x.2 then saysY right (ev0 6) at_ y1 else (.ok (), y1)
  | (.err e a, y1) => (.err e a, y1)
  | (.ovf, y1) => (.ovf, y1)
def leavesY (right : Ev → Bool) (at_ : Int) : List (ByteArray × Bool) → Chk × Core → Res Unit × (Chk × Core)
  | [], y => (.ok (), y)
  | x :: r, y => match leaveY right at_ x y with
    | (.ok _, y1) => leavesY right at_ r y1
    | (.err e a, y1) => (.err e a, y1)
    | (.ovf, y1) => (.ovf, y1)
theorem secSays_at {ahead line place header begun} (x : Ev) (at_ : Int) (y : Chk × Core) :
    secSays right x at_ (secAt ahead line place header begun y) = ((saysY right x at_ y).1, secAt ahead line place header begun (saysY right x at_ y).2) := by
  obtain ⟨chk, core⟩ := y
  unfold secSays saysY
  split
  · rename_i h
    have h : (chkStep right chk x).1 ≠ 0 := h
    simp only [if_pos h]; rfl
  · rename_i h
    have h : ¬ (chkStep right chk x).1 ≠ 0 := h
    simp only [if_neg h]
    split
    · rename_i h2
      have h2 : core.queue.length ≥ 4294967296 := h2
      rw [if_pos h2]
    · rename_i h2
      have h2 : ¬ core.queue.length ≥ 4294967296 := h2
      rw [if_neg h2]; rfl
theorem secLeave_at {ahead line place header begun} (x : ByteArray × Bool) (at_ : Int) (y : Chk × Core) :
    secLeave right at_ x (secAt ahead line place header begun y) = ((leaveY right at_ x y).1, secAt ahead line place header begun (leaveY right at_ x y).2) := by
  unfold secLeave leaveY OM.bind
  rw [secSays_at]
  generalize saysY right (ev0 9) at_ y = z
  obtain ⟨r, y1⟩ := z
  cases r with
  | ok a =>
    simp only
    cases x.2 with
    | true => rw [if_pos rfl, if_pos rfl, secSays_at]
    | false => rw [if_neg (by decide), if_neg (by decide)]; rfl
  | err e a => rfl
  | ovf => rfl
theorem secLeavesL_at {ahead line place header begun} (at_ : Int) : ∀ (l : List (ByteArray × Bool)) (y : Chk × Core),
    secLeavesL right at_ l (secAt ahead line place header begun y) = ((leavesY right at_ l y).1, secAt ahead line place header begun (leavesY right at_ l y).2)
  | [], y => rfl
  | x :: r, y => by
    simp only [secLeavesL, leavesY, OM.bind]
    rw [secLeave_at]
    generalize leaveY right at_ x y = z
    obtain ⟨q, y1⟩ := z
    cases q with
    | ok a => exact secLeavesL_at at_ r y1
    | err e a => rfl
    | ovf => rfl
/-- the rounds: one after the other -/
def goY (right : Ev → Bool) (at_ : Int) (st : Chk × Core) (x : Nat × (ByteArray × Bool)) (st' : Chk × Core) : Prop := leaveY right at_ x.2 st = (.ok (), st')
theorem reachY {at_ : Int} : ∀ {l l2 : List (Nat × (ByteArray × Bool))} {st st' : Chk × Core}, Reach (goY right at_) l st st' →
    leavesY right at_ ((l ++ l2).map (·.2)) st = leavesY right at_ (l2.map (·.2)) st'
  | [], l2, st, st', h => by simp only [Reach] at h; subst h; rfl
  | x :: r, l2, st, st', ⟨c, h1, h2⟩ => by
    have ih := reachY (l2 := l2) h2
    simp only [goY] at h1
    simp only [List.cons_append, List.map_cons, leavesY, h1]
    exact ih
/-- says, on the machine's cells -/
def PostY (cs : Chk × Core → List (Chunk Pd)) (K : Out → List (Chunk Pd) → Prop) : Res Unit × (Chk × Core) → Prop
  | (.ok _, y) => K (.ret (.tuple [])) (cs y)
  | (.err e a, y) => K (.pan (flt e a)) (cs y)
  | (.ovf, _) => False
def secCs (ahead : Nat) (begun p q h : Bool) (lo len cap lo2 len2 cap2 lo3 len3 cap3 : Nat) (y : Chk × Core) : List (Chunk Pd) :=
  [.cells 0 57 [.int .i64 (Int.ofNat ahead), .vec p 3 1 lo len cap, .ptr 2 0, .vec q 4 2 lo2 len2 cap2, .vec h 5 1 lo3 len3 cap3, .bool begun, .fn (.func 31) [.ptr 1 0] []], .abs (.chk y.1) [2], .abs (.core y.2 50 40) [1, 0]]
theorem says_open_spec (hb : RgtOk GOk right) (x : Ev) (at_ : Int) (hx : okE x) (ahead : Nat) (begun p q h : Bool) (lo len cap lo2 len2 cap2 lo3 len3 cap3 : Nat) (y : Chk × Core) :
    Triple (BB Ip GOk) 161 6 6 [.ptr 0 0, .agg [.int .i64 x.kind, .str x.text, .str x.val], .int .i64 at_] (secCs ahead begun p q h lo len cap lo2 len2 cap2 lo3 len3 cap3 y)
      (fun K => PostY (secCs ahead begun p q h lo len cap lo2 len2 cap2 lo3 len3 cap3) K (saysY right x at_ y)) := by
  obtain ⟨kind, text, val⟩ := x
  obtain ⟨chk, core⟩ := y
  refine triple_of BB_ok (tb := ty) rfl (n0 := 6) (fun _ : Unit => _) pl161 Tryz.call161 Tryz.func161 rfl (by kernel_rfl) (Nat.le_of_ble_eq_true rfl) (by decide) rfl pre_none ?_
  rintro G hG K hK W bi bc bs bk bu bb bo bg bl bp bn be Ncond Nob Nop Nloop Nscope hN Nfin hf _ _
  cbv
  repeat' (first | exact True.intro | with_reducible refine dup ?_ | refine And.intro ?_ ?_)
  all_goals
    refine op_ hN (call_ (step_spec' hb chk ⟨kind, text, val⟩ hx) hG [2] rfl rfl rfl rfl rfl ?_)
    intro e chk' he
    cbv
    repeat' (first | exact True.intro | with_reducible refine dup ?_ | refine And.intro ?_ ?_)
    all_goals
      refine cond_ hN (fun h1 => ?_) (fun h1 => ?_)
      · rw [cne hN] at h1; simp at h1
        have hm : saysY right ⟨kind, text, val⟩ at_ (chk, core) = (.err e at_, (chk', core)) := by
          simp only [saysY]; rw [← he, if_pos h1]
        rw [hm] at hK
        cbv
        refine op_ hN (call_ (fail_spec e at_) hG [] rfl rfl rfl rfl rfl ?_)
        cbv
        exact hf _ _ (fin_ [] rfl rfl hK)
      · rw [cne hN] at h1; simp at h1
        subst h1
        by_cases hq : core.queue.length ≥ 4294967296
        · have hm : saysY right ⟨kind, text, val⟩ at_ (chk, core) = (.ovf, (chk, core)) := by
            simp only [saysY]; rw [← he, if_neg (by simp), if_pos hq]
          rw [hm] at hK
          exact hK.elim
        · have hm : saysY right ⟨kind, text, val⟩ at_ (chk, core) = (.ok (), (chk', { core with queue := core.queue ++ [⟨kind, text, val⟩] })) := by
            simp only [saysY]; rw [← he, if_neg (by simp), if_neg hq]
          rw [hm] at hK
          generalize hc2 : ({ core with queue := core.queue ++ [⟨kind, text, val⟩] } : Core) = core2 at hK
          cbv
          repeat' (first | exact True.intro | with_reducible refine dup ?_ | refine And.intro ?_ ?_)
          all_goals
            refine op_ hN (call_ (tell_spec 50 40 core ⟨kind, text, val⟩ (by omega)) hG [1, 0] rfl rfl rfl rfl rfl ?_)
            rw [hc2]
            cbv
            repeat' (first | exact True.intro | with_reducible refine dup ?_ | refine And.intro ?_ ?_)
            all_goals
              exact hf _ _ (fin_ [] rfl rfl hK)
end Hx
/- sections.machine.leaves: the walk. -/
namespace Hx
open Go Sx Go.Proofs
set_option maxRecDepth 100000
set_option maxHeartbeats 4000000
set_option linter.unusedVariables false
set_option linter.unusedSimpArgs false
variable {GOk : Gl → Prop}
variable {right : Ev → Bool}
/-- what the rounds of leaves keep -/
def lvCs (ahead : Nat) (begun p q h : Bool) (lo len cap lo2 len2 cap2 lo3 len3 cap3 : Nat) (xs : List UInt8) (zs : List ByteArray) (at_ : Int) (y : Chk × Core) : List (Chunk Pd) :=
  [.cells 0 57 [.int .i64 (Int.ofNat ahead), .vec p 2 1 lo len cap, .ptr 5 0, .vec q 3 2 lo2 len2 cap2, .vec h 4 1 lo3 len3 cap3, .bool begun, .fn (.func 31) [.ptr 1 0] []], .arr p true 2 5 encB xs, .arr h true 4 9 encS zs, .abs (.chk y.1) [5], .abs (.core y.2 50 40) [1, 0], .cells 6 50 [.ptr 0 0], .cells 7 3 [.int .i64 at_]]
theorem secLeaves_at {ahead line place header begun} (n : Nat) (at_ : Int) (y : Chk × Core) :
    secLeaves right n at_ (secAt ahead line place header begun y) = (match leavesY right at_ (place.drop n).reverse y with
      | (.ok _, y1) => (.ok (), secAt ahead line (place.take n) header begun y1)
      | (.err e a, y1) => (.err e a, secAt ahead line place header begun y1)
      | (.ovf, y1) => (.ovf, secAt ahead line place header begun y1)) := by
  have h : secLeaves right n at_ (secAt ahead line place header begun y) = OM.bind (secLeavesL right at_ (place.drop n).reverse) (fun _ => secCut n) (secAt ahead line place header begun y) := rfl
  rw [h]
  unfold OM.bind
  rw [secLeavesL_at]
  generalize leavesY right at_ (place.drop n).reverse y = z
  obtain ⟨r, y1⟩ := z
  cases r <;> rfl
/-- which states the rounds are in -/
def okY (right : Ev → Bool) (at_ : Int) (l : List (ByteArray × Bool)) (y0 st : Chk × Core) (x : Nat × (ByteArray × Bool)) : Prop := ∃ j, (revI l)[j]? = some x ∧ Reach (goY right at_) ((revI l).take j) y0 st
theorem okY_leaves {at_ : Int} {l : List (ByteArray × Bool)} {y0 st : Chk × Core} {x : Nat × (ByteArray × Bool)} (h : okY right at_ l y0 st x) : ∃ r, leavesY right at_ l.reverse y0 = leavesY right at_ (x.2 :: r) st := by
  obtain ⟨j, hj, hr⟩ := h
  have hlt : j < (revI l).length := (List.getElem?_eq_some_iff.1 hj).1
  have hd : revI l = (revI l).take j ++ x :: (revI l).drop (j + 1) := by
    have h1 := List.drop_eq_getElem_cons hlt
    have h2 : (revI l)[j] = x := (List.getElem?_eq_some_iff.1 hj).2
    rw [h2] at h1
    rw [← h1, List.take_append_drop]
  refine ⟨((revI l).drop (j + 1)).map (·.2), ?_⟩
  have h3 := reachY (l2 := x :: (revI l).drop (j + 1)) hr
  rw [← hd, revI_snd] at h3
  exact h3
theorem vec_drop {α : Type} {q : Bool} {lo len cap n : Nat} {ys l : List α} (hv : VecOk q lo len cap ys l) (hn : n ≤ len) : VecOk q (sloff lo n cap) (len - n) (cap - n) ys (l.drop n) := by
  have h1 := hv.room
  have h2 := hv.fits
  have h3 := hv.length
  refine ⟨fun h => by have := hv.pr h; omega, ?_, by omega, ?_⟩
  · unfold sloff; split <;> omega
  · unfold sloff
    split
    · rename_i h
      have : len - n = 0 := by omega
      rw [this, List.take_zero, List.drop_eq_nil_of_le (by omega)]
    · rw [← hv.eq, List.drop_take, List.drop_drop]
theorem sec_leaves_spec (hb : RgtOk GOk right) (s : OS Sec) (n : Nat) (at_ : Int) (hn0 : n ≤ s.m.place.length) : Triple (BB Ip GOk) 160 2 2 [.ptr 0 0, .int .i64 (Int.ofNat n), .int .i64 at_] (ocS s)
    (fun K => PostR (fun _ => .tuple []) ocS K (secLeaves right n at_ s)) := by
  obtain ⟨⟨ahead, line, chk, place, header, begun⟩, core⟩ := s
  simp only at hn0
  refine triple_range BB_ok (tb := ty) rfl (rs := [_]) (rs2 := [_]) (n0 := 6) (fun y : {cs' // Tm (.sec ⟨ahead, line, chk, place, header, begun⟩ true) cs'} => csRen (sg [0, 1] 2) y.1 ++ [.abs (.core core 50 40) [1, 0]]) pl160 Tryz.call160 Tryz.func160 rfl (by kernel_rfl) (by kernel_rfl) rfl rfl rfl (pre_open rfl rfl rfl) ?_
  rintro G hG K hK W bi bc bs bk bu bb bo bg bl bp bn be Ncond Nob Nop Nloop Nscope hN Nr hR ⟨cs', hT⟩
  obtain ⟨p, lo, len, cap, xs, q, lo2, len2, cap2, ys, hp, lo3, len3, cap3, zs, tl, hv1, hv2, hv3, hl, htl, -, rfl⟩ := id hT
  obtain rfl := htl rfl
  simp only at hv1 hv2 hv3 hl
  have hlen2 := hv2.length
  have hroom2 := hv2.room
  have hfits2 := hv2.fits
  obtain ⟨lo4, hlo4⟩ : ∃ z, sloff lo2 n cap2 = z := ⟨_, rfl⟩
  obtain ⟨len4, hlen4⟩ : ∃ z, len2 - n = z := ⟨_, rfl⟩
  obtain ⟨cap4, hcap4⟩ : ∃ z, cap2 - n = z := ⟨_, rfl⟩
  have hb1 : bo lo2 (Int.ofNat n) cap2 = lo4 := by rw [bo_ hN, ← hlo4]; rfl
  have hb2 : bg (Int.ofNat len2) (Int.ofNat n) = len4 := by rw [bg_ hN, ← hlen4]; rfl
  have hb3 : bl cap2 (Int.ofNat n) = cap4 := by rw [bl_ hN, ← hcap4]; rfl
  cbv
  refine ob_ hN ⟨⟨by simp, by simp; omega, by simp⟩, trivial⟩ ?_
  simp only [hb1, hb2, hb3]
  cbv
  refine op_ hN (inline_ BB_ok (tb := ty) rfl pl169 Tryz.call169 Tryz.func169 rfl (by kernel_rfl) (Nat.le_of_ble_eq_true rfl) ?_)
  intro W2 bi2 bc2 bs2 bk2 bu2 bb2 bo2 bg2 bl2 bp2 bn2 be2 Ncond2 Nob2 Nop2 Nloop2 Nscope2 hN2
  cbv
  have hv4 : VecOk q lo4 len4 cap4 ys (place.drop n) := hlo4 ▸ hlen4 ▸ hcap4 ▸ vec_drop hv2 (by omega)
  have hM := secLeaves_at (right := right) (ahead := ahead) (line := line) (place := place) (header := header) (begun := begun) n at_ (chk, core)
  have hM : secLeaves right n at_ ⟨⟨ahead, line, chk, place, header, begun⟩, core⟩ = _ := hM
  rw [hM] at hK
  clear hM
  generalize hl0 : place.drop n = l0 at hK hv4
  refine hR _ (range_at (B := BB Ip GOk) BB_ok Tryz.func160 (tb := ty) rfl rfl (lvCs ahead begun p q hp lo len cap lo2 len2 cap2 lo3 len3 cap3 xs zs at_) 9
    (fun x : Nat × (ByteArray × Bool) => [.int .i64 (Int.ofNat x.1), .agg [.str x.2.1, .bool x.2.2]]) (fun x => SV.denL (fun _ => 0) [.int .i64 (Int.ofNat x.1), .agg [.str x.2.1, .bool x.2.2]]) (okY right at_ l0 (chk, core)) (goY right at_)
    (fun _ _ _ _ => False) (fun v st x cs => ∃ e a st', leaveY right at_ x.2 st = (.err e a, st') ∧ v = flt e a ∧ cs = lvCs ahead begun p q hp lo len cap lo2 len2 cap2 lo3 len3 cap3 xs zs at_ st') (fun st => Reach (goY right at_) (revI l0) (chk, core) st) (chk, core) [3, 8]
    (fun yv S D E hY => back_steps_spec (G0 := G) hY.only (fun ρ x => by simp [SV.denL, SV.den]) q lo4 len4 cap4 ys l0 hv4 (by omega) (chk, core) (fun st j x h1 h2 => ⟨j, h1, h2⟩))
    rfl rfl (fun ρ x => by simp [SV.denL, SV.den]) (fun x => rfl) rfl rfl (fun yv => rfl) rfl rfl rfl (by kernel_rfl) (by kernel_rfl) (by kernel_rfl) ?_ ?_ (fun _ _ _ _ h => h.elim) (fun _ _ _ _ _ h => h.elim) ?_)
  · rintro l ⟨c1, core1⟩ ⟨i, key, rows⟩ hx W2 bi2 bc2 bs2 bk2 bu2 bb2 bo2 bg2 bl2 bp2 bn2 be2 Ncond2 Nob2 Nop2 Nloop2 Nscope2 hN2 Nend hE -
    have hE1 : ∀ st' cs rest, goY right at_ (c1, core1) (i, key, rows) st' → pickC (idsOf (csRen (tau 9 []) (lvCs ahead begun p q hp lo len cap lo2 len2 cap2 lo3 len3 cap3 xs zs at_ st'))) cs = some (csRen (tau 9 []) (lvCs ahead begun p q hp lo len cap lo2 len2 cap2 lo3 len3 cap3 xs zs at_ st'), rest) → Nend .normal cs :=
      fun st' cs rest h1 h2 => hE .normal cs (fin_ [] (out' := .ret (.tuple [])) rfl h2 ⟨st', h1, rfl⟩)
    have hE2 : ∀ e a st' cs rest, leaveY right at_ (key, rows) (c1, core1) = (.err e a, st') → pickC (idsOf (csRen (tau 9 []) (lvCs ahead begun p q hp lo len cap lo2 len2 cap2 lo3 len3 cap3 xs zs at_ st'))) cs = some (csRen (tau 9 []) (lvCs ahead begun p q hp lo len cap lo2 len2 cap2 lo3 len3 cap3 xs zs at_ st'), rest) → Nend (.panic (flt e a)) cs :=
      fun e a st' cs rest h1 h2 => hE (.panic (flt e a)) cs (fin_ [] (out' := .pan (flt e a)) rfl h2 ⟨_, rfl, e, a, st', h1, rfl, rfl⟩)
    clear hE
    have hno : (leaveY right at_ (key, rows) (c1, core1)).1 ≠ .ovf := by
      intro h
      obtain ⟨r, hr⟩ := okY_leaves hx
      simp only [leavesY] at hr
      rw [hr] at hK
      generalize leaveY right at_ (key, rows) (c1, core1) = z at h hK
      obtain ⟨z1, z2⟩ := z
      simp only at h
      subst h
      exact hK
    cbv
    refine op_ hN2 (call_ (says_open_spec hb (ev0 9) at_ (okE0 9 (by decide) (by decide)) ahead begun p q hp lo len cap lo2 len2 cap2 lo3 len3 cap3 (c1, core1)) hG [0, 1, 5, 2, 3, 4] rfl rfl rfl rfl rfl ?_)
    generalize hy : saysY right (ev0 9) at_ (c1, core1) = y
    obtain ⟨r, c2, core2⟩ := y
    cases r with
    | ovf => exact hno (by simp only [leaveY, hy])
    | err e a => cbv; exact hE2 e a (c2, core2) _ _ (by simp only [leaveY, hy]) rfl
    | ok u =>
      cbv
      refine cond_ hN2 (fun hr => ?_) (fun hr => ?_)
      · subst hr
        cbv
        refine op_ hN2 (call_ (says_open_spec hb (ev0 6) at_ (okE0 6 (by decide) (by decide)) ahead begun p q hp lo len cap lo2 len2 cap2 lo3 len3 cap3 (c2, core2)) hG [0, 1, 5, 2, 3, 4] rfl rfl rfl rfl rfl ?_)
        have hlv : leaveY right at_ (key, true) (c1, core1) = saysY right (ev0 6) at_ (c2, core2) := by simp only [leaveY, hy]; rfl
        generalize hy2 : saysY right (ev0 6) at_ (c2, core2) = y
        rw [hy2] at hlv
        obtain ⟨r, c3, core3⟩ := y
        cases r with
        | ovf => exact hno (by rw [hlv])
        | err e a => cbv; exact hE2 e a (c3, core3) _ _ hlv rfl
        | ok u2 => cbv; exact hE1 (c3, core3) _ _ hlv rfl
      · subst hr
        have hlv : leaveY right at_ (key, false) (c1, core1) = (.ok (), (c2, core2)) := by simp only [leaveY, hy]; rfl
        cbv
        exact hE1 (c2, core2) _ _ hlv rfl
  · intro cs hcs D W2 bi2 bc2 bs2 bk2 bu2 bb2 bo2 bg2 bl2 bp2 bn2 be2 Ncond2 Nob2 Nop2 Nloop2 Nscope2 hN2 Nfin2 hf2 _
    rcases hcs with ⟨⟨c1, core1⟩, hfin, rfl⟩ | ⟨_, _, _, h⟩
    · have h3 := reachY (l2 := []) hfin
      rw [List.append_nil, revI_snd] at h3
      have h3 : leavesY right at_ l0.reverse (chk, core) = (.ok (), (c1, core1)) := h3
      rw [h3] at hK
      clear h3 hfin
      have hv5 : VecOk q lo2 n cap2 ys (place.take n) := ⟨hv2.pr, hv2.room, by omega, by rw [← hv2.eq, List.take_take, Nat.min_eq_left (by omega)]⟩
      have hk1 : bo2 lo2 0 cap2 = lo2 := by rw [bo_ hN2]; simp [sloff]
      have hk2 : bg2 (Int.ofNat n) 0 = n := by rw [bg_ hN2]; simp
      have hk3 : bl2 cap2 0 = cap2 := by rw [bl_ hN2]; simp
      have hob : obsP [.le3 0 (Int.ofNat n) (Int.ofNat cap2)] := ⟨⟨by simp, by simp, by simp; omega⟩, trivial⟩
      have hpl : (place.take n).length ≤ 1000 := by rw [List.length_take]; omega
      generalize place.take n = place2 at hv5 hK hpl
      cbv
      repeat' (first | exact True.intro | with_reducible refine dup ?_ | refine And.intro ?_ ?_ | (refine ob_ hN2 hob ?_; try cbv))
      all_goals
        simp only [hk1, hk2, hk3]
        exact hf2 _ _ (fin_close rfl (.sec ⟨ahead, line, c1, place2, header, begun⟩ true) [0, 1] [2, 3, 4, 5] _ (secTm hv1 hv5 hv3 ⟨hl.1, hpl, hl.2.2⟩) rfl (fin_ [] rfl rfl hK))
    · exact h.elim
  · rintro st ⟨i, x⟩ v cs hx ⟨e, a, ⟨c2, core2⟩, h1, rfl, rfl⟩
    obtain ⟨r, hr⟩ := okY_leaves hx
    simp only [leavesY] at hr h1
    rw [h1] at hr
    rw [hr] at hK
    exact fin_close rfl (.sec ⟨ahead, line, c2, place, header, begun⟩ true) [0, 1] [2, 3, 4, 5] _ (secTm hv1 hv2 hv3 hl) rfl (fin_ [] rfl rfl hK)
end Hx
