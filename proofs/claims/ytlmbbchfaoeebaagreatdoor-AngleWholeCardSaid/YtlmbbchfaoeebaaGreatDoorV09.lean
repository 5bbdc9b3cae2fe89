/-
  Part of a proof.
-/
import Derived.Test.YtlmbbchfaoeebaaGreatDoorV08
import Derived.Test.YtlmbbchfaoeebaaGreatDoorV07
import Derived.Test.YtlmbbchfaoeebaaGreatDoorV03
import Derived.Test.YtlmbbchfaoeebaaGreatDoorV06
import Derived.Calls
import Derived.Test.YtlmbbchfaoeebaaGreatDoorV02
set_option linter.unusedVariables false
set_option linter.unusedSimpArgs false
/- quote.Quote.Step: the walk. -/
namespace Hx
open Go Sx Go.Proofs
set_option maxRecDepth 100000
set_option maxHeartbeats 4000000
set_option linter.unusedVariables false
set_option linter.unusedSimpArgs false
variable {GOk : Gl → Prop}
def qtStep (q : Qt) (b : Int) : (Bool × Int) × Qt :=
  if q.over then ((false, 2), q)
  else if q.left > 0 then ((false, (qtDigit q b).1), (qtDigit q b).2)
  else if q.escape then
    (if b = 117 then ((false, 0), { q with escape := false, left := 4, number := 0 })
     else match escOf b with
      | none => ((false, 9), { q with escape := false })
      | some c => ((false, (qtAdd { q with escape := false } [c]).1), (qtAdd { q with escape := false } [c]).2))
  else if b = 34 then ((true, 0), { q with over := true })
  else if b < 32 then ((false, 2), q)
  else if b = 92 then ((false, 0), { q with escape := true })
  else ((false, (qtAdd q [b.toNat.toUInt8]).1), (qtAdd q [b.toNat.toUInt8]).2)
theorem qt_step_spec (q : Qt) (x : UInt8) : Triple (BB Ip GOk) 188 1 1 [.ptr 0 0, .int .u8 (x.toNat : Nat)] [.abs (.qt q) [0]]
    (fun K => ∀ r e q', ((r, e), q') = qtStep q (x.toNat : Nat) → K (.ret (.tuple [.bool r, .int .i64 e])) [.abs (.qt q') [0]]) := by
  generalize hb : ((x.toNat : Nat) : Int) = b
  refine triple_of BB_ok (tb := ty) rfl (n0 := 2) (fun y : {cs' // Tm (.qt q) cs'} => csRen (sg [0] 1) y.1 ++ []) pl188 Tryz.call188 Tryz.func188 rfl (by kernel_rfl) (Nat.le_of_ble_eq_true rfl) (by decide) rfl (pre_open rfl rfl rfl) ?_
  rintro G hG K hK W bi bc bs bk bu bb bo bg bl bp bn be Ncond Nob Nop Nloop Nscope hN Nfin hf _ ⟨cs', hT⟩
  obtain ⟨p, lo, len, cap, xs, hv, hle, rfl⟩ := id hT
  obtain ⟨bytes, escape, left, number, over⟩ := q
  simp only at hle hv
  have hx : b.toNat.toUInt8 = x := by rw [← hb]; simp
  have hstep : qtStep ⟨bytes, escape, left, number, over⟩ b = (if over then ((false, 2), ⟨bytes, escape, left, number, over⟩)
    else if bc .gtr (Int.ofNat left) 0 then ((false, (qtDigit ⟨bytes, escape, left, number, over⟩ b).1), (qtDigit ⟨bytes, escape, left, number, over⟩ b).2)
    else if escape then
      (if bc .eql b 117 then ((false, 0), ⟨bytes, false, 4, 0, over⟩)
       else match escOf b with
        | none => ((false, 9), ⟨bytes, false, left, number, over⟩)
        | some c => ((false, (qtAdd ⟨bytes, false, left, number, over⟩ [c]).1), (qtAdd ⟨bytes, false, left, number, over⟩ [c]).2))
    else if bc .eql b 34 then ((true, 0), ⟨bytes, escape, left, number, true⟩)
    else if bc .lss b 32 then ((false, 2), ⟨bytes, escape, left, number, over⟩)
    else if bc .eql b 92 then ((false, 0), ⟨bytes, true, left, number, over⟩)
    else ((false, (qtAdd ⟨bytes, escape, left, number, over⟩ [x]).1), (qtAdd ⟨bytes, escape, left, number, over⟩ [x]).2)) := by
    simp only [qtStep, hx, ceq hN, clt hN, cgt hN, decide_eq_true_eq]
    simp
  have fin : ∀ (v : SV) r e q' cs (k : Nat) p lo len cap xs vs rest, qtStep ⟨bytes, escape, left, number, over⟩ b = ((r, e), q') → (∀ ρ, v.den ρ = (SV.tuple [.bool r, .int .i64 e]).den ρ) → VecOk p lo len cap xs q'.bytes → (q'.bytes.length ≤ 48 ∧ q'.left ≤ 4) →
      cget cs 0 = some (258, vs) → (∀ ρ, SV.denL ρ vs = SV.denL ρ [.vec p k 1 lo len cap, .bool q'.escape, .int .i64 (Int.ofNat q'.left), .int .i64 q'.number, .bool q'.over]) →
      pickC [0, k] (cput cs 0 [.vec p k 1 lo len cap, .bool q'.escape, .int .i64 (Int.ofNat q'.left), .int .i64 q'.number, .bool q'.over]) = some ([Chunk.cells 0 258 [.vec p k 1 lo len cap, .bool q'.escape, .int .i64 (Int.ofNat q'.left), .int .i64 q'.number, .bool q'.over], .arr p true k 5 encB xs], rest) → Nfin (.ret v) cs := by
    intro v r e q' cs k p lo len cap xs vs rest h1 h2 h3 h4 h5 h6 h7
    exact hf _ _ (fin_as _ h2 (fin_cput 0 _ h5 h6 (fin_close rfl (.qt q') [0] [k] [Chunk.cells 0 258 [.vec p 1 1 lo len cap, .bool q'.escape, .int .i64 (Int.ofNat q'.left), .int .i64 q'.number, .bool q'.over], .arr p true 1 5 encB xs] ⟨p, lo, len, cap, xs, h3, h4, rfl⟩ h7 (fin_ [] rfl rfl (hK _ _ _ h1.symm)))))
  cbv
  repeat' (first | exact True.intro | with_reducible refine dup ?_ | refine And.intro ?_ ?_ | (refine cond_ hN (fun _ => ?_) (fun _ => ?_) <;> try cbv))
  all_goals first
    | (refine fin _ _ _ ⟨bytes, escape, left, number, over⟩ _ 1 p lo len cap xs _ _ ?_ (fun _ => rfl) hv hle rfl (fun _ => rfl) rfl
       rw [hstep]; simp only [*, Bool.false_eq_true, if_true, if_false]; done)
    | (refine fin _ _ _ ⟨bytes, false, 4, 0, over⟩ _ 1 p lo len cap xs _ _ ?_ (fun _ => rfl) hv ⟨hle.1, Nat.le_refl 4⟩ rfl (fun _ => rfl) rfl
       rw [hstep]; simp only [*, Bool.false_eq_true, if_true, if_false]; done)
    | (refine fin _ _ _ ⟨bytes, escape, left, number, true⟩ _ 1 p lo len cap xs _ _ ?_ (fun _ => rfl) hv hle rfl (fun _ => rfl) rfl
       rw [hstep]; simp only [*, Bool.false_eq_true, if_true, if_false]; done)
    | (refine fin _ _ _ ⟨bytes, true, left, number, over⟩ _ 1 p lo len cap xs _ _ ?_ (fun _ => rfl) hv hle rfl (fun _ => rfl) rfl
       rw [hstep]; simp only [*, Bool.false_eq_true, if_true, if_false]; done)
    | skip
  ·
    have hgt := ‹bc .gtr (Int.ofNat left) 0 = true›
    have hgt2 : 0 < left := by rw [cgt hN] at hgt; simp at hgt; simpa using hgt
    refine op_ hN (op_close rfl (.qt ⟨bytes, escape, left, number, over⟩) [0] [1] _ ⟨p, lo, len, cap, xs, hv, hle, rfl⟩ rfl rfl (call_ (qt_digit_spec ⟨bytes, escape, left, number, over⟩ b hgt2) hG [0] rfl rfl rfl rfl rfl ?_))
    intro e q2 he
    cbv
    refine hf _ _ (fin_as (.tuple [.bool false, .int .i64 e]) (fun _ => rfl) (fin_ [] rfl rfl (hK _ _ _ ?_)))
    rw [hstep, if_neg (by simp only [*]; decide), if_pos hgt, ← he]
  ·
    refine op_ hN (call_ (escapes_spec) hG [] rfl rfl rfl rfl rfl ?_)
    cbv
    refine op_ hN (lookup_ ty_ok (.int .u8 b) rfl rfl rfl rfl rfl rfl rfl rfl (by simp [keyK, MapKept.IsKey, Sx.Lit.val]) ?_ ?_)
    · intro v hv1
      obtain ⟨c, hc, rfl⟩ := escL_mem hv1
      have hcc : ((c.toNat : Nat) : Int) = ((c.toNat : Nat) : Int) := rfl
      generalize hci : ((c.toNat : Nat) : Int) = ci at *
      cbv
      refine op_ hN (inline_ BB_ok (tb := ty) rfl pl193 Tryz.call193 Tryz.func193 rfl (by kernel_rfl) (Nat.le_of_ble_eq_true rfl) ?_)
      intro W2 bi2 bc2 bs2 bk2 bu2 bb2 bo2 bg2 bl2 bp2 bn2 be2 Ncond2 Nob2 Nop2 Nloop2 Nscope2 hN2
      cbv
      have hlen : len = bytes.length := hv.length.symm
      have hadd : bi2 .add .i64 (Int.ofNat len) (Int.ofNat 1) = Int.ofNat (len + 1) := by rw [iadd hN2 (by simp; omega) (by simp; omega)]; simp
      refine cond_ hN2 (fun h => ?_) (fun h => ?_)
      · cbv
        rw [hadd, cgt hN2] at h
        simp only [decide_eq_true_eq, decide_eq_false_iff_not, Int.ofNat_eq_natCast, gt_iff_lt, ge_iff_le, Bool.not_eq_true', Bool.not_eq_false', Int.not_lt, Int.not_le] at h
        have h48 : 48 < len + 1 := by omega
        refine fin _ false 4 ⟨bytes, false, left, number, over⟩ _ 1 p lo len cap xs _ _ ?_ (fun _ => rfl) hv hle rfl (fun _ => rfl) rfl
        rw [hstep]; simp only [*, Bool.false_eq_true, if_true, if_false, qtAdd]
        rw [if_pos (by simp only [List.length_cons, List.length_nil]; omega)]
      · rw [hadd, cgt hN2] at h
        simp only [decide_eq_true_eq, decide_eq_false_iff_not, Int.ofNat_eq_natCast, gt_iff_lt, ge_iff_le, Bool.not_eq_true', Bool.not_eq_false', Int.not_lt, Int.not_le] at h
        have h48 : len + 1 ≤ 48 := by omega
        cbv
        refine op_ hN2 (append_vec (new := [c]) (z := 0) ty_ok rfl rfl rfl rfl (fun k => by simp) rfl rfl wideB rfl rfl (src_cells wideB rfl ?_ rfl) hv.pr hv.room hv.fits (by simp; omega) (by decide) ?_)
        · intro ρ F w _
          simp only [*, SV.denL, SV.den, encB, List.flatMap_cons, List.flatMap_nil, List.map_cons, List.map_nil, List.append_nil, Sx.Lit.val]
        intro p' lo' m' cap' xs' hm' e1 e2 e3 e4
        cbv
        refine fin _ false 0 ⟨bytes ++ [c], false, left, number, over⟩ _ 4 p' lo' m' cap' xs' _ _ ?_ (fun _ => rfl) ⟨e1, e2, e3, by rw [e4, hv.eq]⟩ ⟨by simp only [List.length_append, List.length_cons, List.length_nil]; omega, hle.2⟩ rfl (fun _ => rfl) rfl
        rw [hstep]; simp only [*, Bool.false_eq_true, if_true, if_false, qtAdd]
        rw [if_neg (by simp only [List.length_cons, List.length_nil]; omega)]
    · intro hn
      have hc := escL_not hn
      cbv
      refine fin _ false 9 ⟨bytes, false, left, number, over⟩ _ 1 p lo len cap xs _ _ ?_ (fun _ => rfl) hv hle rfl (fun _ => rfl) rfl
      rw [hstep]; simp only [*, Bool.false_eq_true, if_true, if_false]
  ·
    refine op_ hN (inline_ BB_ok (tb := ty) rfl pl193 Tryz.call193 Tryz.func193 rfl (by kernel_rfl) (Nat.le_of_ble_eq_true rfl) ?_)
    intro W2 bi2 bc2 bs2 bk2 bu2 bb2 bo2 bg2 bl2 bp2 bn2 be2 Ncond2 Nob2 Nop2 Nloop2 Nscope2 hN2
    cbv
    have hlen : len = bytes.length := hv.length.symm
    have hadd : bi2 .add .i64 (Int.ofNat len) (Int.ofNat 1) = Int.ofNat (len + 1) := by rw [iadd hN2 (by simp; omega) (by simp; omega)]; simp
    refine cond_ hN2 (fun h => ?_) (fun h => ?_)
    · cbv
      rw [hadd, cgt hN2] at h
      simp only [decide_eq_true_eq, decide_eq_false_iff_not, Int.ofNat_eq_natCast, gt_iff_lt, ge_iff_le, Bool.not_eq_true', Bool.not_eq_false', Int.not_lt, Int.not_le] at h
      have h48 : 48 < len + 1 := by omega
      refine fin _ false 4 ⟨bytes, escape, left, number, over⟩ _ 1 p lo len cap xs _ _ ?_ (fun _ => rfl) hv hle rfl (fun _ => rfl) rfl
      rw [hstep]; simp only [*, Bool.false_eq_true, if_true, if_false, qtAdd]
      rw [if_pos (by simp only [List.length_cons, List.length_nil]; omega)]
    · rw [hadd, cgt hN2] at h
      simp only [decide_eq_true_eq, decide_eq_false_iff_not, Int.ofNat_eq_natCast, gt_iff_lt, ge_iff_le, Bool.not_eq_true', Bool.not_eq_false', Int.not_lt, Int.not_le] at h
      have h48 : len + 1 ≤ 48 := by omega
      cbv
      refine op_ hN2 (append_vec (new := [x]) (z := 0) ty_ok rfl rfl rfl rfl (fun k => by simp) rfl rfl wideB rfl rfl (src_cells wideB rfl ?_ rfl) hv.pr hv.room hv.fits (by simp; omega) (by decide) ?_)
      · intro ρ F w _
        simp only [*, SV.denL, SV.den, encB, List.flatMap_cons, List.flatMap_nil, List.map_cons, List.map_nil, List.append_nil, Sx.Lit.val]
      intro p' lo' m' cap' xs' hm' e1 e2 e3 e4
      cbv
      refine fin _ false 0 ⟨bytes ++ [x], escape, left, number, over⟩ _ 3 p' lo' m' cap' xs' _ _ ?_ (fun _ => rfl) ⟨e1, e2, e3, by rw [e4, hv.eq]⟩ ⟨by simp only [List.length_append, List.length_cons, List.length_nil]; omega, hle.2⟩ rfl (fun _ => rfl) rfl
      rw [hstep]; simp only [*, Bool.false_eq_true, if_true, if_false, qtAdd]
      rw [if_neg (by simp only [List.length_cons, List.length_nil]; omega)]
end Hx
/- pull.Core.tell, fails; events.Check.Done, events.New; src.New: the walks. -/
namespace Hx
open Go Sx Go.Proofs
set_option maxRecDepth 100000
set_option maxHeartbeats 4000000
set_option linter.unusedVariables false
set_option linter.unusedSimpArgs false
variable {GOk : Gl → Prop}
theorem done_spec (c : Chk) : Triple (BB Ip GOk) 16 1 1 [.ptr 0 0] [.abs (.chk c) [0]] (fun K => ∀ b, b = (c.over && c.opens.isEmpty) → K (.ret (.bool b)) [.abs (.chk c) [0]]) := by
  refine triple_of BB_ok (tb := ty) rfl (n0 := 2) (fun y : {cs' // Tm (.chk c) cs'} => csRen (sg [0] 1) y.1 ++ []) pl16 Tryz.call16 Tryz.func16 rfl (by kernel_rfl) (Nat.le_of_ble_eq_true rfl) (by decide) rfl (pre_open rfl rfl rfl) ?_
  rintro G hG K hK W bi bc bs bk bu bb bo bg bl bp bn be Ncond Nob Nop Nloop Nscope hN Nfin hf _ ⟨cs', hT⟩
  obtain ⟨hle, rfl⟩ := id hT
  have key : ∀ (ov : Bool) (p : Bool) (lo len cap : Nat), c.over = ov → (len = 0 ↔ c.opens = []) → (c.over && c.opens.isEmpty) = (ov && bc .eql (Int.ofNat len) 0) := by
    intro ov p lo len cap h1 h2
    rw [h1, ceq hN]
    congr 1
    cases hc : c.opens with
    | nil => have := h2.2 hc; subst this; rfl
    | cons o r => have : len ≠ 0 := fun e => by have := h2.1 e; rw [hc] at this; cases this
                  simp; omega
  cbv
  refine op_ hN (op_open rfl 0 4 rfl rfl rfl rfl ?_)
  rintro cs2 ⟨p, lo, len, cap, xs, hT2⟩
  have hT3 : Tm (.chkL c) cs2 := ⟨p, lo, len, cap, xs, hT2⟩
  generalize hov : c.over = ov at hT2
  cases hc : c.opens with
  | nil =>
    rw [hc] at hT2
    obtain ⟨hv, rfl⟩ := hT2
    have hl : len = 0 := by have := hv.length; simpa using this.symm
    have hk := key ov p lo len cap hov ⟨fun _ => hc, fun _ => hl⟩
    refine load_ ty_ok rfl ?_
    cbv
    repeat' (first | exact True.intro | with_reducible refine dup ?_ | refine And.intro ?_ ?_ | (refine cond_ hN (fun _ => ?_) (fun _ => ?_) <;> try cbv))
    · refine hf _ _ (fin_close rfl (.chkL c) [0, 1] [2] _ hT3 rfl (fin_close rfl (.chk c) [0] [1] [Chunk.abs (Pd.chkL c) [0, 1]] ⟨hle, rfl⟩ rfl (fin_ [] rfl rfl (hK _ ?_))))
      rw [hk]; simp only [*, Bool.true_and, Bool.and_true, Bool.false_and, Bool.and_false, Bool.true_or, Bool.or_true, Bool.false_or, Bool.or_false, Bool.not_true, Bool.not_false, Bool.false_eq_true, if_true, if_false, reduceCtorEq]
    · refine hf _ _ (fin_as (.bool false) (fun _ => rfl) (fin_close rfl (.chkL c) [0, 1] [2] _ hT3 rfl (fin_close rfl (.chk c) [0] [1] [Chunk.abs (Pd.chkL c) [0, 1]] ⟨hle, rfl⟩ rfl (fin_ [] rfl rfl (hK _ ?_)))))
      rw [hk]; simp only [*, Bool.true_and, Bool.and_true, Bool.false_and, Bool.and_false, Bool.true_or, Bool.or_true, Bool.false_or, Bool.or_false, Bool.not_true, Bool.not_false, Bool.false_eq_true, if_true, if_false, reduceCtorEq]
  | cons o r =>
    rw [hc] at hT2
    obtain ⟨g, l, hv, hlr, rfl⟩ := hT2
    have hl : len ≠ 0 := by have := hv.length; simp [ptrsOf] at this; omega
    have hk := key ov p lo len cap hov ⟨fun h => absurd h hl, fun h => by rw [hc] at h; cases h⟩
    refine load_ ty_ok rfl ?_
    cbv
    repeat' (first | exact True.intro | with_reducible refine dup ?_ | refine And.intro ?_ ?_ | (refine cond_ hN (fun _ => ?_) (fun _ => ?_) <;> try cbv))
    · refine hf _ _ (fin_close rfl (.chkL c) [0, 1] [2, 3] _ hT3 rfl (fin_close rfl (.chk c) [0] [1] [Chunk.abs (Pd.chkL c) [0, 1]] ⟨hle, rfl⟩ rfl (fin_ [] rfl rfl (hK _ ?_))))
      rw [hk]; simp only [*, Bool.true_and, Bool.and_true, Bool.false_and, Bool.and_false, Bool.true_or, Bool.or_true, Bool.false_or, Bool.or_false, Bool.not_true, Bool.not_false, Bool.false_eq_true, if_true, if_false, reduceCtorEq]
    · refine hf _ _ (fin_as (.bool false) (fun _ => rfl) (fin_close rfl (.chkL c) [0, 1] [2, 3] _ hT3 rfl (fin_close rfl (.chk c) [0] [1] [Chunk.abs (Pd.chkL c) [0, 1]] ⟨hle, rfl⟩ rfl (fin_ [] rfl rfl (hK _ ?_)))))
      rw [hk]; simp only [*, Bool.true_and, Bool.and_true, Bool.false_and, Bool.and_false, Bool.true_or, Bool.or_true, Bool.false_or, Bool.or_false, Bool.not_true, Bool.not_false, Bool.false_eq_true, if_true, if_false, reduceCtorEq]
def chk0 : Chk := ⟨[], false⟩
theorem ev_new_spec : Triple (BB Ip GOk) 14 0 1 [] [] (fun K => K (.ret (.ptr 0 0)) [.abs (.chk chk0) [0]]) := by
  refine triple_of BB_ok (tb := ty) rfl (n0 := 0) (fun _ : Unit => _) pl14 Tryz.call14 Tryz.func14 rfl (by kernel_rfl) (Nat.le_of_ble_eq_true rfl) (by decide) rfl pre_none ?_
  rintro G hG K hK W bi bc bs bk bu bb bo bg bl bp bn be Ncond Nob Nop Nloop Nscope hN Nfin hf _ _
  cbv
  refine hf _ _ ?_
  refine fin_noArr true 5 63 encP [] ?_
  refine fin_cput 0 [.vec false 5 1 0 0 0, .bool false] rfl (fun _ => rfl) ?_
  refine fin_close rfl (.chkL chk0) [0, 1] [5] [.cells 0 61 [.vec false 2 1 0 0 0, .bool false], .arr false true 2 63 encP []] ⟨false, 0, 0, 0, [], ⟨fun _ => rfl, Nat.le_refl _, Nat.le_refl _, rfl⟩, rfl⟩ rfl ?_
  exact fin_close rfl (.chk chk0) [0] [1] [Chunk.abs (Pd.chkL chk0) [0, 1]] ⟨Nat.zero_le _, rfl⟩ rfl (fin_ [0] rfl rfl hK)
theorem src_new_spec : Triple (BB Ip GOk) 28 0 1 [] [] (fun K => K (.ret (.ptr 0 0)) [.cells 0 94 [.int .i64 0, .int .u8 128, .int .u8 191]]) := by
  refine triple_of BB_ok (tb := ty) rfl (n0 := 0) (fun _ : Unit => _) pl28 Tryz.call28 Tryz.func28 rfl (by kernel_rfl) (Nat.le_of_ble_eq_true rfl) (by decide) rfl pre_none ?_
  rintro G hG K hK W bi bc bs bk bu bb bo bg bl bp bn be Ncond Nob Nop Nloop Nscope hN Nfin hf _ _
  cbv
  exact hf _ _ (fin_ [0] rfl rfl hK)
theorem tell_spec (tv td : Nat) (c : Core) (x : Ev) (hq : c.queue.length < 4294967296) : Triple (BB Ip GOk) 31 2 2 [.ptr 0 0, .agg [.int .i64 x.kind, .str x.text, .str x.val]] [.abs (.core c tv td) [0, 1]]
    (fun K => K (.ret (.tuple [])) [.abs (.core { c with queue := c.queue ++ [x] } tv td) [0, 1]]) := by
  obtain ⟨kind, text, val⟩ := x
  refine triple_of BB_ok (tb := ty) rfl (n0 := 6) (fun y : {cs' // Tm (.core c tv td) cs'} => csRen (sg [0, 1] 2) y.1 ++ []) pl31 Tryz.call31 Tryz.func31 rfl (by kernel_rfl) (Nat.le_of_ble_eq_true rfl) (by decide) rfl (pre_open rfl rfl rfl) ?_
  rintro G hG K hK W bi bc bs bk bu bb bo bg bl bp bn be Ncond Nob Nop Nloop Nscope hN Nfin hf _ ⟨cs', hT⟩
  obtain ⟨⟨sl, sa, sb⟩, queue, cat, closed, over, err, told⟩ := c
  obtain ⟨p, lo, len, cap, xs, hv, rfl⟩ := id hT
  simp only at hv hq
  have hlen := hv.length
  cbv
  repeat' (first | exact True.intro | with_reducible refine dup ?_ | refine And.intro ?_ ?_)
  all_goals
    refine op_ hN (append_vec (new := [(⟨kind, text, val⟩ : Ev)]) (z := ⟨0, ⟨#[]⟩, ⟨#[]⟩⟩) ty_ok rfl rfl rfl rfl (fun k => by simp) rfl rfl wideE rfl rfl (src_cells wideE rfl (fun _ _ _ _ => rfl) rfl) hv.pr hv.room hv.fits (by simp; omega) (by decide) ?_)
    intro p' lo' m' cap' xs' hm' e1 e2 e3 e4
    cbv
    repeat' (first | exact True.intro | with_reducible refine dup ?_ | refine And.intro ?_ ?_)
    all_goals
      refine hf _ _ (fin_close rfl (.core ⟨⟨sl, sa, sb⟩, queue ++ [⟨kind, text, val⟩], cat, closed, over, err, told⟩ tv td) [0, 1] [2, 18] _ ⟨p', lo', m', cap', xs', ⟨e1, e2, e3, by rw [e4, hv.eq]⟩, rfl⟩ rfl (fin_ [] rfl rfl hK))
end Hx
/- num.step is the state behind a byte: the walk. -/
namespace Hx
open Go Sx Go.Proofs
set_option maxRecDepth 100000
set_option maxHeartbeats 4000000
set_option linter.unusedVariables false
set_option linter.unusedSimpArgs false
def numStep (st b : Int) : Int :=
  if st == 0 && b == 45 then 1
  else if st == 0 || st == 1 then (if b == 48 then 2 else if (decide (b ≥ 48) && decide (b ≤ 57)) then 3 else 9)
  else if st == 3 && (decide (b ≥ 48) && decide (b ≤ 57)) then 3
  else if st == 3 || st == 2 then (if b == 46 then 4 else if b == 101 || b == 69 then 6 else 9)
  else if st == 4 then (if (decide (b ≥ 48) && decide (b ≤ 57)) then 5 else 9)
  else if st == 5 then (if (decide (b ≥ 48) && decide (b ≤ 57)) then 5 else if b == 101 || b == 69 then 6 else 9)
  else if st == 6 && (b == 43 || b == 45) then 7
  else if st == 6 || (st == 7 || st == 8) then (if (decide (b ≥ 48) && decide (b ≤ 57)) then 8 else 9)
  else 9
variable {Pd : Type} {I : Pd → List Nat → HP} {GOk : Gl → Prop}
theorem step_spec (st b : Int) : Triple (BB I GOk) 69 0 0 [.int .i64 st, .int .u8 b] [] (fun K => ∀ r, r = numStep st b → K (.ret (.int .i64 r)) []) := by
  refine triple_of BB_ok (tb := ty) rfl (n0 := 0) (fun _ : Unit => _) pl69 Tryz.call69 Tryz.func69 rfl (by kernel_rfl) (Nat.le_of_ble_eq_true rfl) (by decide) rfl pre_none ?_
  intro G hG K hK W bi bc bs bk bu bb bo bg bl bp bn be Ncond Nob Nop Nloop Nscope hN Nfin hf _ _
  cbv
  have hval : numStep st b = (if bc .eql st 0 && bc .eql b 45 then 1
  else if bc .eql st 0 || bc .eql st 1 then (if bc .eql b 48 then 2 else if (bc .geq b 48 && bc .leq b 57) then 3 else 9)
  else if bc .eql st 3 && (bc .geq b 48 && bc .leq b 57) then 3
  else if bc .eql st 3 || bc .eql st 2 then (if bc .eql b 46 then 4 else if bc .eql b 101 || bc .eql b 69 then 6 else 9)
  else if bc .eql st 4 then (if (bc .geq b 48 && bc .leq b 57) then 5 else 9)
  else if bc .eql st 5 then (if (bc .geq b 48 && bc .leq b 57) then 5 else if bc .eql b 101 || bc .eql b 69 then 6 else 9)
  else if bc .eql st 6 && (bc .eql b 43 || bc .eql b 45) then 7
  else if bc .eql st 6 || (bc .eql st 7 || bc .eql st 8) then (if (bc .geq b 48 && bc .leq b 57) then 8 else 9)
  else 9) := by
    rw [bc_ hN]; rfl
  have fini : ∀ r cs, numStep st b = r → Nfin (.ret (.int .i64 r)) cs := fun r cs h => hf _ _ (fin_ [] (out' := .ret (.int .i64 r)) rfl rfl (hK _ h.symm))
  repeat' (refine cond_ hN (fun _ => ?_) (fun _ => ?_) <;> cbv)
  all_goals (refine fini _ _ (hval.trans ?_); first | (simp only [*, Bool.true_and, Bool.and_true, Bool.false_and, Bool.and_false, Bool.true_or, Bool.or_true, Bool.false_or, Bool.or_false, Bool.not_true, Bool.not_false, Bool.false_eq_true, if_true, if_false]; done) | (exfalso; simp_all; done))
end Hx
/- num.May tells whether a number begins so, and whether a text is one: the walk. -/
namespace Hx
open Go Sx Go.Proofs
set_option maxRecDepth 100000
set_option maxHeartbeats 4000000
set_option linter.unusedVariables false
set_option linter.unusedSimpArgs false
def numState (st : Int) (l : List UInt8) : Int := l.foldl (fun st b => numStep st (b.toNat : Nat)) st
def numIs (st : Int) : Bool := st == 2 || (st == 3 || (st == 5 || st == 8))
def mayBegin (s : ByteArray) : Bool := !(numState 0 s.data.toList == 9)
def mayIs (s : ByteArray) : Bool := numIs (numState 0 s.data.toList)
variable {Pd : Type} {I : Pd → List Nat → HP} {GOk : Gl → Prop}
theorem num_May_spec (s : ByteArray) (hs : s.size < 9223372036854775807) : Triple (BB I GOk) 57 0 0 [.str s] [] (fun K => ∀ r q, r = mayBegin s → q = mayIs s → K (.ret (.tuple [.bool r, .bool q])) []) := by
  refine triple_of BB_ok (tb := ty) rfl (n0 := 0) (fun _ : Unit => _) pl57 Tryz.call57 Tryz.func57 rfl (by kernel_rfl) (Nat.le_of_ble_eq_true rfl) (by decide) rfl pre_none ?_
  intro G hG K hK W bi bc bs bk bu bb bo bg bl bp bn be Ncond Nob Nop Nloop Nscope hN Nfin hf _ _
  have fini : ∀ (v : SV) (r q : Bool) cs, mayBegin s = r → mayIs s = q → (∀ ρ, v.den ρ = (SV.tuple [.bool r, .bool q]).den ρ) → Nfin (.ret v) cs := fun v r q cs h1 h2 h => hf _ _ (fin_as _ h (fin_ [] (out' := .ret (.tuple [.bool r, .bool q])) rfl rfl (hK _ _ h1.symm h2.symm)))
  cbv
  refine op_ hN (str_bytes ty_ok rfl rfl rfl rfl rfl rfl rfl ?_)
  intro m cap xs hm hcap hmc hxs
  cbv
  refine loopN_ hN (loop_ hN ty_ok mixed (ι := Nat × Int) (fun y => ⟨[(8, .vec true 0 1 0 m cap), (9, .int .i64 m), (10, .int .i64 y.1), (4, .int .i64 y.2)], [.arr true true 0 5 encB xs], 1⟩) (fun y => y.1 ≤ m ∧ numState y.2 (s.data.toList.drop y.1) = numState 0 s.data.toList) (fun y => m - y.1) (Leads.idx (0, 0) [0] ⟨Nat.zero_le _, rfl⟩ ⟨⟨rfl, rfl, rfl, rfl, trivial⟩, rfl, Nat.le_of_ble_eq_true rfl⟩) ?_)
  rintro ⟨k, st⟩ hk Nnext hn _
  simp only at hk
  cbv
  refine cond_ hN (fun h3 => ?_) (fun h3 => ?_)
  · cbv
    have h3' : k < m := by rw [clt hN] at h3; simpa using h3
    refine ob_ hN ⟨⟨by simp, by simpa using h3'⟩, rfl, trivial⟩ ?_
    cbv
    refine op_ hN (load_byte ty_ok rfl rfl rfl rfl (by rw [plus0 hN]; omega) ?_)
    intro x b hx hb
    rw [plus0 hN] at hx
    have hdrop := drop_byte hxs h3' (by omega) hx
    cbv
    refine op_ hN (call_ (step_spec st b) hG [] rfl rfl rfl rfl rfl ?_)
    intro r hr
    cbv
    refine hn _ (Leads.nxt (k + 1, r) [0] ⟨h3', ?_⟩ (by simp only; omega) ⟨⟨rfl, rfl, ?_, rfl, trivial⟩, rfl, Nat.le_of_ble_eq_true rfl⟩)
    · rw [← hk.2, hdrop]; subst hb; subst hr; rfl
    · exact congrArg (fun z => some (SV.int .i64 z)) (inext hN (by omega))
  · have hst : st = numState 0 s.data.toList := by
      rw [clt hN] at h3; simp at h3
      have : k = m := by omega
      rw [← hk.2, this, List.drop_eq_nil_of_le (by rw [hm]; exact Nat.le_refl _)]; rfl
    clear hk
    have hr : mayBegin s = !bc .eql st 9 := by rw [bc_ hN, hst]; rfl
    have hq : mayIs s = (bc .eql st 2 || (bc .eql st 3 || (bc .eql st 5 || bc .eql st 8))) := by rw [bc_ hN, hst]; rfl
    have h29 : bc .eql st 2 = true → bc .eql st 9 = false := by simp only [ceq hN]; intro h; simp at h ⊢; omega
    have h39 : bc .eql st 3 = true → bc .eql st 9 = false := by simp only [ceq hN]; intro h; simp at h ⊢; omega
    have h59 : bc .eql st 5 = true → bc .eql st 9 = false := by simp only [ceq hN]; intro h; simp at h ⊢; omega
    have h89 : bc .eql st 8 = true → bc .eql st 9 = false := by simp only [ceq hN]; intro h; simp at h ⊢; omega
    have h9 : bc .eql st 9 = true → bc .eql st 2 = false ∧ bc .eql st 3 = false ∧ bc .eql st 5 = false ∧ bc .eql st 8 = false := by
      simp only [ceq hN]; intro h; simp at h ⊢; subst h; decide
    clear hst
    cbv
    repeat' (refine cond_ hN (fun _ => ?_) (fun _ => ?_) <;> cbv)
    all_goals first
      | (refine fini _ false false _ ?_ ?_ (fun _ => rfl) <;> (first | rw [hr] | rw [hq]) <;> simp_all; done)
      | (refine fini _ true true _ ?_ ?_ (fun _ => rfl) <;> (first | rw [hr] | rw [hq]) <;> simp_all; done)
      | (refine fini _ true false _ ?_ ?_ (fun _ => rfl) <;> (first | rw [hr] | rw [hq]) <;> simp_all; done)
end Hx
/- src.Scan.Step: the walk. -/
namespace Hx
open Go Sx Go.Proofs
set_option maxRecDepth 100000
set_option maxHeartbeats 4000000
set_option linter.unusedVariables false
set_option linter.unusedSimpArgs false
variable {GOk : Gl → Prop}
def scanStep (s : Scan) (b : Int) : Bool × Scan :=
  if s.left > 0 then (if decide (b < s.least) || decide (b > s.top) then (false, s) else (true, ⟨bitI .sub .i64 s.left 1, 128, 191⟩))
  else if b < 128 then (true, ⟨0, 128, 191⟩)
  else if decide (b < 194) || decide (b > 244) then (false, s)
  else (true, ⟨if b < 224 then 1 else if b < 240 then 2 else 3, if b = 224 then 160 else if b = 237 then 128 else if b = 240 then 144 else 128, if b = 224 then 191 else if b = 237 then 159 else if b = 240 then 191 else if b = 244 then 143 else 191⟩)
theorem scan_step_spec (s : Scan) (b : Int) : Triple (BB Ip GOk) 29 1 1 [.ptr 0 0, .int .u8 b] [.cells 0 94 [.int .i64 s.left, .int .u8 s.least, .int .u8 s.top]]
    (fun K => ∀ r s', (r, s') = scanStep s b → K (.ret (.bool r)) [.cells 0 94 [.int .i64 s'.left, .int .u8 s'.least, .int .u8 s'.top]]) := by
  obtain ⟨l, lo, hi⟩ := s
  refine triple_of BB_ok (tb := ty) rfl (n0 := 1) (fun _ : Unit => _) pl29 Tryz.call29 Tryz.func29 rfl (by kernel_rfl) (Nat.le_of_ble_eq_true rfl) (by decide) rfl pre_none ?_
  rintro G hG K hK W bi bc bs bk bu bb bo bg bl bp bn be Ncond Nob Nop Nloop Nscope hN Nfin hf _ _
  have hstep : scanStep ⟨l, lo, hi⟩ b = (if bc .gtr l 0 then (if bc .lss b lo || bc .gtr b hi then (false, ⟨l, lo, hi⟩) else (true, ⟨bi .sub .i64 l 1, 128, 191⟩))
    else if bc .lss b 128 then (true, ⟨0, 128, 191⟩)
    else if bc .lss b 194 || bc .gtr b 244 then (false, ⟨l, lo, hi⟩)
    else (true, ⟨if bc .lss b 224 then 1 else if bc .lss b 240 then 2 else 3, if bc .eql b 224 then 160 else if bc .eql b 237 then 128 else if bc .eql b 240 then 144 else 128, if bc .eql b 224 then 191 else if bc .eql b 237 then 159 else if bc .eql b 240 then 191 else if bc .eql b 244 then 143 else 191⟩)) := by
    simp only [scanStep, ceq hN, clt hN, cgt hN, decide_eq_true_eq, bi_ hN]
  have fin : ∀ (v : SV) r l' a' b' cs rest, scanStep ⟨l, lo, hi⟩ b = (r, ⟨l', a', b'⟩) → (∀ ρ, v.den ρ = (SV.bool r).den ρ) → pickC [0] cs = some ([Chunk.cells 0 94 [.int .i64 l', .int .u8 a', .int .u8 b']], rest) → Nfin (.ret v) cs := by
    intro v r l' a' b' cs rest h1 h2 h3
    exact hf _ _ (fin_as _ h2 (fin_ [] (out' := .ret (.bool r)) (cs' := [Chunk.cells 0 94 [.int .i64 l', .int .u8 a', .int .u8 b']]) rfl h3 (hK _ _ h1.symm)))
  cbv
  refine scopeN_ hN (scope_ hN ty_ok mixed 3 ?_)
  cbv
  repeat' (first | exact True.intro | with_reducible refine dup ?_ | refine And.intro ?_ ?_ | (refine cond_ hN (fun _ => ?_) (fun _ => ?_) <;> try cbv))
  all_goals
    first
    | (refine fin _ true _ _ _ _ _ ?_ (fun _ => rfl) rfl; rw [hstep]; simp only [*, Bool.true_and, Bool.and_true, Bool.false_and, Bool.and_false, Bool.true_or, Bool.or_true, Bool.false_or, Bool.or_false, Bool.not_true, Bool.not_false, Bool.false_eq_true, if_true, if_false, reduceCtorEq]; done)
    | (refine fin _ false _ _ _ _ _ ?_ (fun _ => rfl) rfl; rw [hstep]; simp only [*, Bool.true_and, Bool.and_true, Bool.false_and, Bool.and_false, Bool.true_or, Bool.or_true, Bool.false_or, Bool.or_false, Bool.not_true, Bool.not_false, Bool.false_eq_true, if_true, if_false, reduceCtorEq]; done)
end Hx
