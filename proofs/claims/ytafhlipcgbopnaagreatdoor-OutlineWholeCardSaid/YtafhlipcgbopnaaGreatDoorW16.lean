/-
  Part of a proof.
-/
import Derived.Test.YtafhlipcgbopnaaGreatDoorW08
import Derived.Test.YtafhlipcgbopnaaGreatDoorW15
import Derived.Test.YtafhlipcgbopnaaGreatDoorW07
set_option linter.unusedVariables false
set_option linter.unusedSimpArgs false
/- outline.machine.ends, opens: the walks. -/
namespace Hx
open Go Sx Go.Proofs
set_option maxRecDepth 100000
set_option maxHeartbeats 4000000
set_option linter.unusedVariables false
set_option linter.unusedSimpArgs false
variable {GOk : Gl → Prop}
variable {right : Ev → Bool}
theorem rev_last {α : Type} {p : Bool} {lo len cap : Nat} {xs : List α} {x : α} {l : List α} (h : VecOk p lo len cap xs (x :: l).reverse) : p = true ∧ len = l.length + 1 ∧ xs[lo + l.length]? = some x ∧ VecOk p lo l.length cap xs l.reverse := by
  have hlen : len = l.length + 1 := by have := h.length; simp at this; omega
  have hpt : p = true := by
    cases p with
    | true => rfl
    | false => have := h.pr rfl; have := h.fits; omega
  refine ⟨hpt, hlen, ?_, h.pr, h.room, by have := h.fits; omega, ?_⟩
  · have := vec_last (b := x) (l := l.reverse) (by simpa using h)
    simpa using this
  · have := congrArg (List.take l.length) h.eq
    rw [List.take_take, Nat.min_eq_left (by omega)] at this
    rw [this, List.reverse_cons, List.take_append_of_le_length (by simp)]
    exact List.take_of_length_le (by simp)
theorem ends_spec (hb : Below GOk right) (s : OS) (at_ : Int) (x : Int × Nat) (l : List (Int × Nat)) (ho : s.m.opn = x :: l) : Triple (BB Ip GOk) 154 2 2 [.ptr 0 0, .int .i64 at_] (oc s)
    (fun K => PostR (fun _ => .tuple []) oc K (endsM right at_ s)) := by
  obtain ⟨kind, stands⟩ := x
  obtain ⟨⟨ahead, line, chk, anc, opn, waits⟩, core⟩ := s
  refine triple_of BB_ok (tb := ty) rfl (n0 := 6) (fun y : {cs' // Tm (.mch ⟨ahead, line, chk, anc, opn, waits⟩ true) cs'} => csRen (sg [0, 1] 2) y.1 ++ [.abs (.core core) [1, 0]]) pl154 Tryz.call154 Tryz.func154 rfl (by kernel_rfl) (Nat.le_of_ble_eq_true rfl) (by decide) rfl (pre_open rfl rfl rfl) ?_
  rintro G hG K hK W bi bc bs bk bu bb bo bg bl bp bn be Ncond Nob Nop Nloop Nscope hN Nfin hf _ ⟨cs', hT⟩
  obtain ⟨p, lo, len, cap, xs, q, lo2, len2, cap2, ys, tl, hv1, hv2, hl, htl, -, rfl⟩ := id hT
  obtain rfl := htl rfl
  simp only at hv1 hv2 hl
  have hmc : ∀ chk anc w, Tm (.mch ⟨ahead, line, chk, anc, opn, w⟩ true) [.cells 0 55 [.int .i64 (Int.ofNat ahead), .vec p 2 1 lo len cap, .ptr 4 0, .ptr 5 0, .vec q 3 2 lo2 len2 cap2, .bool w, .fn (.func 25) [.ptr 1 0] []], .arr p true 2 5 encB xs, .arr q true 3 224 encK ys, .abs (.chk chk) [4], .abs (.anc anc) [5]] :=
    fun chk anc w => ⟨p, lo, len, cap, xs, q, lo2, len2, cap2, ys, _, hv1, hv2, hl, fun _ => rfl, (fun h => nomatch h), rfl⟩
  simp only at ho
  subst ho
  obtain ⟨hpt, hlen, hx, hv3⟩ := rev_last hv2
  generalize hll : l.length = ll at hlen hx hv3
  have hroom := hv2.room
  have hfits := hv2.fits
  have hmc2 : Tm (.mch ⟨ahead, line, chk, anc, l, waits⟩ true) [.cells 0 55 [.int .i64 (Int.ofNat ahead), .vec p 2 1 lo len cap, .ptr 4 0, .ptr 5 0, .vec q 3 2 lo2 ll cap2, .bool waits, .fn (.func 25) [.ptr 1 0] []], .arr p true 2 5 encB xs, .arr q true 3 224 encK ys, .abs (.chk chk) [4], .abs (.anc anc) [5]] :=
    ⟨p, lo, len, cap, xs, q, lo2, ll, cap2, ys, _, hv1, hv3, ⟨hl.1, by have := hl.2; simp at this ⊢; omega⟩, fun _ => rfl, (fun h => nomatch h), rfl⟩
  have hl2 : ll < 4611686018427387904 := by have := hl.2; simp at this; omega
  have hsub : bi .sub .i64 (Int.ofNat len2) 1 = Int.ofNat ll := by rw [isub hN (by simp; omega) (by simp; omega)]; simp; omega
  have hidx : bp lo2 (Int.ofNat ll) = lo2 + ll := by rw [bp_ hN]; simp
  have hob1 : obsP [.inb (Int.ofNat ll) (Int.ofNat len2), .tru q] := ⟨⟨by simp, by simp; omega⟩, hpt, trivial⟩
  have hob2 : obsP [.le3 0 (Int.ofNat ll) (Int.ofNat cap2)] := ⟨⟨by simp, by simp, by simp; omega⟩, trivial⟩
  have hend : endsM right at_ ⟨⟨ahead, line, chk, anc, (kind, stands) :: l, waits⟩, core⟩ = saysM right (ev0 (if bc .eql kind 7 then 9 else 6)) at_ ⟨⟨ahead, line, chk, anc, l, waits⟩, core⟩ := by
    simp only [endsM, ceq hN, decide_eq_true_eq]
  rw [hend] at hK
  have hb1 : bo lo2 0 cap2 = lo2 := by rw [bo_ hN]; simp [sloff]
  have hb2 : bg (Int.ofNat ll) 0 = ll := by rw [bg_ hN]; simp
  have hb3 : bl cap2 0 = cap2 := by rw [bl_ hN]; simp
  have hil : bp lo2 (Int.ofNat ll) < ys.length := by rw [hidx]; omega
  cbv
  simp only [hsub]
  cbv
  repeat' (first | refine And.intro ?_ ?_ | exact True.intro | (refine ob_ hN hob1 ?_; try cbv))
  all_goals
    refine op_ hN (load_arr ty_ok rfl hpt rfl wideK (Nat.le_of_ble_eq_true rfl) hil ?_)
    intro x hx2
    rw [hidx, hx] at hx2
    obtain rfl := (Option.some.inj hx2).symm
    cbv
    repeat' (first | exact True.intro | with_reducible refine dup ?_ | refine And.intro ?_ ?_ | (refine cond_ hN (fun _ => ?_) (fun _ => ?_) <;> try cbv))
  all_goals
    simp only [hsub]
    refine ob_ hN hob2 ?_
    simp only [hb1, hb2, hb3]
    cbv
    repeat' (first | exact True.intro | with_reducible refine dup ?_ | refine And.intro ?_ ?_)
  all_goals first
    | (rw [if_pos (by assumption)] at hK
       refine op_ hN (op_close rfl (.mch ⟨ahead, line, chk, anc, l, waits⟩ true) [0, 1] [2, 3, 4, 5] _ hmc2 rfl rfl (call_ (says_spec hb ⟨⟨ahead, line, chk, anc, l, waits⟩, core⟩ (ev0 9) at_ (okE0 9 (by decide) (by decide))) hG [0, 1] rfl rfl rfl rfl rfl ?_))
       generalize saysM right (ev0 9) at_ ⟨⟨ahead, line, chk, anc, l, waits⟩, core⟩ = y at hK ⊢
       obtain ⟨r, s'⟩ := y
       cases r with
       | ok a => cbv; exact hf _ _ (fin_ [] rfl rfl hK)
       | err e a => cbv; exact hf _ _ (fin_ [] rfl rfl hK)
       | ovf => exact hK.elim)
    | (rw [if_neg (by simp only [*]; decide)] at hK
       refine op_ hN (op_close rfl (.mch ⟨ahead, line, chk, anc, l, waits⟩ true) [0, 1] [2, 3, 4, 5] _ hmc2 rfl rfl (call_ (says_spec hb ⟨⟨ahead, line, chk, anc, l, waits⟩, core⟩ (ev0 6) at_ (okE0 6 (by decide) (by decide))) hG [0, 1] rfl rfl rfl rfl rfl ?_))
       generalize saysM right (ev0 6) at_ ⟨⟨ahead, line, chk, anc, l, waits⟩, core⟩ = y at hK ⊢
       obtain ⟨r, s'⟩ := y
       cases r with
       | ok a => cbv; exact hf _ _ (fin_ [] rfl rfl hK)
       | err e a => cbv; exact hf _ _ (fin_ [] rfl rfl hK)
       | ovf => exact hK.elim)
end Hx
/- outline.machine.flow, for any depth. -/
namespace Hx
open Go Sx Go.Proofs
set_option maxRecDepth 100000
set_option maxHeartbeats 4000000
set_option linter.unusedVariables false
set_option linter.unusedSimpArgs false
variable {GOk : Gl → Prop}
variable {right : Ev → Bool} {numRead : ByteArray → ByteArray × Int}
theorem flow_all (hb : Below GOk right) (hr : ReadOk GOk numRead) (n : Nat) (hn : n < 4611686018427387904) : FlowN GOk right numRead n := by
  induction n using Nat.strongRecOn with
  | ind n ih =>
    cases n with
    | zero =>
      intro s t a g _ _
      exact ⟨Tryz.call179, fun G hG K hK => by rw [flowM] at hK; exact hK.elim⟩
    | succ n => exact flow_step hb hr n (row_step hb n (by omega) fun m hm => ih m (by omega) (by omega))
theorem flow_ok (hb : Below GOk right) (hr : ReadOk GOk numRead) : FlowOk GOk right numRead := fun s t a g ht ha => flow_all hb hr _ (by omega) s t a g ht ha
end Hx
/- outline.isItem, row.Cut. -/
namespace Hx
open Go Sx Go.Proofs
set_option maxRecDepth 100000
set_option maxHeartbeats 4000000
set_option linter.unusedVariables false
set_option linter.unusedSimpArgs false
variable {GOk : Gl → Prop}
theorem has_prefix_spec (s p : ByteArray) : Triple (BB Ip GOk) 176 0 0 [.str s, .str p] [] (fun K => ∀ d, d = Lib.hasPrefix s.data.toList p.data.toList → K (.ret (.bool d)) []) := by
  refine triple_lib (.ret (.bool (Lib.hasPrefix s.data.toList p.data.toList))) (fun K h => h _ rfl) Tryz.call176 fun G hG ρ w _ _ => (Tryz.strings_HasPrefix s p w).mono ?_
  rintro e w' ⟨rfl, rfl⟩
  exact ⟨rfl, Nat.le_refl _, fun _ _ => rfl, rfl⟩
theorem trim_left_spec (s : ByteArray) : Triple (BB Ip GOk) 54 0 0 [.str s, .str ⟨#[32]⟩] [] (fun K => ∀ d : ByteArray, d.data.toList = Lib.trimLeftB s.data.toList 32 → K (.ret (.str d)) []) := by
  refine triple_lib (.ret (.str ⟨(Lib.trimLeftB s.data.toList 32).toArray⟩)) (fun K h => h _ rfl) Tryz.call54 fun G hG ρ w _ _ => (Tryz.strings_TrimLeft_one s 32 (by decide) w).mono ?_
  rintro e w' ⟨rfl, rfl⟩
  exact ⟨rfl, Nat.le_refl _, fun _ _ => rfl, rfl⟩
theorem isItem_spec (s : ByteArray) : Triple (BB Ip GOk) 164 0 0 [.str s] [] (fun K => ∀ b, b = isItemS s → K (.ret (.bool b)) []) := by
  refine triple_of BB_ok (tb := ty) rfl (n0 := 0) (fun _ : Unit => _) pl164 Tryz.call164 Tryz.func164 rfl (by kernel_rfl) (Nat.le_of_ble_eq_true rfl) (by decide) rfl pre_none ?_
  rintro G hG K hK W bi bc bs bk bu bb bo bg bl bp bn be Ncond Nob Nop Nloop Nscope hN Nfin hf _ _
  cbv
  refine cond_ hN (fun h => ?_) (fun h => ?_)
  · rw [seq_eq hN] at h
    cbv
    exact hf _ _ (fin_as (.bool true) (fun _ => rfl) (fin_ [] rfl rfl (hK true (by simp only [isItemS]; rw [show (⟨#[45]⟩ : ByteArray) = { data := { toList := [45] } } from rfl]; rw [h]; rfl))))
  · rw [seq_eq hN] at h
    cbv
    refine op_ hN (call_ (has_prefix_spec s ⟨#[45, 32]⟩) hG [] rfl rfl rfl rfl rfl ?_)
    intro d hd
    cbv
    exact hf _ _ (fin_ [] rfl rfl (hK d (by simp only [isItemS]; rw [show (⟨#[45]⟩ : ByteArray) = { data := { toList := [45] } } from rfl]; rw [h, hd]; rfl)))
theorem bt_get (s : ByteArray) (k : Nat) (h : k < s.data.toList.length) : bt s (Int.ofNat k) = ((s.data.toList[k]'h).toNat : Nat) := by
  have h2 : k < s.data.size := by simpa using h
  have h3 : k < s.size := h2
  simp [bt, Array.getD, h3]
theorem blanks_drop (s : ByteArray) : ∀ n k, s.size - k ≤ n → Lib.trimLeftB (s.data.toList.drop k) 32 = s.data.toList.drop (blanks s k) := by
  intro n
  induction n with
  | zero =>
    intro k hk
    have h1 : s.data.toList.length ≤ k := by rw [← Lib.size_eq]; omega
    have h2 : isB s k 32 = false := by cases hb : isB s k 32 with
      | false => rfl
      | true => have := isB_lt hb; omega
    rw [blanks, if_neg (by rw [h2]; decide), List.drop_eq_nil_of_le h1]; rfl
  | succ n ih =>
    intro k hk
    by_cases hlt : k < s.size
    · have hl : k < s.data.toList.length := by rw [← Lib.size_eq]; exact hlt
      rw [List.drop_eq_getElem_cons hl]
      unfold Lib.trimLeftB
      rw [List.dropWhile_cons]
      have hb := bt_get s k hl
      have hcons := List.drop_eq_getElem_cons hl
      generalize s.data.toList[k]'hl = x at hb hcons ⊢
      by_cases hx : x = 32
      · subst hx
        have h2 : isB s k 32 = true := by simp only [isB, hlt, hb]; decide
        rw [blanks, if_pos h2, if_pos (by decide)]
        exact ih (k + 1) (by omega)
      · have h2 : isB s k 32 = false := by
          simp only [isB, hb, Bool.and_eq_false_iff, decide_eq_false_iff_not]
          right
          intro h3
          exact hx (UInt8.toNat_inj.1 (by have : x.toNat = 32 := by exact_mod_cast h3
                                          rw [this]; rfl))
        have h3 : blanks s k = k := by rw [blanks, if_neg (by rw [h2]; decide)]
        have h4 : ¬ (x == 32) = true := by simpa using hx
        rw [h3, if_neg h4, hcons]
    · have h1 : s.data.toList.length ≤ k := by rw [← Lib.size_eq]; omega
      have h2 : isB s k 32 = false := by cases hb : isB s k 32 with
        | false => rfl
        | true => have := isB_lt hb; omega
      rw [blanks, if_neg (by rw [h2]; decide), List.drop_eq_nil_of_le h1]; rfl
theorem cut_spec (s : ByteArray) (hs : s.size < 1000000) : Triple (BB Ip GOk) 155 0 0 [.str s] [] (fun K => ∀ k b, (k, b) = cutR s → K (.ret (.tuple [.int .i64 (Int.ofNat k), .bool b])) []) := by
  refine triple_of BB_ok (tb := ty) rfl (n0 := 0) (fun _ : Unit => _) pl155 Tryz.call155 Tryz.func155 rfl (by kernel_rfl) (Nat.le_of_ble_eq_true rfl) (by decide) rfl pre_none ?_
  rintro G hG K hK W bi bc bs bk bu bb bo bg bl bp bn be Ncond Nob Nop Nloop Nscope hN Nfin hf _ _
  cbv
  refine op_ hN (call_ (trim_left_spec s) hG [] rfl rfl rfl rfl rfl ?_)
  intro d hd
  have h0 := blanks_drop s _ 0 (Nat.le_refl _)
  rw [List.drop_zero, ← hd] at h0
  have hbl := blanks_le s 0 (Nat.zero_le _)
  obtain ⟨k, hk⟩ : ∃ k, k = blanks s 0 := ⟨_, rfl⟩
  rw [← hk] at h0 hbl
  have hsz : d.size = s.size - k := by rw [Lib.size_eq, h0, List.length_drop, ← Lib.size_eq]
  have hcut : cutR s = (k, decide (k < s.size) && decide (bt s (Int.ofNat k) ≠ 35)) := by rw [cutR, ← hk]
  rw [hcut] at hK
  clear hcut
  have hb : k < s.size → bt d 0 = bt s (Int.ofNat k) := by
    intro h
    have h1 : k < s.data.toList.length := by rw [← Lib.size_eq]; exact h
    have h2 : 0 < d.data.toList.length := by rw [← Lib.size_eq]; omega
    rw [bt_get s k h1]
    rw [show (0 : Int) = Int.ofNat 0 from rfl, bt_get d 0 h2]
    simp only [h0, List.getElem_drop, Nat.add_zero]
  have hsub : bi .sub .i64 (Int.ofNat s.size) (Int.ofNat d.size) = Int.ofNat k := by rw [isub hN (by simp; omega) (by simp; omega)]; simp; omega
  have hsub2 : bi .sub .i64 (bn s) (bn d) = Int.ofNat k := by rw [len_eq hN, len_eq hN]; exact hsub
  have he : d = { data := { toList := [] } } ↔ d.size = 0 := by
    constructor
    · rintro rfl; rfl
    · intro h; cases d; simp only [ByteArray.mk.injEq]; exact Array.eq_empty_of_size_eq_zero h
  have hbb : bb d 0 = bt d 0 := by rw [bb_ hN]
  cbv
  refine cond_ hN (fun h => ?_) (fun h => ?_)
  · rw [sne_eq hN] at h
    have hlt : k < s.size := by
      refine Nat.lt_of_not_le fun hle => ?_
      have h0 : d.size = 0 := by omega
      rw [he.2 h0] at h
      exact nomatch h
    cbv
    refine ob_ hN ?_ ?_
    · exact ⟨⟨by simp, by rw [len_eq hN]; simp; omega⟩, trivial⟩
    cbv
    simp only [hsub2]
    exact hf _ _ (fin_ [] rfl rfl (hK k _ (by rw [hbb, hb hlt, cne hN]; simp [hlt])))
  · rw [sne_eq hN] at h
    have hnl : ¬ k < s.size := by have := he.1 (by simpa using h); omega
    cbv
    simp only [hsub2]
    exact hf _ _ (fin_as (.tuple [.int .i64 (Int.ofNat k), .bool false]) (fun _ => rfl) (fin_ [] rfl rfl (hK k false (by rw [decide_eq_false hnl]; rfl))))
end Hx
