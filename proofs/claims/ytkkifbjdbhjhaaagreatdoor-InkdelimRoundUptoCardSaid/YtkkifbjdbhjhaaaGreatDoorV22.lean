/-
  Part of a proof.
-/
import Derived.Test.YtkkifbjdbhjhaaaGreatDoorV13
import Derived.Test.YtkkifbjdbhjhaaaGreatDoorV11
import Derived.Test.YtkkifbjdbhjhaaaGreatDoorV05
import Derived.Test.YtkkifbjdbhjhaaaGreatDoorV06
import Derived.Test.YtkkifbjdbhjhaaaGreatDoorV15
set_option linter.unusedVariables false
set_option linter.unusedSimpArgs false
/- ref01: May, Long, One, Runes, Valid: the walks. -/
namespace Hx
open Go Sx Go.Proofs
set_option maxRecDepth 100000
set_option maxHeartbeats 4000000
set_option linter.unusedVariables false
set_option linter.unusedSimpArgs false
variable {GOk : Gl → Prop}
theorem rmay_spec (r : Int) : Triple (BB Ip GOk) 149 0 0 [.int .i64 r] [] (fun K => ∀ b, b = mayR r → K (.ret (.bool b)) []) := by
  refine triple_of BB_ok (tb := ty) rfl (n0 := 0) (fun _ : Unit => _) pl149 Tryz.call149 Tryz.func149 rfl (by kernel_rfl) (Nat.le_of_ble_eq_true rfl) (by decide) rfl pre_none ?_
  rintro G hG K hK W bi bc bs bk bu bb bo bg bl bp bn be Ncond Nob Nop Nloop Nscope hN Nfin hf _ _
  cbv
  refine cond_ hN ?_ ?_ <;> intro h1 <;> rw [cge hN] at h1
  · have h1 : decide (0 ≤ r) = true := h1
    cbv
    refine cond_ hN ?_ ?_ <;> intro h2 <;> rw [cle hN] at h2
    · cbv
      refine cond_ hN ?_ ?_ <;> intro h3 <;> rw [clt hN] at h3
      · cbv
        exact hf _ _ (fin_as (.bool true) (fun _ => rfl) (fin_ [] rfl rfl (hK true (by unfold mayR; rw [h1, h2, h3]; rfl))))
      · obtain ⟨b3, hb3⟩ : ∃ b, bc .gtr r 57343 = b := ⟨_, rfl⟩
        cbv
        simp only [hb3]
        exact hf _ _ (fin_ [] rfl rfl (hK b3 (by unfold mayR; rw [h1, h2, h3, ← hb3, cgt hN]; rfl)))
    · cbv
      exact hf _ _ (fin_as (.bool false) (fun _ => rfl) (fin_ [] rfl rfl (hK false (by unfold mayR; rw [h1, h2]; rfl))))
  · have h1 : decide (0 ≤ r) = false := h1
    cbv
    exact hf _ _ (fin_as (.bool false) (fun _ => rfl) (fin_ [] rfl rfl (hK false (by unfold mayR; rw [h1]; rfl))))
theorem rlong_spec (r : Int) : Triple (BB Ip GOk) 150 0 0 [.int .i64 r] [] (fun K => ∀ n, n = longR r → K (.ret (.int .i64 n)) []) := by
  refine triple_of BB_ok (tb := ty) rfl (n0 := 0) (fun _ : Unit => _) pl150 Tryz.call150 Tryz.func150 rfl (by kernel_rfl) (Nat.le_of_ble_eq_true rfl) (by decide) rfl pre_none ?_
  rintro G hG K hK W bi bc bs bk bu bb bo bg bl bp bn be Ncond Nob Nop Nloop Nscope hN Nfin hf _ _
  unfold longR at hK
  cbv
  refine cond_ hN ?_ ?_ <;> intro h1 <;> rw [clt hN] at h1
  · rw [if_pos (of_decide_eq_true h1)] at hK
    cbv
    exact hf _ _ (fin_ [] rfl rfl (hK 1 rfl))
  rw [if_neg (of_decide_eq_false h1)] at hK
  cbv
  refine cond_ hN ?_ ?_ <;> intro h2 <;> rw [clt hN] at h2
  · rw [if_pos (of_decide_eq_true h2)] at hK
    cbv
    exact hf _ _ (fin_ [] rfl rfl (hK 2 rfl))
  rw [if_neg (of_decide_eq_false h2)] at hK
  cbv
  refine cond_ hN ?_ ?_ <;> intro h3 <;> rw [clt hN] at h3
  · rw [if_pos (of_decide_eq_true h3)] at hK
    cbv
    exact hf _ _ (fin_ [] rfl rfl (hK 3 rfl))
  rw [if_neg (of_decide_eq_false h3)] at hK
  cbv
  exact hf _ _ (fin_ [] rfl rfl (hK 4 rfl))
theorem contGo_bound : ∀ (k : Nat) (l : List UInt8) (v w : Int), 0 ≤ v → contGo k l v = some w → v ≤ w
  | 0, l, v, w, h, e => by simp only [contGo, Option.some.injEq] at e; omega
  | k + 1, [], v, w, h, e => by simp [contGo] at e
  | k + 1, d :: r, v, w, h, e => by
    simp only [contGo] at e
    split at e
    · cases e
    · rename_i hd
      have := contGo_bound k r _ w (by omega) e
      omega
theorem one_spec (s : ByteArray) (hs : s.size ≤ 1000000) : Triple (BB Ip GOk) 141 0 0 [.str s] [] (fun K => ∀ v n, (v, n) = oneR s.data.toList → K (.ret (.tuple [.int .i64 v, .int .i64 (Int.ofNat n)])) []) := by
  refine triple_of BB_ok (tb := ty) rfl (n0 := 0) (fun _ : Unit => _) pl141 Tryz.call141 Tryz.func141 rfl (by kernel_rfl) (Nat.le_of_ble_eq_true rfl) (by decide) rfl pre_none ?_
  rintro G hG K hK W bi bc bs bk bu bb bo bg bl bp bn be Ncond Nob Nop Nloop Nscope hN Nfin hf _ _
  have hbn : bn s = Int.ofNat s.size := by rw [bn_ hN]; rfl
  obtain ⟨sz, hsz⟩ : ∃ x, s.size = x := ⟨_, rfl⟩
  rw [hsz] at hbn
  have hll : s.data.toList.length = sz := by rw [Array.length_toList]; exact hsz
  have hceq0 : bc .eql (Int.ofNat sz) 0 = decide (sz = 0) := by
    rw [ceq hN]
    by_cases h : sz = 0
    · rw [h]; rfl
    · have h2 : ¬ ((sz : Int) = 0) := by omega
      simp [h]
  cbv
  simp only [hbn]
  refine cond_ hN ?_ ?_ <;> intro h0 <;> rw [hceq0] at h0
  · have h0 : sz = 0 := of_decide_eq_true h0
    have hnil : s.data.toList = [] := List.eq_nil_of_length_eq_zero (by omega)
    rw [hnil] at hK
    cbv
    exact hf _ _ (fin_ [] rfl rfl (hK 0 0 rfl))
  have h0 : ¬ sz = 0 := of_decide_eq_false h0
  obtain ⟨b, r, hbr⟩ : ∃ b r, s.data.toList = b :: r := by
    cases e : s.data.toList with
    | nil => rw [e] at hll; simp at hll; omega
    | cons b r => exact ⟨b, r, rfl⟩
  have hrl : r.length + 1 = sz := by rw [hbr] at hll; simpa using hll
  have hbyte : ∀ k (x : UInt8), (b :: r)[k]? = some x → bb s (Int.ofNat k) = ((x.toNat : Nat) : Int) := fun k x hx => by
    have hk : k < s.data.toList.length := by rw [hbr]; exact (List.getElem?_eq_some_iff.1 hx).1
    rw [bb_ hN, bt_get s k hk]
    have : s.data.toList[k]? = some x := by rw [hbr]; exact hx
    rw [List.getElem?_eq_getElem hk] at this
    rw [Option.some.inj this]
  have hb0 : bb s 0 = ((b.toNat : Nat) : Int) := hbyte 0 b rfl
  have hblt : b.toNat < 256 := b.toNat_lt
  obtain ⟨c, hc⟩ : ∃ c : Int, ((b.toNat : Nat) : Int) = c := ⟨_, rfl⟩
  have hc0 : 0 ≤ c ∧ c < 256 := by omega
  have hW : W .i64 c = c := by rw [hN.W]; exact wrap_id (by omega) (by omega)
  rw [hc] at hb0
  rw [hbr] at hK
  simp only [oneR, hc] at hK
  have hob0 : obsP [.inb 0 (Int.ofNat sz)] := ⟨⟨by simp, by simp; omega⟩, trivial⟩
  cbv
  simp only [hbn]
  refine ob_ hN hob0 ?_
  simp only [hb0]
  cbv
  simp only [hW]
  cbv
  by_cases r0 : c < 128
  · rw [if_pos r0] at hK
    refine cond_T hN (by rw [clt hN]; exact decide_eq_true r0) ?_
    cbv
    exact hf _ _ (fin_ [] rfl rfl (hK c 1 rfl))
  by_cases r1 : c < 192
  · have hn : leadN c = 0 := by unfold leadN; (repeat rw [if_neg (by omega)])
    rw [if_neg (by omega), hn, if_pos (.inl rfl)] at hK
    repeat' (first
      | (refine cond_T hN ?_ ?_; (focus (rw [cge hN]; apply decide_eq_true; omega)); cbv)
      | (refine cond_F hN ?_ ?_; (focus (rw [cge hN]; apply decide_eq_false; omega)); cbv)
      | (refine cond_T hN ?_ ?_; (focus (rw [clt hN]; apply decide_eq_true; omega)); cbv)
      | (refine cond_F hN ?_ ?_; (focus (rw [clt hN]; apply decide_eq_false; omega)); cbv))
    refine cond_T hN (by rw [ceq hN]; rfl) ?_
    cbv
    exact hf _ _ (fin_ [] rfl rfl (hK 0 0 rfl))
  by_cases r2 : c < 224
  · have hn : leadN c = 2 := by unfold leadN; (repeat rw [if_neg (by omega)]); rw [if_pos (by omega)]
    have hv : leadV c = c - 192 := by unfold leadV; (repeat rw [if_neg (by omega)]); rw [if_pos (by omega)]
    rw [if_neg (by omega), hn, hv] at hK
    have hsub : bi .sub .i64 c 192 = c - 192 := isub hN (by omega) (by omega)
    have hv1 : 0 ≤ c - 192 ∧ c - 192 ≤ 31 := by omega
    obtain ⟨v0, hv0⟩ : ∃ v : Int, c - 192 = v := ⟨_, rfl⟩
    rw [hv0] at hsub hK hv1
    have hlN : bc .lss (Int.ofNat sz) 2 = decide (sz < 2) := by
      rw [clt hN]
      by_cases h : sz < 2
      · have h2 : (sz : Int) < 2 := by omega
        rw [decide_eq_true h]; exact decide_eq_true h2
      · have h2 : ¬ (sz : Int) < 2 := by omega
        rw [decide_eq_false h]; exact decide_eq_false h2
    repeat' (first
      | (refine cond_T hN ?_ ?_; (focus (rw [cge hN]; apply decide_eq_true; omega)); cbv)
      | (refine cond_F hN ?_ ?_; (focus (rw [cge hN]; apply decide_eq_false; omega)); cbv)
      | (refine cond_T hN ?_ ?_; (focus (rw [clt hN]; apply decide_eq_true; omega)); cbv)
      | (refine cond_F hN ?_ ?_; (focus (rw [clt hN]; apply decide_eq_false; omega)); cbv))
    refine cond_F hN (by rw [ceq hN]; rfl) ?_
    cbv
    simp only [hbn, hsub]
    refine cond_ hN ?_ ?_ <;> intro h5 <;> rw [hlN] at h5
    · have h5 := of_decide_eq_true h5
      rw [if_pos (.inr (by omega))] at hK
      cbv
      exact hf _ _ (fin_ [] rfl rfl (hK 0 0 rfl))
    have h5 := of_decide_eq_false h5
    rw [if_neg (fun h => h.elim (by decide) (by omega))] at hK
    cbv
    refine loopN_ hN (loop_ hN ty_ok mixed (ι := Nat × Int) (fun y => ⟨[(0, .str s), (5, .int .i64 2), (6, .int .i64 y.2), (7, .int .i64 (Int.ofNat y.1))], [], 0⟩)
      (fun y => 1 ≤ y.1 ∧ y.1 ≤ 2 ∧ contGo (2 - y.1) (r.drop (y.1 - 1)) y.2 = contGo (2 - 1) r v0 ∧ 0 ≤ y.2 ∧ y.2 ≤ ([31, 2047, 131071, 8388607] : List Int).getD (y.1 - 1) 0) (fun y => 2 - y.1) ?_ ?_)
    · exact Leads.idx (1, v0) [] ⟨Nat.le_refl _, (show (1 : Nat) ≤ 2 by decide), rfl, hv1.1, hv1.2⟩ ⟨⟨rfl, rfl, rfl, rfl, trivial⟩, rfl, Nat.le_of_ble_eq_true rfl⟩
    rintro ⟨i, v⟩ ⟨hi1, hi2, hgo, hva, hvb⟩ Nnext hnx _
    simp only at hi1 hi2 hgo hva hvb
    have hvb2 : v ≤ 8388607 := by
      rcases (show i = 1 ∨ i = 2 ∨ i = 3 ∨ i = 4 by omega) with rfl | rfl | rfl | rfl <;> simp at hvb <;> omega
    have hlI : bc .lss (Int.ofNat i) 2 = decide (i < 2) := by
      rw [clt hN]
      by_cases h : i < 2
      · have h2 : (i : Int) < 2 := by omega
        rw [decide_eq_true h]; exact decide_eq_true h2
      · have h2 : ¬ (i : Int) < 2 := by omega
        rw [decide_eq_false h]; exact decide_eq_false h2
    cbv
    refine cond_ hN ?_ ?_ <;> intro h6 <;> rw [hlI] at h6
    · have h6 := of_decide_eq_true h6
      obtain ⟨j, hj⟩ : ∃ j, i = j + 1 := ⟨i - 1, by omega⟩
      obtain ⟨d, hd⟩ : ∃ d, r[j]? = some d := ⟨r[j]'(by omega), List.getElem?_eq_getElem (by omega)⟩
      have hbd : bb s (Int.ofNat i) = ((d.toNat : Nat) : Int) := hbyte i d (by rw [hj, List.getElem?_cons_succ]; exact hd)
      have hdr : r.drop j = d :: r.drop (j + 1) := by
        obtain ⟨hlt, e⟩ := List.getElem?_eq_some_iff.1 hd
        rw [List.drop_eq_getElem_cons hlt, e]
      rw [show i - 1 = j by omega, hdr, show 2 - i = (2 - (i + 1)) + 1 by omega] at hgo
      simp only [contGo] at hgo
      obtain ⟨di, hdi⟩ : ∃ c : Int, ((d.toNat : Nat) : Int) = c := ⟨_, rfl⟩
      have hdlt : d.toNat < 256 := d.toNat_lt
      have hdi0 : 0 ≤ di ∧ di < 256 := by omega
      have hWd : W .i64 di = di := by rw [hN.W]; exact wrap_id (by omega) (by omega)
      rw [hdi] at hbd hgo
      have hmul : bi .mul .i64 64 v = 64 * v := by rw [bi_ hN]; exact wrap_id (by omega) (by omega)
      have hadd : bi .add .i64 (64 * v) di = 64 * v + di := iadd hN (by omega) (by omega)
      have hsb2 : bi .sub .i64 (64 * v + di) 128 = 64 * v + di - 128 := isub hN (by omega) (by omega)
      have hinx : bi .add .i64 (Int.ofNat i) 1 = Int.ofNat (i + 1) := inext hN (by omega)
      obtain ⟨v1, hv1'⟩ : ∃ x, 64 * v = x := ⟨_, rfl⟩
      obtain ⟨v2, hv2'⟩ : ∃ x, v1 + di = x := ⟨_, rfl⟩
      obtain ⟨v3, hv3'⟩ : ∃ x, v2 - 128 = x := ⟨_, rfl⟩
      rw [hv1'] at hmul hadd hsb2 hgo
      rw [hv2'] at hadd hsb2 hgo
      rw [hv3'] at hsb2 hgo
      cbv
      simp only [hbn]
      refine ob_ hN ⟨⟨by simp, by simp; omega⟩, trivial⟩ ?_
      simp only [hbd]
      cbv
      simp only [hWd]
      cbv
      refine cond_ hN ?_ ?_ <;> intro h7 <;> rw [clt hN] at h7
      · rw [if_pos (.inl (of_decide_eq_true h7))] at hgo
        rw [← hgo] at hK
        cbv
        exact hf _ _ (fin_ [] rfl rfl (hK 0 0 rfl))
      have h7 := of_decide_eq_false h7
      cbv
      refine cond_ hN ?_ ?_ <;> intro h8 <;> rw [cge hN] at h8
      · rw [if_pos (.inr (of_decide_eq_true h8))] at hgo
        rw [← hgo] at hK
        cbv
        exact hf _ _ (fin_ [] rfl rfl (hK 0 0 rfl))
      have h8 := of_decide_eq_false h8
      rw [if_neg (fun h => h.elim h7 h8)] at hgo
      cbv
      simp only [hmul, hadd, hsb2, hinx]
      refine hnx _ (Leads.nxt (i + 1, v3) [] ⟨by omega, h6, by rw [show i + 1 - 1 = j + 1 by omega]; exact hgo, by simp only; omega, ?_⟩ (by simp only; omega) ⟨⟨rfl, rfl, rfl, rfl, trivial⟩, rfl, Nat.le_of_ble_eq_true rfl⟩)
      rcases (show i = 1 ∨ i = 2 ∨ i = 3 by omega) with rfl | rfl | rfl <;> simp at hvb ⊢ <;> omega
    · have h6 := of_decide_eq_false h6
      obtain rfl : i = 2 := by omega
      simp only [Nat.sub_self, contGo] at hgo
      rw [← hgo] at hK
      simp only at hK
      clear hgo hvb
      cbv
      refine op_ hN (call_ (rmay_spec v) hG [] rfl rfl rfl rfl rfl ?_)
      intro bm hbm
      rw [← hbm] at hK
      cases bm with
      | false =>
        rw [if_pos (by rfl)] at hK
        cbv
        refine cond_T hN rfl ?_
        cbv
        exact hf _ _ (fin_ [] rfl rfl (hK 0 0 rfl))
      | true =>
        cbv
        refine cond_F hN rfl ?_
        cbv
        refine op_ hN (call_ (rlong_spec v) hG [] rfl rfl rfl rfl rfl ?_)
        intro nl hnl
        rw [← hnl] at hK
        cbv
        refine cond_ hN ?_ ?_ <;> intro h9 <;> rw [cne hN] at h9
        · have h9 : nl ≠ 2 := by simpa using h9
          rw [if_pos (by simpa using h9)] at hK
          cbv
          exact hf _ _ (fin_ [] rfl rfl (hK 0 0 rfl))
        · have h9 : nl = 2 := by simpa using h9
          rw [if_neg (by simp [h9])] at hK
          cbv
          exact hf _ _ (fin_ [] rfl rfl (hK v 2 rfl))
  by_cases r3 : c < 240
  · have hn : leadN c = 3 := by unfold leadN; (repeat rw [if_neg (by omega)]); rw [if_pos (by omega)]
    have hv : leadV c = c - 224 := by unfold leadV; (repeat rw [if_neg (by omega)]); rw [if_pos (by omega)]
    rw [if_neg (by omega), hn, hv] at hK
    have hsub : bi .sub .i64 c 224 = c - 224 := isub hN (by omega) (by omega)
    have hv1 : 0 ≤ c - 224 ∧ c - 224 ≤ 31 := by omega
    obtain ⟨v0, hv0⟩ : ∃ v : Int, c - 224 = v := ⟨_, rfl⟩
    rw [hv0] at hsub hK hv1
    have hlN : bc .lss (Int.ofNat sz) 3 = decide (sz < 3) := by
      rw [clt hN]
      by_cases h : sz < 3
      · have h2 : (sz : Int) < 3 := by omega
        rw [decide_eq_true h]; exact decide_eq_true h2
      · have h2 : ¬ (sz : Int) < 3 := by omega
        rw [decide_eq_false h]; exact decide_eq_false h2
    repeat' (first
      | (refine cond_T hN ?_ ?_; (focus (rw [cge hN]; apply decide_eq_true; omega)); cbv)
      | (refine cond_F hN ?_ ?_; (focus (rw [cge hN]; apply decide_eq_false; omega)); cbv)
      | (refine cond_T hN ?_ ?_; (focus (rw [clt hN]; apply decide_eq_true; omega)); cbv)
      | (refine cond_F hN ?_ ?_; (focus (rw [clt hN]; apply decide_eq_false; omega)); cbv))
    refine cond_F hN (by rw [ceq hN]; rfl) ?_
    cbv
    simp only [hbn, hsub]
    refine cond_ hN ?_ ?_ <;> intro h5 <;> rw [hlN] at h5
    · have h5 := of_decide_eq_true h5
      rw [if_pos (.inr (by omega))] at hK
      cbv
      exact hf _ _ (fin_ [] rfl rfl (hK 0 0 rfl))
    have h5 := of_decide_eq_false h5
    rw [if_neg (fun h => h.elim (by decide) (by omega))] at hK
    cbv
    refine loopN_ hN (loop_ hN ty_ok mixed (ι := Nat × Int) (fun y => ⟨[(0, .str s), (5, .int .i64 3), (6, .int .i64 y.2), (7, .int .i64 (Int.ofNat y.1))], [], 0⟩)
      (fun y => 1 ≤ y.1 ∧ y.1 ≤ 3 ∧ contGo (3 - y.1) (r.drop (y.1 - 1)) y.2 = contGo (3 - 1) r v0 ∧ 0 ≤ y.2 ∧ y.2 ≤ ([31, 2047, 131071, 8388607] : List Int).getD (y.1 - 1) 0) (fun y => 3 - y.1) ?_ ?_)
    · exact Leads.idx (1, v0) [] ⟨Nat.le_refl _, (show (1 : Nat) ≤ 3 by decide), rfl, hv1.1, hv1.2⟩ ⟨⟨rfl, rfl, rfl, rfl, trivial⟩, rfl, Nat.le_of_ble_eq_true rfl⟩
    rintro ⟨i, v⟩ ⟨hi1, hi2, hgo, hva, hvb⟩ Nnext hnx _
    simp only at hi1 hi2 hgo hva hvb
    have hvb2 : v ≤ 8388607 := by
      rcases (show i = 1 ∨ i = 2 ∨ i = 3 ∨ i = 4 by omega) with rfl | rfl | rfl | rfl <;> simp at hvb <;> omega
    have hlI : bc .lss (Int.ofNat i) 3 = decide (i < 3) := by
      rw [clt hN]
      by_cases h : i < 3
      · have h2 : (i : Int) < 3 := by omega
        rw [decide_eq_true h]; exact decide_eq_true h2
      · have h2 : ¬ (i : Int) < 3 := by omega
        rw [decide_eq_false h]; exact decide_eq_false h2
    cbv
    refine cond_ hN ?_ ?_ <;> intro h6 <;> rw [hlI] at h6
    · have h6 := of_decide_eq_true h6
      obtain ⟨j, hj⟩ : ∃ j, i = j + 1 := ⟨i - 1, by omega⟩
      obtain ⟨d, hd⟩ : ∃ d, r[j]? = some d := ⟨r[j]'(by omega), List.getElem?_eq_getElem (by omega)⟩
      have hbd : bb s (Int.ofNat i) = ((d.toNat : Nat) : Int) := hbyte i d (by rw [hj, List.getElem?_cons_succ]; exact hd)
      have hdr : r.drop j = d :: r.drop (j + 1) := by
        obtain ⟨hlt, e⟩ := List.getElem?_eq_some_iff.1 hd
        rw [List.drop_eq_getElem_cons hlt, e]
      rw [show i - 1 = j by omega, hdr, show 3 - i = (3 - (i + 1)) + 1 by omega] at hgo
      simp only [contGo] at hgo
      obtain ⟨di, hdi⟩ : ∃ c : Int, ((d.toNat : Nat) : Int) = c := ⟨_, rfl⟩
      have hdlt : d.toNat < 256 := d.toNat_lt
      have hdi0 : 0 ≤ di ∧ di < 256 := by omega
      have hWd : W .i64 di = di := by rw [hN.W]; exact wrap_id (by omega) (by omega)
      rw [hdi] at hbd hgo
      have hmul : bi .mul .i64 64 v = 64 * v := by rw [bi_ hN]; exact wrap_id (by omega) (by omega)
      have hadd : bi .add .i64 (64 * v) di = 64 * v + di := iadd hN (by omega) (by omega)
      have hsb2 : bi .sub .i64 (64 * v + di) 128 = 64 * v + di - 128 := isub hN (by omega) (by omega)
      have hinx : bi .add .i64 (Int.ofNat i) 1 = Int.ofNat (i + 1) := inext hN (by omega)
      obtain ⟨v1, hv1'⟩ : ∃ x, 64 * v = x := ⟨_, rfl⟩
      obtain ⟨v2, hv2'⟩ : ∃ x, v1 + di = x := ⟨_, rfl⟩
      obtain ⟨v3, hv3'⟩ : ∃ x, v2 - 128 = x := ⟨_, rfl⟩
      rw [hv1'] at hmul hadd hsb2 hgo
      rw [hv2'] at hadd hsb2 hgo
      rw [hv3'] at hsb2 hgo
      cbv
      simp only [hbn]
      refine ob_ hN ⟨⟨by simp, by simp; omega⟩, trivial⟩ ?_
      simp only [hbd]
      cbv
      simp only [hWd]
      cbv
      refine cond_ hN ?_ ?_ <;> intro h7 <;> rw [clt hN] at h7
      · rw [if_pos (.inl (of_decide_eq_true h7))] at hgo
        rw [← hgo] at hK
        cbv
        exact hf _ _ (fin_ [] rfl rfl (hK 0 0 rfl))
      have h7 := of_decide_eq_false h7
      cbv
      refine cond_ hN ?_ ?_ <;> intro h8 <;> rw [cge hN] at h8
      · rw [if_pos (.inr (of_decide_eq_true h8))] at hgo
        rw [← hgo] at hK
        cbv
        exact hf _ _ (fin_ [] rfl rfl (hK 0 0 rfl))
      have h8 := of_decide_eq_false h8
      rw [if_neg (fun h => h.elim h7 h8)] at hgo
      cbv
      simp only [hmul, hadd, hsb2, hinx]
      refine hnx _ (Leads.nxt (i + 1, v3) [] ⟨by omega, h6, by rw [show i + 1 - 1 = j + 1 by omega]; exact hgo, by simp only; omega, ?_⟩ (by simp only; omega) ⟨⟨rfl, rfl, rfl, rfl, trivial⟩, rfl, Nat.le_of_ble_eq_true rfl⟩)
      rcases (show i = 1 ∨ i = 2 ∨ i = 3 by omega) with rfl | rfl | rfl <;> simp at hvb ⊢ <;> omega
    · have h6 := of_decide_eq_false h6
      obtain rfl : i = 3 := by omega
      simp only [Nat.sub_self, contGo] at hgo
      rw [← hgo] at hK
      simp only at hK
      clear hgo hvb
      cbv
      refine op_ hN (call_ (rmay_spec v) hG [] rfl rfl rfl rfl rfl ?_)
      intro bm hbm
      rw [← hbm] at hK
      cases bm with
      | false =>
        rw [if_pos (by rfl)] at hK
        cbv
        refine cond_T hN rfl ?_
        cbv
        exact hf _ _ (fin_ [] rfl rfl (hK 0 0 rfl))
      | true =>
        cbv
        refine cond_F hN rfl ?_
        cbv
        refine op_ hN (call_ (rlong_spec v) hG [] rfl rfl rfl rfl rfl ?_)
        intro nl hnl
        rw [← hnl] at hK
        cbv
        refine cond_ hN ?_ ?_ <;> intro h9 <;> rw [cne hN] at h9
        · have h9 : nl ≠ 3 := by simpa using h9
          rw [if_pos (by simpa using h9)] at hK
          cbv
          exact hf _ _ (fin_ [] rfl rfl (hK 0 0 rfl))
        · have h9 : nl = 3 := by simpa using h9
          rw [if_neg (by simp [h9])] at hK
          cbv
          exact hf _ _ (fin_ [] rfl rfl (hK v 3 rfl))
  by_cases r4 : c < 248
  · have hn : leadN c = 4 := by unfold leadN; (repeat rw [if_neg (by omega)]); rw [if_pos (by omega)]
    have hv : leadV c = c - 240 := by unfold leadV; (repeat rw [if_neg (by omega)]); rw [if_pos (by omega)]
    rw [if_neg (by omega), hn, hv] at hK
    have hsub : bi .sub .i64 c 240 = c - 240 := isub hN (by omega) (by omega)
    have hv1 : 0 ≤ c - 240 ∧ c - 240 ≤ 31 := by omega
    obtain ⟨v0, hv0⟩ : ∃ v : Int, c - 240 = v := ⟨_, rfl⟩
    rw [hv0] at hsub hK hv1
    have hlN : bc .lss (Int.ofNat sz) 4 = decide (sz < 4) := by
      rw [clt hN]
      by_cases h : sz < 4
      · have h2 : (sz : Int) < 4 := by omega
        rw [decide_eq_true h]; exact decide_eq_true h2
      · have h2 : ¬ (sz : Int) < 4 := by omega
        rw [decide_eq_false h]; exact decide_eq_false h2
    repeat' (first
      | (refine cond_T hN ?_ ?_; (focus (rw [cge hN]; apply decide_eq_true; omega)); cbv)
      | (refine cond_F hN ?_ ?_; (focus (rw [cge hN]; apply decide_eq_false; omega)); cbv)
      | (refine cond_T hN ?_ ?_; (focus (rw [clt hN]; apply decide_eq_true; omega)); cbv)
      | (refine cond_F hN ?_ ?_; (focus (rw [clt hN]; apply decide_eq_false; omega)); cbv))
    refine cond_F hN (by rw [ceq hN]; rfl) ?_
    cbv
    simp only [hbn, hsub]
    refine cond_ hN ?_ ?_ <;> intro h5 <;> rw [hlN] at h5
    · have h5 := of_decide_eq_true h5
      rw [if_pos (.inr (by omega))] at hK
      cbv
      exact hf _ _ (fin_ [] rfl rfl (hK 0 0 rfl))
    have h5 := of_decide_eq_false h5
    rw [if_neg (fun h => h.elim (by decide) (by omega))] at hK
    cbv
    refine loopN_ hN (loop_ hN ty_ok mixed (ι := Nat × Int) (fun y => ⟨[(0, .str s), (5, .int .i64 4), (6, .int .i64 y.2), (7, .int .i64 (Int.ofNat y.1))], [], 0⟩)
      (fun y => 1 ≤ y.1 ∧ y.1 ≤ 4 ∧ contGo (4 - y.1) (r.drop (y.1 - 1)) y.2 = contGo (4 - 1) r v0 ∧ 0 ≤ y.2 ∧ y.2 ≤ ([31, 2047, 131071, 8388607] : List Int).getD (y.1 - 1) 0) (fun y => 4 - y.1) ?_ ?_)
    · exact Leads.idx (1, v0) [] ⟨Nat.le_refl _, (show (1 : Nat) ≤ 4 by decide), rfl, hv1.1, hv1.2⟩ ⟨⟨rfl, rfl, rfl, rfl, trivial⟩, rfl, Nat.le_of_ble_eq_true rfl⟩
    rintro ⟨i, v⟩ ⟨hi1, hi2, hgo, hva, hvb⟩ Nnext hnx _
    simp only at hi1 hi2 hgo hva hvb
    have hvb2 : v ≤ 8388607 := by
      rcases (show i = 1 ∨ i = 2 ∨ i = 3 ∨ i = 4 by omega) with rfl | rfl | rfl | rfl <;> simp at hvb <;> omega
    have hlI : bc .lss (Int.ofNat i) 4 = decide (i < 4) := by
      rw [clt hN]
      by_cases h : i < 4
      · have h2 : (i : Int) < 4 := by omega
        rw [decide_eq_true h]; exact decide_eq_true h2
      · have h2 : ¬ (i : Int) < 4 := by omega
        rw [decide_eq_false h]; exact decide_eq_false h2
    cbv
    refine cond_ hN ?_ ?_ <;> intro h6 <;> rw [hlI] at h6
    · have h6 := of_decide_eq_true h6
      obtain ⟨j, hj⟩ : ∃ j, i = j + 1 := ⟨i - 1, by omega⟩
      obtain ⟨d, hd⟩ : ∃ d, r[j]? = some d := ⟨r[j]'(by omega), List.getElem?_eq_getElem (by omega)⟩
      have hbd : bb s (Int.ofNat i) = ((d.toNat : Nat) : Int) := hbyte i d (by rw [hj, List.getElem?_cons_succ]; exact hd)
      have hdr : r.drop j = d :: r.drop (j + 1) := by
        obtain ⟨hlt, e⟩ := List.getElem?_eq_some_iff.1 hd
        rw [List.drop_eq_getElem_cons hlt, e]
      rw [show i - 1 = j by omega, hdr, show 4 - i = (4 - (i + 1)) + 1 by omega] at hgo
      simp only [contGo] at hgo
      obtain ⟨di, hdi⟩ : ∃ c : Int, ((d.toNat : Nat) : Int) = c := ⟨_, rfl⟩
      have hdlt : d.toNat < 256 := d.toNat_lt
      have hdi0 : 0 ≤ di ∧ di < 256 := by omega
      have hWd : W .i64 di = di := by rw [hN.W]; exact wrap_id (by omega) (by omega)
      rw [hdi] at hbd hgo
      have hmul : bi .mul .i64 64 v = 64 * v := by rw [bi_ hN]; exact wrap_id (by omega) (by omega)
      have hadd : bi .add .i64 (64 * v) di = 64 * v + di := iadd hN (by omega) (by omega)
      have hsb2 : bi .sub .i64 (64 * v + di) 128 = 64 * v + di - 128 := isub hN (by omega) (by omega)
      have hinx : bi .add .i64 (Int.ofNat i) 1 = Int.ofNat (i + 1) := inext hN (by omega)
      obtain ⟨v1, hv1'⟩ : ∃ x, 64 * v = x := ⟨_, rfl⟩
      obtain ⟨v2, hv2'⟩ : ∃ x, v1 + di = x := ⟨_, rfl⟩
      obtain ⟨v3, hv3'⟩ : ∃ x, v2 - 128 = x := ⟨_, rfl⟩
      rw [hv1'] at hmul hadd hsb2 hgo
      rw [hv2'] at hadd hsb2 hgo
      rw [hv3'] at hsb2 hgo
      cbv
      simp only [hbn]
      refine ob_ hN ⟨⟨by simp, by simp; omega⟩, trivial⟩ ?_
      simp only [hbd]
      cbv
      simp only [hWd]
      cbv
      refine cond_ hN ?_ ?_ <;> intro h7 <;> rw [clt hN] at h7
      · rw [if_pos (.inl (of_decide_eq_true h7))] at hgo
        rw [← hgo] at hK
        cbv
        exact hf _ _ (fin_ [] rfl rfl (hK 0 0 rfl))
      have h7 := of_decide_eq_false h7
      cbv
      refine cond_ hN ?_ ?_ <;> intro h8 <;> rw [cge hN] at h8
      · rw [if_pos (.inr (of_decide_eq_true h8))] at hgo
        rw [← hgo] at hK
        cbv
        exact hf _ _ (fin_ [] rfl rfl (hK 0 0 rfl))
      have h8 := of_decide_eq_false h8
      rw [if_neg (fun h => h.elim h7 h8)] at hgo
      cbv
      simp only [hmul, hadd, hsb2, hinx]
      refine hnx _ (Leads.nxt (i + 1, v3) [] ⟨by omega, h6, by rw [show i + 1 - 1 = j + 1 by omega]; exact hgo, by simp only; omega, ?_⟩ (by simp only; omega) ⟨⟨rfl, rfl, rfl, rfl, trivial⟩, rfl, Nat.le_of_ble_eq_true rfl⟩)
      rcases (show i = 1 ∨ i = 2 ∨ i = 3 by omega) with rfl | rfl | rfl <;> simp at hvb ⊢ <;> omega
    · have h6 := of_decide_eq_false h6
      obtain rfl : i = 4 := by omega
      simp only [Nat.sub_self, contGo] at hgo
      rw [← hgo] at hK
      simp only at hK
      clear hgo hvb
      cbv
      refine op_ hN (call_ (rmay_spec v) hG [] rfl rfl rfl rfl rfl ?_)
      intro bm hbm
      rw [← hbm] at hK
      cases bm with
      | false =>
        rw [if_pos (by rfl)] at hK
        cbv
        refine cond_T hN rfl ?_
        cbv
        exact hf _ _ (fin_ [] rfl rfl (hK 0 0 rfl))
      | true =>
        cbv
        refine cond_F hN rfl ?_
        cbv
        refine op_ hN (call_ (rlong_spec v) hG [] rfl rfl rfl rfl rfl ?_)
        intro nl hnl
        rw [← hnl] at hK
        cbv
        refine cond_ hN ?_ ?_ <;> intro h9 <;> rw [cne hN] at h9
        · have h9 : nl ≠ 4 := by simpa using h9
          rw [if_pos (by simpa using h9)] at hK
          cbv
          exact hf _ _ (fin_ [] rfl rfl (hK 0 0 rfl))
        · have h9 : nl = 4 := by simpa using h9
          rw [if_neg (by simp [h9])] at hK
          cbv
          exact hf _ _ (fin_ [] rfl rfl (hK v 4 rfl))
  have hn : leadN c = 0 := by unfold leadN; (repeat rw [if_neg (by omega)])
  rw [if_neg (by omega), hn, if_pos (.inl rfl)] at hK
  repeat' (first
    | (refine cond_T hN ?_ ?_; (focus (rw [cge hN]; apply decide_eq_true; omega)); cbv)
    | (refine cond_F hN ?_ ?_; (focus (rw [cge hN]; apply decide_eq_false; omega)); cbv)
    | (refine cond_T hN ?_ ?_; (focus (rw [clt hN]; apply decide_eq_true; omega)); cbv)
    | (refine cond_F hN ?_ ?_; (focus (rw [clt hN]; apply decide_eq_false; omega)); cbv))
  refine cond_T hN (by rw [ceq hN]; rfl) ?_
  cbv
  exact hf _ _ (fin_ [] rfl rfl (hK 0 0 rfl))
theorem one_le : ∀ l : List UInt8, (oneR l).2 ≤ l.length
  | [] => Nat.le_refl _
  | b :: r => by
    simp only [oneR]
    split
    · simp
    · split
      · simp
      · rename_i h
        split
        · simp
        · split
          · simp
          · simp only [List.length_cons]; omega
theorem runes_spec_r (s : ByteArray) (fuel : Nat) (hs : s.size ≤ 1000000) (h : runesR fuel s.data.toList = true) (hfu : s.size ≤ fuel) : Triple (BB Ip GOk) 128 0 0 [.str s] [] (fun K => ∀ v, K (.ret (.tuple [.raw v, .bool true])) []) := by
  refine triple_of BB_ok (tb := ty) rfl (n0 := 0) (fun _ : Unit => _) pl128 Tryz.call128 Tryz.func128 rfl (by kernel_rfl) (Nat.le_of_ble_eq_true rfl) (by decide) rfl pre_none ?_
  rintro G hG K hK W bi bc bs bk bu bb bo bg bl bp bn be Ncond Nob Nop Nloop Nscope hN Nfin hf _ _
  cbv
  refine loopN_ hN (loop_ hN ty_ok mixed (ι := Nat × ByteArray × Bool × Nat × Nat × Nat × List Int) (fun y => ⟨[(0, .str y.2.1), (4, .vec y.2.2.1 0 1 y.2.2.2.1 y.2.2.2.2.1 y.2.2.2.2.2.1)], [.arr y.2.2.1 true 0 3 encI y.2.2.2.2.2.2], 1⟩)
    (fun y => runesR y.1 y.2.1.data.toList = true ∧ y.2.1.size ≤ y.1 ∧ y.2.1.size ≤ s.size ∧ (y.2.2.1 = false → y.2.2.2.2.2.1 = 0) ∧ y.2.2.2.1 + y.2.2.2.2.2.1 ≤ y.2.2.2.2.2.2.length ∧ y.2.2.2.2.1 ≤ y.2.2.2.2.2.1 ∧ y.2.2.2.2.1 + y.2.1.size ≤ s.size) (fun y => y.2.1.size) ?_ ?_)
  · refine leads_noArr true 0 1 3 encI [] rfl ?_
    refine leads_eset 4 .nilslice (.vec false 0 1 0 0 0) rfl (fun _ => rfl) ?_
    exact Leads.idx (fuel, s, false, 0, 0, 0, []) [0] ⟨h, hfu, Nat.le_refl _, fun _ => rfl, Nat.le_refl _, Nat.le_refl _, by simp⟩ ⟨⟨rfl, rfl, trivial⟩, rfl, Nat.le_of_ble_eq_true rfl⟩
  rintro ⟨fu, t, p, lo, len, cap, xs⟩ ⟨hr, hf1, hsz, h1, h2, h3, h4⟩ Nnext hn _
  simp only at hr hf1 hsz h1 h2 h3 h4
  have hbn : bn t = Int.ofNat t.size := by rw [bn_ hN]; rfl
  obtain ⟨sz, hsz2⟩ : ∃ x, t.size = x := ⟨_, rfl⟩
  rw [hsz2] at hbn
  have hgt : bc .gtr (Int.ofNat sz) 0 = decide (0 < sz) := by rw [cgt hN]; simp
  cbv
  simp only [hbn]
  refine cond_ hN ?_ ?_ <;> intro h5 <;> rw [hgt] at h5
  · have h5 := of_decide_eq_true h5
    have hne : ¬ t.data.toList.isEmpty = true := by
      intro e
      have : t.data.toList.length = t.size := by simp
      rw [List.isEmpty_iff.1 e] at this; simp at this; omega
    obtain ⟨fu, rfl⟩ : ∃ f, fu = f + 1 := ⟨fu - 1, by omega⟩
    rw [runesR, if_neg hne] at hr
    cbv
    refine op_ hN (call_ (one_spec t (by omega)) hG [] rfl rfl rfl rfl rfl ?_)
    intro v n hvn
    have hn2 : (oneR t.data.toList).2 = n := by rw [← hvn]
    rw [hn2] at hr
    have hn0 : ¬ n = 0 := fun e => by rw [if_pos e] at hr; cases hr
    rw [if_neg hn0] at hr
    have hnle : n ≤ sz := by
      have := one_le t.data.toList
      rw [hn2] at this
      have h6 : t.data.toList.length = t.size := by simp
      omega
    have hceq : bc .eql (Int.ofNat n) 0 = false := by
      rw [ceq hN]
      have h2 : ¬ ((n : Int) = 0) := by omega
      simp [hn0]
    obtain ⟨t2, ht2⟩ : ∃ x, bu t (Int.ofNat n) (Int.ofNat sz) = x := ⟨_, rfl⟩
    have ht3 : t2.data.toList = t.data.toList.drop n := by
      rw [← ht2, bu_ hN]
      unfold subs
      simp only [← hsz2, ByteArray.data_extract, Array.toList_extract, List.extract_eq_take_drop, Int.ofNat_eq_natCast, Int.toNat_natCast]
      exact List.take_of_length_le (by rw [List.length_drop, Array.length_toList]; exact Nat.le_refl _)
    have ht4 : t2.size = sz - n := by
      have h6 : t2.data.toList.length = t2.size := by simp
      have h7 : t.data.toList.length = t.size := by simp
      rw [← h6, ht3, List.length_drop, h7, hsz2]
    cbv
    refine cond_F hN hceq ?_
    cbv
    refine op_ hN (append_vec (new := [v]) (z := 0) ty_ok rfl rfl rfl rfl (fun k => by simp) rfl rfl wideI rfl rfl (src_cells wideI rfl (fun _ _ _ _ => rfl) rfl) h1 h2 h3 (by simp; omega) (by decide) ?_)
    intro p' lo' m' cap' xs' hm' e1 e2 e3 e4
    cbv
    simp only [hbn]
    refine ob_ hN ⟨⟨by simp, by simp; omega, by simp⟩, trivial⟩ ?_
    simp only [ht2]
    cbv
    exact hn _ (Leads.nxt (fu, t2, p', lo', m', cap', xs') [2] ⟨by rw [ht3]; exact hr, by simp only; omega, by simp only; omega, e1, e2, e3, by simp at hm'; simp only; omega⟩ (by simp only; omega) ⟨⟨rfl, rfl, trivial⟩, rfl, Nat.le_of_ble_eq_true rfl⟩)
  · have h5 := of_decide_eq_false h5
    cbv
    exact hf _ _ (fin_as (.tuple [.vec p 0 1 lo len cap, .bool true]) (fun _ => rfl) (fin_forget (fun x => .ret (.tuple [x, .bool true])) _ (fun ρ e h => by cases e <;> exact h) fun u => fin_ [] rfl rfl (hK u)))
end Hx
/- ref01.Valid, ref05.May, Right, At, own: the walks. -/
namespace Hx
open Go Sx Go.Proofs
set_option maxRecDepth 100000
set_option maxHeartbeats 4000000
set_option linter.unusedVariables false
set_option linter.unusedSimpArgs false
variable {GOk : Gl → Prop}
theorem valid_r (s : ByteArray) (hs : s.size ≤ 1000000) (h : runesR s.size s.data.toList = true) : Triple (BB Ip GOk) 108 0 0 [.str s] [] (fun K => K (.ret (.bool true)) []) := by
  refine triple_of BB_ok (tb := ty) rfl (n0 := 0) (fun _ : Unit => _) pl108 Tryz.call108 Tryz.func108 rfl (by kernel_rfl) (Nat.le_of_ble_eq_true rfl) (by decide) rfl pre_none ?_
  rintro G hG K hK W bi bc bs bk bu bb bo bg bl bp bn be Ncond Nob Nop Nloop Nscope hN Nfin hf _ _
  cbv
  refine op_ hN (call_ (runes_spec_r s s.size hs h (Nat.le_refl _)) hG [] rfl rfl rfl rfl rfl ?_)
  intro v
  cbv
  exact hf _ _ (fin_ [] rfl rfl hK)
theorem may_r (s : ByteArray) (h : runesR s.size s.data.toList = true) (h48 : s.size ≤ 48) : Triple (BB Ip GOk) 82 0 0 [.str s] [] (fun K => K (.ret (.bool true)) []) := by
  refine triple_of BB_ok (tb := ty) rfl (n0 := 0) (fun _ : Unit => _) pl82 Tryz.call82 Tryz.func82 rfl (by kernel_rfl) (Nat.le_of_ble_eq_true rfl) (by decide) rfl pre_none ?_
  rintro G hG K hK W bi bc bs bk bu bb bo bg bl bp bn be Ncond Nob Nop Nloop Nscope hN Nfin hf _ _
  have hbn : bn s = Int.ofNat s.size := by rw [bn_ hN]; rfl
  obtain ⟨sz, hsz⟩ : ∃ x, s.size = x := ⟨_, rfl⟩
  rw [hsz] at hbn
  have hle : bc .leq (Int.ofNat sz) 48 = true := by
    rw [cle hN]
    have h2 : (sz : Int) ≤ 48 := by omega
    exact decide_eq_true h2
  cbv
  refine op_ hN (call_ (valid_r s (by omega) h) hG [] rfl rfl rfl rfl rfl ?_)
  cbv
  refine cond_T hN rfl ?_
  cbv
  simp only [hbn, hle]
  exact hf _ _ (fin_ [] rfl rfl hK)
/-- the kinds of a table's events -/
def k49 (k : Int) : Prop := k = 4 ∨ k = 5 ∨ k = 6 ∨ k = 7 ∨ k = 8 ∨ k = 9
theorem refRight_facts {x : Ev} (hk : k49 x.kind) (h : refRight x = true) : x.val = ⟨#[]⟩ ∧ runesR x.text.size x.text.data.toList = true ∧ x.text.size ≤ 48 ∧ (x.kind ≠ 4 → x.kind ≠ 8 → x.text = ⟨#[]⟩) := by
  unfold refRight at h
  by_cases h48 : x.kind = 4 ∨ x.kind = 8
  · rw [if_pos h48] at h
    simp only [Bool.and_eq_true, decide_eq_true_eq] at h
    exact ⟨h.1, h.2.1, h.2.2, fun h1 h2 => absurd h48 (by omega)⟩
  · rw [if_neg h48] at h
    obtain ⟨k, t, v⟩ := x
    have : t = ⟨#[]⟩ ∧ v = ⟨#[]⟩ := by
      simp only at h48 hk
      unfold rightM at h
      rcases hk with rfl | rfl | rfl | rfl | rfl | rfl <;> first | exact absurd rfl (fun e => h48 (.inl e)) | exact absurd rfl (fun e => h48 (.inr e)) | simpa using h
    obtain ⟨rfl, rfl⟩ := this
    exact ⟨rfl, rfl, (show (⟨#[]⟩ : ByteArray).size ≤ 48 by decide), fun _ _ => rfl⟩
theorem right_r (x : Ev) (hk : k49 x.kind) (h : refRight x = true) : Triple (BB Ip GOk) 58 0 0 [.agg [.int .i64 x.kind, .str x.text, .str x.val]] [] (fun K => K (.ret (.bool true)) []) := by
  obtain ⟨h1, h2, h3, h4⟩ := refRight_facts hk h
  obtain ⟨k, t, v⟩ := x
  simp only at h1 h2 h3 h4 hk
  subst h1
  refine triple_of BB_ok (tb := ty) rfl (n0 := 0) (fun _ : Unit => _) pl58 Tryz.call58 Tryz.func58 rfl (by kernel_rfl) (Nat.le_of_ble_eq_true rfl) (by decide) rfl pre_none ?_
  rintro G hG K hK W bi bc bs bk bu bb bo bg bl bp bn be Ncond Nob Nop Nloop Nscope hN Nfin hf _ _
  have hne : bs .neq ⟨#[]⟩ ⟨#[]⟩ = false := by rw [sne_eq hN]; simp
  cbv
  refine op_ hN (call_ (may_r t h2 h3) hG [] rfl rfl rfl rfl rfl ?_)
  cbv
  refine op_ hN (call_ (may_r ⟨#[]⟩ rfl (by decide)) hG [] rfl rfl rfl rfl rfl ?_)
  cbv
  rcases hk with rfl | rfl | rfl | rfl | rfl | rfl
  all_goals
    repeat' (first
      | (refine cond_T hN ?_ ?_; (focus (rw [ceq hN]; rfl)); cbv)
      | (refine cond_F hN ?_ ?_; (focus (rw [ceq hN]; rfl)); cbv)
      | (refine cond_F hN hne ?_; cbv))
  all_goals first
    | exact hf _ _ (fin_ [] rfl rfl hK)
    | (obtain rfl := h4 (by decide) (by decide)
       have heq : bs .eql ⟨#[]⟩ ⟨#[]⟩ = true := by rw [seq_eq hN]; simp
       simp only [heq]
       exact hf _ _ (fin_ [] rfl rfl hK))
/-- places as a slice holds them, the innermost last -/
def stkI (st : List Nat) : List Int := st.reverse.map Int.ofNat
theorem stkI_cons (i : Nat) (st : List Nat) : stkI (i :: st) = stkI st ++ [Int.ofNat i] := by simp [stkI]
theorem stkI_len (st : List Nat) : (stkI st).length = st.length := by simp [stkI]
theorem stkI_take (st : List Nat) (n : Nat) (h : st.length = n + 1) : (stkI st).take n = stkI st.tail := by
  cases st with
  | nil => simp at h
  | cons a r =>
    rw [stkI_cons, List.tail_cons]
    have : (stkI r).length = n := by rw [stkI_len]; simpa using h
    rw [List.take_append_of_le_length (by omega), List.take_of_length_le (by omega)]
theorem stkI_last (a : Nat) (r : List Nat) : (stkI (a :: r))[r.length]? = some (Int.ofNat a) := by
  rw [stkI_cons, List.getElem?_append_right (by rw [stkI_len]; exact Nat.le_refl _), stkI_len, Nat.sub_self]; rfl
theorem at_spec_r (p wr : Bool) (lo len cap : Nat) (xs l : List Ev) (hv : VecOk p lo len cap xs l) (hlen : len ≤ 1000000) :
    Triple (BB Ip GOk) 33 1 1 [.vec p 0 3 lo len cap] [.arr p wr 0 56 encE xs]
      (fun K => ∀ a d, ((opnGo 0 [] l = [] ∧ a = -1 ∧ d = 0) ∨ ∃ q ps, opnGo 0 [] l = q :: ps ∧ a = Int.ofNat q ∧ d = Int.ofNat (ps.length + 1)) → K (.ret (.tuple [.int .i64 a, .int .i64 d])) [.arr p wr 0 56 encE xs]) := by
  refine triple_of BB_ok (tb := ty) rfl (n0 := 1) (fun _ : Unit => _) pl33 Tryz.call33 Tryz.func33 rfl (by kernel_rfl) (Nat.le_of_ble_eq_true rfl) (by decide) rfl pre_none ?_
  rintro G hG K hK W bi bc bs bk bu bb bo bg bl bp bn be Ncond Nob Nop Nloop Nscope hN Nfin hf _ _
  have hvl := hv.length
  have hroom := hv.room
  have hfits := hv.fits
  cbv
  refine loopN_ hN (loop_ hN ty_ok mixed (ι := Nat × List Nat × Bool × Nat × Nat × Nat × List Int) (fun y => ⟨[(0, .vec p 0 3 lo len cap), (4, .vec y.2.2.1 1 1 y.2.2.2.1 y.2.2.2.2.1 y.2.2.2.2.2.1), (5, .int .i64 (Int.ofNat y.1))], [.arr p wr 0 56 encE xs, .arr y.2.2.1 true 1 3 encI y.2.2.2.2.2.2], 2⟩)
    (fun y => y.1 ≤ len ∧ opnGo y.1 y.2.1 (l.drop y.1) = opnGo 0 [] l ∧ y.2.1.length ≤ y.1 ∧ VecOk y.2.2.1 y.2.2.2.1 y.2.2.2.2.1 y.2.2.2.2.2.1 y.2.2.2.2.2.2 (stkI y.2.1)) (fun y => len - y.1) ?_ ?_)
  · refine leads_noArr true 1 2 3 encI [] rfl ?_
    refine leads_eset 4 .nilslice (.vec false 1 1 0 0 0) rfl (fun _ => rfl) ?_
    exact Leads.idx (0, [], false, 0, 0, 0, []) [1] ⟨Nat.zero_le _, rfl, Nat.le_refl _, ⟨fun _ => rfl, Nat.le_refl _, Nat.le_refl _, rfl⟩⟩ ⟨⟨rfl, rfl, rfl, trivial⟩, rfl, Nat.le_of_ble_eq_true rfl⟩
  rintro ⟨i, st, q, lo2, len2, cap2, ys⟩ ⟨hi, hgo, hst, hw⟩ Nnext hn _
  simp only at hi hgo hst hw
  have hwl := hw.length
  rw [stkI_len] at hwl
  have hwf := hw.fits
  have hwr := hw.room
  cbv
  refine cond_ hN ?_ ?_ <;> intro h <;> rw [clt hN] at h
  · skip
    simp only [decide_eq_true_eq, decide_eq_false_iff_not, Int.ofNat_eq_natCast, gt_iff_lt, ge_iff_le, Bool.not_eq_true', Bool.not_eq_false', Int.not_lt, Int.not_le] at h
    have hilt : i < len := by have : (i : Int) < (len : Int) := h; omega
    have hpt : p = true := by
      cases p with
      | true => rfl
      | false => have := hv.pr rfl; omega
    have hil : i < l.length := by omega
    have hxi : xs[lo + i]? = some (l[i]'hil) := by
      have h5 : ((xs.drop lo).take len)[i]? = some (l[i]'hil) := by rw [hv.eq]; exact List.getElem?_eq_getElem hil
      rw [List.getElem?_take, if_pos hilt, List.getElem?_drop] at h5
      exact h5
    have hdrop : l.drop i = (l[i]'hil) :: l.drop (i + 1) := List.drop_eq_getElem_cons hil
    generalize (l[i]'hil) = x at hxi hdrop
    rw [hdrop] at hgo
    obtain ⟨kind, text, val⟩ := x
    simp only [opnGo] at hgo
    have hidx : bp lo (Int.ofNat i) = lo + i := by rw [bp_ hN]; simp
    have hinx : bi .add .i64 (Int.ofNat i) 1 = Int.ofNat (i + 1) := inext hN (by omega)
    cbv
    refine ob_ hN ⟨⟨by simp, by simpa using hilt⟩, hpt, trivial⟩ ?_
    cbv
    refine op_ hN (load_arr ty_ok rfl hpt rfl wideE (Nat.le_of_ble_eq_true rfl) (by rw [hidx]; omega) ?_)
    intro z hz
    rw [hidx, hxi] at hz
    obtain rfl := Option.some.inj hz
    clear hz
    by_cases ho : kind = 5 ∨ kind = 7 ∨ kind = 10
    · have hko : k57a kind = true := by rcases ho with rfl | rfl | rfl <;> rfl
      rw [if_pos hko] at hgo
      rcases ho with rfl | rfl | rfl
      all_goals
        cbv
        repeat' (first
          | (refine cond_T hN ?_ ?_; (focus (rw [ceq hN]; rfl)); cbv)
          | (refine cond_F hN ?_ ?_; (focus (rw [ceq hN]; rfl)); cbv))
        refine op_ hN (append_vec (new := [(Int.ofNat i)]) (z := 0) ty_ok rfl rfl rfl rfl (fun k => by simp) rfl rfl wideI rfl rfl (src_cells wideI rfl (fun _ _ _ _ => rfl) rfl) hw.pr hw.room hw.fits (by simp; omega) (by decide) ?_)
        intro p' lo' m' cap' xs' hm' e1 e2 e3 e4
        cbv
        simp only [hinx]
        exact hn _ (Leads.nxt (i + 1, i :: st, p', lo', m', cap', xs') [3] ⟨hilt, hgo, by simp only [List.length_cons]; omega, ⟨e1, e2, e3, by rw [e4, hw.eq, stkI_cons]⟩⟩ (by simp only; omega) ⟨⟨rfl, rfl, rfl, trivial⟩, rfl, Nat.le_of_ble_eq_true rfl⟩)
    have hko : k57a kind = false := by
      simp only [not_or] at ho
      simp [k57a, ho.1, ho.2.1, ho.2.2]
    rw [hko] at hgo
    simp only [Bool.false_eq_true, if_false] at hgo
    by_cases hc : kind = 6 ∨ kind = 9 ∨ kind = 12
    · have hkc : isC kind = true := by rcases hc with rfl | rfl | rfl <;> rfl
      rw [if_pos hkc] at hgo
      rcases hc with rfl | rfl | rfl
      all_goals
        cbv
        repeat' (first
          | (refine cond_T hN ?_ ?_; (focus (rw [ceq hN]; rfl)); cbv)
          | (refine cond_F hN ?_ ?_; (focus (rw [ceq hN]; rfl)); cbv))
        refine cond_ hN ?_ ?_ <;> intro h6 <;> rw [cgt hN] at h6
        · have h6 : 0 < len2 := by
            have := of_decide_eq_true h6
            have : (0 : Int) < (len2 : Int) := this
            omega
          obtain ⟨d, hd⟩ : ∃ d, len2 = d + 1 := ⟨len2 - 1, by omega⟩
          have hsub : bi .sub .i64 (Int.ofNat len2) 1 = Int.ofNat d := by rw [isub hN (by simp; omega) (by simp; omega)]; simp; omega
          have hb1 : bo lo2 0 cap2 = lo2 := by rw [bo_ hN]; simp [sloff]
          have hb2 : bg (Int.ofNat d) 0 = d := by rw [bg_ hN]; simp
          have hb3 : bl cap2 0 = cap2 := by rw [bl_ hN]; simp
          have hw2 : VecOk q lo2 d cap2 ys (stkI st.tail) := ⟨hw.pr, hw.room, by omega, by rw [← stkI_take st d (by omega), ← hw.eq, List.take_take, Nat.min_eq_left (by omega)]⟩
          cbv
          simp only [hsub]
          refine ob_ hN ⟨⟨by simp, by simp, by simp; omega⟩, trivial⟩ ?_
          simp only [hb1, hb2, hb3]
          cbv
          simp only [hinx]
          exact hn _ (Leads.nxt (i + 1, st.tail, q, lo2, d, cap2, ys) [1] ⟨hilt, hgo, by simp only [List.length_tail]; omega, hw2⟩ (by simp only; omega) ⟨⟨rfl, rfl, rfl, trivial⟩, rfl, Nat.le_of_ble_eq_true rfl⟩)
        · have h6 : len2 = 0 := by
            have := of_decide_eq_false h6
            have : ¬ (0 : Int) < (len2 : Int) := this
            omega
          have hst0 : st = [] := List.eq_nil_of_length_eq_zero (by omega)
          subst hst0
          cbv
          simp only [hinx]
          exact hn _ (Leads.nxt (i + 1, [], q, lo2, len2, cap2, ys) [1] ⟨hilt, hgo, by simp, hw⟩ (by simp only; omega) ⟨⟨rfl, rfl, rfl, trivial⟩, rfl, Nat.le_of_ble_eq_true rfl⟩)
    have hkc : isC kind = false := by
      simp only [not_or] at hc
      simp [isC, hc.1, hc.2.1, hc.2.2]
    rw [hkc] at hgo
    simp only [Bool.false_eq_true, if_false] at hgo
    simp only [not_or] at ho hc
    cbv
    repeat' (first
      | (refine cond_F hN ?_ ?_; (focus (rw [ceq hN]; apply decide_eq_false; first | exact ho.1 | exact ho.2.1 | exact ho.2.2 | exact hc.1 | exact hc.2.1 | exact hc.2.2)); cbv))
    simp only [hinx]
    exact hn _ (Leads.nxt (i + 1, st, q, lo2, len2, cap2, ys) [1] ⟨hilt, hgo, by simp only; omega, hw⟩ (by simp only; omega) ⟨⟨rfl, rfl, rfl, trivial⟩, rfl, Nat.le_of_ble_eq_true rfl⟩)
  · skip
    simp only [decide_eq_true_eq, decide_eq_false_iff_not, Int.ofNat_eq_natCast, gt_iff_lt, ge_iff_le, Bool.not_eq_true', Bool.not_eq_false', Int.not_lt, Int.not_le] at h
    have hie : i = len := by have : (len : Int) ≤ (i : Int) := h; omega
    rw [List.drop_eq_nil_of_le (by omega)] at hgo
    simp only [opnGo] at hgo
    rw [← hgo] at hK
    have hceq : bc .eql (Int.ofNat len2) 0 = decide (len2 = 0) := by
      rw [ceq hN]
      by_cases h : len2 = 0
      · rw [h]; rfl
      · have h2 : ¬ ((len2 : Int) = 0) := by omega
        simp [h]
    cbv
    refine cond_ hN ?_ ?_ <;> intro h6 <;> rw [hceq] at h6
    · have h6 : len2 = 0 := of_decide_eq_true h6
      have hst0 : st = [] := List.eq_nil_of_length_eq_zero (by omega)
      cbv
      exact hf _ _ (fin_ [] rfl rfl (hK (-1) 0 (.inl ⟨hst0, rfl, rfl⟩)))
    · have h6 : ¬ len2 = 0 := of_decide_eq_false h6
      obtain ⟨a, r, rfl⟩ : ∃ a r, st = a :: r := by
        cases st with
        | nil => simp at hwl; omega
        | cons a r => exact ⟨a, r, rfl⟩
      simp only [List.length_cons] at hwl hst
      have hqt : q = true := by
        cases q with
        | true => rfl
        | false => have := hw.pr rfl; omega
      have hlast := stkI_last a r
      have hyl : ys[lo2 + r.length]? = some (Int.ofNat a) := by
        rw [← hw.eq, List.getElem?_take, if_pos (by omega), List.getElem?_drop] at hlast
        exact hlast
      have hKf := hK (Int.ofNat a) (Int.ofNat len2) (.inr ⟨a, r, rfl, rfl, by rw [hwl]⟩)
      obtain ⟨d, hd⟩ : ∃ d, r.length = d := ⟨_, rfl⟩
      rw [hd] at hyl hwl
      have hsub : bi .sub .i64 (Int.ofNat len2) 1 = Int.ofNat d := by rw [isub hN (by simp; omega) (by simp; omega)]; simp; omega
      have hidx : bp lo2 (Int.ofNat d) = lo2 + d := by rw [bp_ hN]; simp
      cbv
      simp only [hsub]
      refine ob_ hN ⟨⟨by simp, by simp; omega⟩, hqt, trivial⟩ ?_
      cbv
      refine op_ hN (load_arr ty_ok rfl hqt rfl wideI (Nat.le_of_ble_eq_true rfl) (by rw [hidx]; omega) ?_)
      intro z hz
      rw [hidx, hyl] at hz
      obtain rfl := Option.some.inj hz
      clear hz
      cbv
      exact hf _ _ (fin_ [] rfl rfl hKf)
end Hx
