/-
  Part of a proof.
-/
import Derived.Test.YtafhlipcgbopnaaGreatDoorW17
import Derived.Test.YtafhlipcgbopnaaGreatDoorW12
set_option linter.unusedVariables false
set_option linter.unusedSimpArgs false
/- outline.machine.isField. -/
namespace Hx
open Go Sx Go.Proofs
set_option maxRecDepth 100000
set_option maxHeartbeats 4000000
set_option linter.unusedVariables false
set_option linter.unusedSimpArgs false
variable {GOk : Gl → Prop}
variable {right : Ev → Bool} {numRead : ByteArray → ByteArray × Int}
def PostQ (t : ByteArray) (a g : Nat) (K : Out → List (Chunk Pd) → Prop) : Res Bool × OS → Prop
  | (.ok b, s) => K (.ret (.bool b)) (rc s t a g)
  | (.err e at_, s) => K (.pan (flt e at_)) (oc s)
  | (.ovf, _) => False
theorem quotGo_ge (s : ByteArray) : ∀ (n : Nat) (q : Qt) (k : Nat), s.size - k ≤ n → k ≤ (quotGo s q k).1 := by
  intro n
  induction n with
  | zero => intro q k hn; rw [quotGo, dif_neg (by omega)]; exact Nat.le_refl _
  | succ n ih =>
    intro q k hn
    rw [quotGo]
    split
    · rename_i hlt
      generalize qtStep q ((s.data[k]'hlt).toNat : Nat) = y
      obtain ⟨⟨over, e⟩, q'⟩ := y
      simp only
      split
      · exact Nat.le_refl _
      · split
        · exact Nat.le_succ _
        · exact Nat.le_of_succ_le (ih q' (k + 1) (by omega))
    · exact Nat.le_refl _
theorem quotR_ge (s : ByteArray) (a : Nat) : a ≤ (quotR s a).1 := by
  unfold quotR; split
  · exact Nat.le_of_succ_le (quotGo_ge s _ qt0 (a + 1) (Nat.le_refl _))
  · exact Nat.le_refl _
theorem isField_spec (s : OS) (t : ByteArray) (a g : Nat) (ht : t.size < 1000000) (ha : a < t.size) : Triple (BB Ip GOk) 165 3 3 [.ptr 0 0, .ptr 2 0] (rc s t a g)
    (fun K => PostQ t a g K (isFieldM t a s)) := by
  refine triple_of BB_ok (tb := ty) rfl (n0 := 3) (fun _ : Unit => _) pl165 Tryz.call165 Tryz.func165 rfl (by kernel_rfl) (Nat.le_of_ble_eq_true rfl) (by decide) rfl pre_none ?_
  rintro G hG K hK W bi bc bs bk bu bb bo bg bl bp bn be Ncond Nob Nop Nloop Nscope hN Nfin hf _ _
  have hbb : bb t (Int.ofNat a) = bt t (Int.ofNat a) := by rw [bb_ hN]
  have hob2 : obsP [.inb (Int.ofNat a) (bn t)] := ⟨⟨by simp, by rw [len_eq hN]; simp; omega⟩, trivial⟩
  cbv
  repeat' (first | exact True.intro | with_reducible refine dup ?_ | refine And.intro ?_ ?_ | (refine ob_ hN hob2 ?_; cbv))
  all_goals
    generalize hbe : be (bb t (Int.ofNat a)) = e
    rw [be_ hN, bb_ hN] at hbe
    refine op_ hN (call_ (local_spec e) hG [] rfl rfl rfl rfl rfl ?_)
    intro l hl
    cbv
    refine op_ hN (op_cput 12 [.str t, .int .i64 (Int.ofNat a), .raw .nilFunc] rfl (fun _ => rfl) (call_ (is_spec t a .nilFunc 34) hG [12] rfl rfl rfl rfl rfl ?_))
    intro m hm
    cases m with
    | true =>
      have hl0 : l = false := by
        have h34 : bt t (Int.ofNat a) = 34 := by have := hm.symm; simp only [isB, Bool.and_eq_true, decide_eq_true_eq] at this; exact this.2
        rw [hl, ← hbe, h34]; rfl
      subst hl0
      cbv
      refine cond_T hN rfl ?_
      cbv
      refine op_ hN (call_ (quoted_spec t a .nilFunc (by omega)) hG [12] rfl rfl rfl rfl rfl ?_)
      intro k e2 l2 hq
      have h1 : (quotR t a).1 = k := by rw [← hq]
      have h2 : (quotR t a).2.1 = e2 := by rw [← hq]
      have h3 : (quotR t a).2.2 = l2 := by rw [← hq]
      have hkp := quotR_pos t a (by omega)
      have hka : a ≤ k := by rw [← h1]; exact quotR_ge t a
      rw [h1] at hkp
      have hM : isFieldM t a s = (if e2 = 0 then (.ok (isB t (blanks t k) 58), s) else (.err e2 (Int.ofNat k), s)) := by
        rw [isFieldM, if_pos hm.symm]
        simp only [OM.bind, keyM]
        rw [if_pos hm.symm, h1, h2, h3]
        by_cases h : e2 = 0
        · rw [if_pos h, if_pos h]; simp only
          cases isB t (blanks t k) 58 <;> rfl
        · rw [if_neg h, if_neg h]
      refine ⟨fun he key hkey => ?_, fun he => ?_⟩
      · rw [if_pos he] at hM
        cbv
        refine op_ hN (call_ (blanks_spec t k .nilFunc (by omega)) hG [12] rfl rfl rfl rfl rfl ?_)
        intro b2 hb2
        rw [← hb2] at hM
        cbv
        refine op_ hN (call_ (is_spec t b2 .nilFunc 58) hG [12] rfl rfl rfl rfl rfl ?_)
        intro c hc
        rw [← hc] at hM
        rw [hM] at hK
        have hob3 : obsP [.le3 (Int.ofNat a) (Int.ofNat k) (bn t)] := ⟨⟨by simp, by simp; omega, by rw [len_eq hN]; simp; omega⟩, trivial⟩
        cases c with
        | true =>
          cbv
          refine cond_T hN rfl ?_
          cbv
          exact hf _ _ (fin_as (.bool true) (fun _ => rfl) (fin_ [] rfl rfl hK))
        | false =>
          cbv
          refine cond_F hN rfl ?_
          cbv
          repeat' (first | exact True.intro | with_reducible refine dup ?_ | refine And.intro ?_ ?_ | (refine ob_ hN hob3 ?_; cbv))
          all_goals
            refine cond_F hN rfl ?_
            cbv
            exact hf _ _ (fin_as (.bool false) (fun _ => rfl) (fin_ [] rfl rfl hK))
      · rw [if_neg he] at hM
        rw [hM] at hK
        cbv
        exact hf _ _ (fin_ [] rfl rfl hK)
    | false =>
      cbv
      refine cond_F hN rfl ?_
      cbv
      cases l with
      | false =>
        have hM : isFieldM t a s = (.ok false, s) := by
          rw [isFieldM, if_neg (by rw [← hm]; decide), hbe, if_neg (by rw [← hl]; decide)]; rfl
        rw [hM] at hK
        refine cond_F hN rfl ?_
        cbv
        exact hf _ _ (fin_as (.bool false) (fun _ => rfl) (fin_ [] rfl rfl hK))
      | true =>
        refine cond_T hN rfl ?_
        cbv
        refine op_ hN (call_ (Name_spec t a .nilFunc (by omega) (by omega)) hG [12] rfl rfl rfl rfl rfl ?_)
        intro k e2 hke
        have h1 : (nameGo t a true a).1 = k := by rw [← hke]
        have h2 : (nameGo t a true a).2 = e2 := by rw [← hke]
        have hkp := nameGo_le t a true a (by omega)
        rw [h1] at hkp
        obtain ⟨key, hkey⟩ : ∃ x, x = subs t (Int.ofNat a) (Int.ofNat k) := ⟨_, rfl⟩
        have hM : isFieldM t a s = (if e2 = 0 then (if isB t (blanks t k) 58 then (.ok true, s) else if key = wNull ∨ key = wTrue ∨ key = wFalse then (.ok false, s) else (.err 2 (Int.ofNat k), s)) else (.err e2 (Int.ofNat k), s)) := by
          rw [isFieldM, if_neg (by rw [← hm]; decide), hbe, if_pos hl.symm]
          simp only [OM.bind, keyM]
          rw [if_neg (by rw [← hm]; decide), h1, h2, ← hkey]
          by_cases h : e2 = 0
          · rw [if_pos h, if_pos h]; simp only
            cases isB t (blanks t k) 58 with
            | true => rfl
            | false =>
              simp only [Bool.false_eq_true, if_false]
              by_cases hw : key = wNull ∨ key = wTrue ∨ key = wFalse
              · rw [if_pos hw, if_pos hw]; rfl
              · rw [if_neg hw, if_neg hw]; rfl
          · rw [if_neg h, if_neg h]
        refine ⟨fun he => ?_, fun he => ?_⟩
        · rw [if_pos he] at hM
          rw [← hkey]
          cbv
          refine op_ hN (call_ (blanks_spec t k .nilFunc (by omega)) hG [12] rfl rfl rfl rfl rfl ?_)
          intro b2 hb2
          rw [← hb2] at hM
          cbv
          refine op_ hN (call_ (is_spec t b2 .nilFunc 58) hG [12] rfl rfl rfl rfl rfl ?_)
          intro c hc
          rw [← hc] at hM
          have hob3 : obsP [.le3 (Int.ofNat a) (Int.ofNat k) (bn t)] := ⟨⟨by simp, by simp; omega, by rw [len_eq hN]; simp; omega⟩, trivial⟩
          have hbu : bu t (Int.ofNat a) (Int.ofNat k) = key := by rw [bu_ hN, hkey]
          cases c with
          | true =>
            rw [if_pos rfl] at hM
            rw [hM] at hK
            cbv
            refine cond_T hN rfl ?_
            cbv
            exact hf _ _ (fin_as (.bool true) (fun _ => rfl) (fin_ [] rfl rfl hK))
          | false =>
            rw [if_neg (by decide)] at hM
            cbv
            refine cond_F hN rfl ?_
            cbv
            repeat' (first | exact True.intro | with_reducible refine dup ?_ | refine And.intro ?_ ?_ | (refine ob_ hN hob3 ?_; cbv))
            all_goals
              generalize bu t (Int.ofNat a) (Int.ofNat k) = y at hbu ⊢
              subst hbu
              have hn : bs .neq y { data := { toList := [110, 117, 108, 108] } } = !decide (y = wNull) := sne_eq hN y wNull
              have htr : bs .neq y { data := { toList := [116, 114, 117, 101] } } = !decide (y = wTrue) := sne_eq hN y wTrue
              have hfa : bs .neq y { data := { toList := [102, 97, 108, 115, 101] } } = !decide (y = wFalse) := sne_eq hN y wFalse
              refine cond_T hN rfl ?_
              cbv
              refine cond_ hN (fun h3 => ?_) (fun h3 => ?_)
              · rw [hn] at h3
                cbv
                refine cond_ hN (fun h4 => ?_) (fun h4 => ?_)
                · rw [htr] at h4
                  cbv
                  refine cond_ hN (fun h5 => ?_) (fun h5 => ?_)
                  · rw [hfa] at h5
                    rw [if_neg (by simp at h3 h4 h5; simp [h3, h4, h5])] at hM
                    rw [hM] at hK
                    cbv
                    refine op_ hN (call_ (fail_spec 2 (Int.ofNat k)) hG [] rfl rfl rfl rfl rfl ?_)
                    cbv
                    exact hf _ _ (fin_ [] rfl rfl hK)
                  · rw [hfa] at h5
                    rw [if_pos (by simp at h5; exact .inr (.inr h5))] at hM
                    rw [hM] at hK
                    cbv
                    exact hf _ _ (fin_as (.bool false) (fun _ => rfl) (fin_ [] rfl rfl hK))
                · rw [htr] at h4
                  rw [if_pos (by simp at h4; exact .inr (.inl h4))] at hM
                  rw [hM] at hK
                  cbv
                  exact hf _ _ (fin_as (.bool false) (fun _ => rfl) (fin_ [] rfl rfl hK))
              · rw [hn] at h3
                rw [if_pos (by simp at h3; exact .inl h3)] at hM
                rw [hM] at hK
                cbv
                exact hf _ _ (fin_as (.bool false) (fun _ => rfl) (fin_ [] rfl rfl hK))
        · rw [if_neg he] at hM
          rw [hM] at hK
          cbv
          exact hf _ _ (fin_ [] rfl rfl hK)
end Hx
/- outline.machine.first. -/
namespace Hx
open Go Sx Go.Proofs
set_option maxRecDepth 100000
set_option maxHeartbeats 4000000
set_option linter.unusedVariables false
set_option linter.unusedSimpArgs false
variable {GOk : Gl → Prop}
variable {right : Ev → Bool} {numRead : ByteArray → ByteArray × Int}
theorem first_spec (hb : Below GOk right) (hfl : FlowOk GOk right numRead) (s : OS) (t : ByteArray) (a g : Nat) (ht : t.size < 1000000) (ha : a < t.size) : Triple (BB Ip GOk) 158 3 3 [.ptr 0 0, .ptr 2 0] (rc s t a g)
    (fun K => PostP t g K (firstM right numRead t a s)) := by
  refine triple_of BB_ok (tb := ty) rfl (n0 := 3) (fun _ : Unit => _) pl158 Tryz.call158 Tryz.func158 rfl (by kernel_rfl) (Nat.le_of_ble_eq_true rfl) (by decide) rfl pre_none ?_
  rintro G hG K hK W bi bc bs bk bu bb bo bg bl bp bn be Ncond Nob Nop Nloop Nscope hN Nfin hf _ _
  cbv
  refine op_ hN (call_ (isItem_spec t) hG [] rfl rfl rfl rfl rfl ?_)
  intro m hm
  cases m with
  | true =>
    have hM : firstM right numRead t a s = OM.bind (opensM right t a 0) (fun _ => itemM right numRead t a) s := by rw [firstM, if_pos hm.symm]
    rw [hM] at hK
    cbv
    refine cond_T hN rfl ?_
    cbv
    refine op_ hN (call_ (opens_spec hb s t a 0 g ht ha) hG [0, 1, 2] rfl rfl rfl rfl rfl ?_)
    simp only [OM.bind] at hK
    generalize opensM right t a 0 s = y at hK ⊢
    obtain ⟨r, s1⟩ := y
    cases r with
    | err e a => cbv; exact hf _ _ (fin_ [] rfl rfl hK)
    | ovf => exact hK.elim
    | ok u =>
      simp only at hK
      cbv
      refine op_ hN (call_ (item_spec hb hfl s1 t a g ht) hG [0, 1, 2] rfl rfl rfl rfl rfl ?_)
      generalize itemM right numRead t a s1 = y at hK ⊢
      obtain ⟨r, s'⟩ := y
      cases r with
      | ok a => cbv; exact hf _ _ (fin_ [] rfl rfl hK)
      | err e a => cbv; exact hf _ _ (fin_ [] rfl rfl hK)
      | ovf => exact hK.elim
  | false =>
    cbv
    refine cond_F hN rfl ?_
    cbv
    refine op_ hN (call_ (isField_spec s t a g ht ha) hG [0, 1, 2] rfl rfl rfl rfl rfl ?_)
    have hM : firstM right numRead t a s = OM.bind (isFieldM t a) (fun b => if b then OM.bind (opensM right t a 0) fun _ => fieldM right numRead t a else partM right numRead t a true) s := by rw [firstM, if_neg (by rw [← hm]; decide)]
    rw [hM] at hK
    simp only [OM.bind] at hK
    generalize isFieldM t a s = y at hK ⊢
    obtain ⟨r, s0⟩ := y
    cases r with
    | err e a => cbv; exact hf _ _ (fin_ [] rfl rfl hK)
    | ovf => exact hK.elim
    | ok b =>
      simp only at hK
      cases b with
      | true =>
        simp only [if_true, OM.bind] at hK
        cbv
        refine cond_T hN rfl ?_
        cbv
        refine op_ hN (call_ (opens_spec hb s0 t a 0 g ht ha) hG [0, 1, 2] rfl rfl rfl rfl rfl ?_)
        generalize opensM right t a 0 s0 = y at hK ⊢
        obtain ⟨r, s1⟩ := y
        cases r with
        | err e a => cbv; exact hf _ _ (fin_ [] rfl rfl hK)
        | ovf => exact hK.elim
        | ok u =>
          simp only at hK
          cbv
          refine op_ hN (call_ (field_spec hb hfl s1 t a g ht (by omega)) hG [0, 1, 2] rfl rfl rfl rfl rfl ?_)
          generalize fieldM right numRead t a s1 = y at hK ⊢
          obtain ⟨r, s'⟩ := y
          cases r with
          | ok a => cbv; exact hf _ _ (fin_ [] rfl rfl hK)
          | err e a => cbv; exact hf _ _ (fin_ [] rfl rfl hK)
          | ovf => exact hK.elim
      | false =>
        simp only [Bool.false_eq_true, if_false] at hK
        cbv
        refine cond_F hN rfl ?_
        cbv
        refine op_ hN (op_vals (vals' := [.fn (.func 166) [] [], .ptr 0 0, .ptr 2 0, .bool true]) (fun _ _ _ _ => rfl) (call_ (part_spec hb hfl s0 t a g true ht (by omega)) hG [0, 1, 2] rfl rfl rfl rfl rfl ?_))
        generalize partM right numRead t a true s0 = y at hK ⊢
        obtain ⟨r, s'⟩ := y
        cases r with
        | ok a => cbv; exact hf _ _ (fin_ [] rfl rfl hK)
        | err e a => cbv; exact hf _ _ (fin_ [] rfl rfl hK)
        | ovf => exact hK.elim
end Hx
