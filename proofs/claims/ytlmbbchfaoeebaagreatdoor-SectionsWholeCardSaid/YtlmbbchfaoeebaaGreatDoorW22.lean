/-
  Part of a proof.
-/
import Derived.Test.YtlmbbchfaoeebaaGreatDoorW21
set_option linter.unusedVariables false
set_option linter.unusedSimpArgs false
/- The plain laws of what is read on a row. -/
namespace Hx
open Go Sx Go.Proofs
set_option maxRecDepth 100000
set_option maxHeartbeats 4000000
set_option linter.unusedVariables false
set_option linter.unusedSimpArgs false
variable {GOk : Gl → Prop}
theorem quotGo_ge (s : ByteArray) : ∀ (n : Nat) (q : Qt) (k : Nat), s.size - k ≤ n → k ≤ (quotGo s q k).1 := by
  intro n
  induction n with
  | zero => intro q k hn; rw [quotGo, dif_neg (by omega)]; exact Nat.le_refl _
  | succ n ih =>
    intro q k hn
    rw [quotGo]
    split
    · rename_i hlt
      generalize qtStep q ((s.data[k]'hlt).toNat : Nat) = y
      obtain ⟨⟨over, e⟩, q'⟩ := y
      simp only
      split
      · exact Nat.le_refl _
      · split
        · exact Nat.le_succ _
        · exact Nat.le_of_succ_le (ih q' (k + 1) (by omega))
    · exact Nat.le_refl _
theorem quotR_ge (s : ByteArray) (a : Nat) : a ≤ (quotR s a).1 := by
  unfold quotR; split
  · exact Nat.le_of_succ_le (quotGo_ge s _ qt0 (a + 1) (Nat.le_refl _))
  · exact Nat.le_refl _
/-- what is known of a number's normal form -/
structure NumLaw (numRead : ByteArray → ByteArray × Int) : Prop where
  size : ∀ x, (numRead x).1.size < 1099511627776
  pos : ∀ x, 0 ≤ (numRead x).2
theorem qtAdd_e (q : Qt) (l : List UInt8) : 0 ≤ (qtAdd q l).1 := by
  unfold qtAdd; split <;> simp
theorem qtDigit_e (q : Qt) (b : Int) : 0 ≤ (qtDigit q b).1 := by
  unfold qtDigit; split
  · simp
  · split
    · simp
    · split
      · simp
      · exact qtAdd_e _ _
theorem qtStep_e (q : Qt) (b : Int) : 0 ≤ (qtStep q b).1.2 := by
  unfold qtStep; split
  · simp
  · split
    · exact qtDigit_e q b
    · split
      · split
        · simp
        · split
          · simp
          · exact qtAdd_e _ _
      · split
        · simp
        · split
          · simp
          · split
            · simp
            · exact qtAdd_e _ _
theorem quotGo_e (s : ByteArray) : ∀ (n : Nat) (q : Qt) (k : Nat), s.size - k ≤ n → 0 ≤ (quotGo s q k).2.1 := by
  intro n
  induction n with
  | zero => intro q k hn; rw [quotGo, dif_neg (by omega)]; simp
  | succ n ih =>
    intro q k hn
    rw [quotGo]
    split
    · rename_i hlt
      have hs := qtStep_e q ((s.data[k]'hlt).toNat : Nat)
      generalize qtStep q ((s.data[k]'hlt).toNat : Nat) = y at hs ⊢
      obtain ⟨⟨over, e⟩, q'⟩ := y
      simp only at hs ⊢
      split
      · exact hs
      · split
        · exact Int.le_refl _
        · exact ih q' (k + 1) (by omega)
    · simp
theorem quotR_e (s : ByteArray) (a : Nat) : 0 ≤ (quotR s a).2.1 := by
  unfold quotR; split
  · exact quotGo_e s _ qt0 (a + 1) (Nat.le_refl _)
  · simp
theorem nameGo_e (s : ByteArray) (f : Nat) (p : Bool) (k : Nat) : 0 ≤ (nameGo s f p k).2 := by
  induction k using nameGo.induct s f p with
  | case1 k hc h16 => rw [nameGo, if_pos hc, if_pos h16]; simp
  | case2 k hc h16 ih => rw [nameGo, if_pos hc, if_neg h16]; exact ih
  | case3 hc => rw [nameGo, if_neg hc, if_pos rfl]; simp
  | case4 k hc hk => rw [nameGo, if_neg hc, if_neg hk]; exact Int.le_refl _
theorem nameGo_gt (s : ByteArray) (f : Nat) (p : Bool) (k : Nat) (hk : f ≤ k) (h : (nameGo s f p k).2 = 0) : f < (nameGo s f p k).1 := by
  induction k using nameGo.induct s f p with
  | case1 k hc h16 => rw [nameGo, if_pos hc, if_pos h16] at h; exact absurd h (by simp)
  | case2 k hc h16 ih =>
    rw [nameGo, if_pos hc, if_neg h16] at h ⊢
    exact ih (by omega) h
  | case3 hc => rw [nameGo, if_neg hc, if_pos rfl] at h; exact absurd h (by simp)
  | case4 k hc hk2 => rw [nameGo, if_neg hc, if_neg hk2]; simp only; omega
theorem blanks_ge (s : ByteArray) (a : Nat) : a ≤ blanks s a := by
  induction a using blanks.induct s with
  | case1 a h ih => rw [blanks, if_pos h]; omega
  | case2 a h => rw [blanks, if_neg h]; exact Nat.le_refl _
theorem wordGo_ge (s : ByteArray) : ∀ (l : List UInt8) (k : Nat), k ≤ (wordGo s l k).1
  | [], k => Nat.le_refl _
  | b :: r, k => by
    simp only [wordGo]; split
    · exact Nat.le_of_succ_le (wordGo_ge s r (k + 1))
    · exact Nat.le_refl _
theorem numLoop_ge (s : ByteArray) (f : Nat) : ∀ (n k : Nat), s.size - k ≤ n → k ≤ (numLoop s f k).1 ∧ 0 ≤ (numLoop s f k).2 := by
  intro n
  induction n with
  | zero => intro k hn; rw [numLoop, if_neg (by omega)]; exact ⟨Nat.le_refl _, Int.le_refl _⟩
  | succ n ih =>
    intro k hn
    rw [numLoop]
    split
    · split
      · split
        · exact ⟨Nat.le_refl _, by simp⟩
        · have := ih (k + 1) (by omega); exact ⟨by omega, this.2⟩
      · exact ⟨Nat.le_refl _, Int.le_refl _⟩
    · exact ⟨Nat.le_refl _, Int.le_refl _⟩
section
variable {right : Ev → Bool} {numRead : ByteArray → ByteArray × Int}
theorem numberR_law (hn : NumLaw numRead) (t : ByteArray) (a : Nat) : a ≤ (numberR numRead t a).1 ∧ 0 ≤ (numberR numRead t a).2.1 ∧ (numberR numRead t a).2.2.size < 1099511627776 := by
  have h := numLoop_ge t a _ a (Nat.le_refl _)
  unfold numberR; split
  · exact ⟨h.1, h.2, Nat.le_of_ble_eq_true rfl⟩
  · split
    · exact ⟨h.1, hn.pos _, hn.size _⟩
    · exact ⟨h.1, by simp, Nat.le_of_ble_eq_true rfl⟩
theorem bytesOf_size (l : List UInt8) : (bytesOf l).size = l.length := by simp [bytesOf, ByteArray.size]
theorem okE_of {k : Int} {s : ByteArray} (h : s.size < 1099511627776) (h1 : k ≠ 10) (h2 : k ≠ 11) : okE ⟨k, s, ⟨#[]⟩⟩ := ⟨h, Nat.le_of_ble_eq_true rfl, h1, h2⟩
theorem scalarR_law (hn : NumLaw numRead) {t : ByteArray} {a : Nat} {nl : Bool} {k : Nat} {e : Int} {x : Ev} (ha : a ≤ t.size) (h : scalarR numRead t a nl = some (k, e, x)) : k ≤ t.size ∧ a ≤ k ∧ 0 ≤ e ∧ okE x := by
  refine ⟨scalarR_le ha h, ?_⟩
  unfold scalarR at h
  split at h
  · split at h
    · simp only [Option.some.injEq, Prod.mk.injEq] at h
      obtain ⟨rfl, rfl, rfl⟩ := h
      exact ⟨quotR_ge t a, quotR_e t a, okE_of (by rw [bytesOf_size]; have := quotR_le t a; omega) (by simp) (by simp)⟩
    · split at h
      · simp only [Option.some.injEq, Prod.mk.injEq] at h
        obtain ⟨rfl, rfl, rfl⟩ := h
        have := numberR_law hn t a
        exact ⟨this.1, this.2.1, okE_of this.2.2 (by simp) (by simp)⟩
      · split at h
        · simp only [Option.some.injEq, Prod.mk.injEq] at h
          obtain ⟨rfl, rfl, rfl⟩ := h
          exact ⟨wordGo_ge t _ a, by split <;> simp, okE0 1 (by simp) (by simp)⟩
        · split at h
          · simp only [Option.some.injEq, Prod.mk.injEq] at h
            obtain ⟨rfl, rfl, rfl⟩ := h
            exact ⟨wordGo_ge t _ a, by split <;> simp, okE_of (Nat.le_of_ble_eq_true rfl) (by simp) (by simp)⟩
          · split at h
            · simp only [Option.some.injEq, Prod.mk.injEq] at h
              obtain ⟨rfl, rfl, rfl⟩ := h
              exact ⟨wordGo_ge t _ a, by split <;> simp, okE_of (Nat.le_of_ble_eq_true rfl) (by simp) (by simp)⟩
            · exact nomatch h
  · exact nomatch h
/-- a checker goes through events, which all may be -/
def stepsC (right : Ev → Bool) : Chk → List Ev → Option Chk
  | c, [] => some c
  | c, x :: r => if (chkStep right c x).1 = 0 then stepsC right (chkStep right c x).2 r else none
theorem stepsC_snoc {x : Ev} : ∀ {l : List Ev} {c c1 : Chk}, stepsC right c l = some c1 → (chkStep right c1 x).1 = 0 → stepsC right c (l ++ [x]) = some (chkStep right c1 x).2
  | [], c, c1, h, hx => by
    simp only [stepsC, Option.some.injEq] at h; subst h
    simp only [List.nil_append, stepsC]; rw [if_pos hx]
  | y :: r, c, c1, h, hx => by
    simp only [stepsC, List.cons_append] at h ⊢
    split at h
    · rename_i hy; rw [if_pos hy]; exact stepsC_snoc h hx
    · exact nomatch h
/-- what is told: right events, not too many -/
def QOk (l : List Ev) : Prop := (∀ x ∈ l, okE x) ∧ l.length ≤ 4294967296
theorem quotR_gt (s : ByteArray) (a : Nat) (h : (quotR s a).2.1 = 0) : a < (quotR s a).1 := by
  unfold quotR at h ⊢; split
  · exact quotGo_ge s _ qt0 (a + 1) (Nat.le_refl _)
  · rename_i hi; rw [if_neg hi] at h; exact absurd h (by simp)
theorem pred_pos {k S : Nat} (h : 0 < k) (hk : k ≤ S) : 0 ≤ Int.ofNat k - 1 ∧ Int.ofNat k - 1 ≤ (S : Int) := by
  simp only [Int.ofNat_eq_natCast]; omega
theorem nat_pos {k S : Nat} (hk : k ≤ S) : 0 ≤ Int.ofNat k ∧ Int.ofNat k ≤ (S : Int) := by
  simp only [Int.ofNat_eq_natCast]; omega
theorem scalarR_pos {t : ByteArray} {a : Nat} {nl : Bool} {k : Nat} {x : Ev} (hs : scalarR numRead t a nl = some (k, 0, x)) (hge : a ≤ k) : 0 < k := by
  have hlt : a < t.size := by
    refine Nat.lt_of_not_le fun h => ?_
    unfold scalarR at hs; rw [if_neg (by omega)] at hs; exact nomatch hs
  refine Nat.lt_of_not_le fun h => ?_
  have hk0 : k = 0 := by omega
  have ha0 : a = 0 := by omega
  subst hk0 ha0
  unfold scalarR at hs
  rw [if_pos hlt] at hs
  split at hs
  · simp only [Option.some.injEq, Prod.mk.injEq] at hs
    have := quotR_gt t 0 hs.2.1; omega
  · split at hs
    · simp only [Option.some.injEq, Prod.mk.injEq] at hs
      obtain ⟨h1, h2, -⟩ := hs
      have h3 : (numLoop t 0 0).1 = 0 := by
        revert h1; unfold numberR; split
        · exact id
        · split <;> exact id
      revert h2; unfold numberR; split
      · rename_i hx; intro h2; exact absurd h2 hx
      · rw [h3]
        have hsub : subs t (Int.ofNat 0) (Int.ofNat 0) = ⟨#[]⟩ := by
          simp only [subs]
          have hz : (t.extract (Int.ofNat 0).toNat (Int.ofNat 0).toNat).size = 0 := by simp [ByteArray.size_extract]
          generalize t.extract (Int.ofNat 0).toNat (Int.ofNat 0).toNat = u at hz ⊢
          cases u; simp only [ByteArray.mk.injEq]; exact Array.eq_empty_of_size_eq_zero hz
        rw [hsub, if_neg (by decide)]
        intro h2; exact absurd h2 (by simp)
    · have hw : ∀ w : ByteArray, w.data.toList ≠ [] → (wordGo t w.data.toList 0).1 = 0 → (wordGo t w.data.toList 0).2 = true → False := by
        intro w hw h1 h2
        cases hl : w.data.toList with
        | nil => exact hw hl
        | cons b r =>
          rw [hl] at h1 h2
          simp only [wordGo] at h1 h2
          split at h1
          · have := wordGo_ge t r (0 + 1); omega
          · rename_i hc; rw [if_neg hc] at h2; exact absurd h2 (by simp)
      split at hs
      · simp only [Option.some.injEq, Prod.mk.injEq] at hs
        refine hw wNull (by simp [wNull]) hs.1 ?_
        have := hs.2.1; split at this
        · assumption
        · exact absurd this (by simp)
      · split at hs
        · simp only [Option.some.injEq, Prod.mk.injEq] at hs
          refine hw wTrue (by simp [wTrue]) hs.1 ?_
          have := hs.2.1; split at this
          · assumption
          · exact absurd this (by simp)
        · split at hs
          · simp only [Option.some.injEq, Prod.mk.injEq] at hs
            refine hw wFalse (by simp [wFalse]) hs.1 ?_
            have := hs.2.1; split at this
            · assumption
            · exact absurd this (by simp)
          · exact nomatch hs
 end
end Hx
/- The plain laws of sections' machine: says, leaves, enters, goes. -/
namespace Hx
open Go Sx Go.Proofs
set_option maxRecDepth 100000
set_option maxHeartbeats 4000000
set_option linter.unusedVariables false
set_option linter.unusedSimpArgs false
variable {GOk : Gl → Prop}
section
variable {right : Ev → Bool} {numRead : ByteArray → ByteArray × Int}
def dOf (k : Int) : Nat := if k57a k then 1 else 0
def eOf (k : Int) : Nat := if k1234 k || k57a k || k == 8 || k == 11 then 0 else 1
theorem chkStep_dep (c : Chk) (x : Ev) (h : (chkStep right c x).1 = 0) : (chkStep right c x).2.opens.length + eOf x.kind = c.opens.length + dOf x.kind ∧ (c.over = true → (chkStep right c x).2.over = true) ∧
    (k57a x.kind = true → c.opens = [] → (chkStep right c x).2.over = true) := by
  have hs : (chkStands c x).opens.length = c.opens.length := by unfold chkStands; split <;> simp [*]
  have ho : c.over = true → (chkStands c x).over = true := by unfold chkStands; split <;> simp
  have ho2 : c.opens = [] → (chkStands c x).over = true := by intro h; unfold chkStands; rw [h]
  revert h
  unfold chkStep
  split
  · intro h; simp at h
  · split
    · rename_i h1
      have h2 : k57a x.kind = false := by
        simp only [k1234, Bool.or_eq_true, beq_iff_eq] at h1
        rcases h1 with h | h | h | h <;> rw [h] <;> rfl
      split
      · intro h; simp at h
      · intro _
        refine ⟨?_, ho, fun h => by rw [h2] at h; cases h⟩
        rw [show eOf x.kind = 0 by unfold eOf; rw [h1]; rfl, show dOf x.kind = 0 by unfold dOf; rw [h2]; rfl, hs]
    · rename_i h1
      have h1 : k1234 x.kind = false := by simpa using h1
      split
      · rename_i h2
        split
        · intro h; simp at h
        · split
          · intro h; simp at h
          · intro _
            refine ⟨?_, fun h => ho h, fun _ h => ho2 h⟩
            rw [show eOf x.kind = 0 by unfold eOf; rw [h1, h2]; rfl, show dOf x.kind = 1 by unfold dOf; rw [h2]; rfl]
            simp only [chkOpen, List.length_cons, hs]
      · rename_i h2
        have h2 : k57a x.kind = false := by simpa using h2
        have hd : dOf x.kind = 0 := by unfold dOf; rw [h2]; rfl
        split
        · intro h; simp at h
        · rename_i o r hc
          split
          · rename_i h8
            split
            · intro h; simp at h
            · intro _
              refine ⟨?_, id, fun h => by rw [h2] at h; cases h⟩
              rw [hd, show eOf x.kind = 0 by unfold eOf; rw [h1, h2, h8]; rfl, hc]; rfl
          · rename_i h8
            split
            · rename_i h11
              split
              · intro h; simp at h
              · intro _
                refine ⟨?_, id, fun h => by rw [h2] at h; cases h⟩
                rw [hd, show eOf x.kind = 0 by unfold eOf; rw [h1, h2, h11]; simp, hc]; rfl
            · rename_i h11
              split
              · intro h; simp at h
              · intro _
                refine ⟨?_, id, fun h => by rw [h2] at h; cases h⟩
                have h8 : (x.kind == 8) = false := by simpa using h8
                have h11 : (x.kind == 11) = false := by simpa using h11
                rw [hd, show eOf x.kind = 1 by unfold eOf; rw [h1, h2, h8, h11]; rfl, hc]; rfl
def pd : List (ByteArray × Bool) → Nat
  | [] => 0
  | x :: l => (if x.2 then 2 else 1) + pd l
theorem pd_append : ∀ a b : List (ByteArray × Bool), pd (a ++ b) = pd a + pd b
  | [], b => by simp [pd]
  | x :: a, b => by simp only [List.cons_append, pd, pd_append a b]; omega
theorem pd_reverse : ∀ a : List (ByteArray × Bool), pd a.reverse = pd a
  | [] => rfl
  | x :: a => by rw [List.reverse_cons, pd_append, pd_reverse a]; simp only [pd]; omega
theorem pd_cut (l : List (ByteArray × Bool)) (n : Nat) : pd (l.take n) + pd (l.drop n) = pd l := by rw [← pd_append, List.take_append_drop]
theorem pd_len : ∀ l : List (ByteArray × Bool), l.length ≤ pd l
  | [] => Nat.le_refl _
  | x :: l => by have := pd_len l; simp only [List.length_cons, pd]; split <;> omega
abbrev ql (s : OS Sec) : Nat := s.c.queue.length
abbrev dp (s : OS Sec) : Nat := s.m.chk.opens.length
structure Good (right : Ev → Bool) (s : OS Sec) : Prop where
  st : stepsC right chk0 s.c.queue = some s.m.chk
  ok : QOk s.c.queue
  le : dp s ≤ 6
structure Half (right : Ev → Bool) (s : OS Sec) : Prop where
  st : ∃ c, stepsC right chk0 s.c.queue = some c
  ok : QOk s.c.queue
theorem Good.half {s : OS Sec} (h : Good right s) : Half right s := ⟨⟨_, h.st⟩, h.ok⟩
/-- what a line's reading leaves alone -/
def Fr (s s' : OS Sec) : Prop := s'.m.ahead = s.m.ahead ∧ s'.m.line = s.m.line ∧ s'.c.scan = s.c.scan ∧ s'.c.at_ = s.c.at_ ∧ s'.c.closed = s.c.closed ∧ s'.c.over = s.c.over ∧ s'.c.err = s.c.err ∧ s'.c.told = s.c.told
theorem Fr.refl (s : OS Sec) : Fr s s := ⟨rfl, rfl, rfl, rfl, rfl, rfl, rfl, rfl⟩
theorem Fr.trans {a b c : OS Sec} (h : Fr a b) (g : Fr b c) : Fr a c :=
  ⟨g.1.trans h.1, g.2.1.trans h.2.1, g.2.2.1.trans h.2.2.1, g.2.2.2.1.trans h.2.2.2.1, g.2.2.2.2.1.trans h.2.2.2.2.1, g.2.2.2.2.2.1.trans h.2.2.2.2.2.1, g.2.2.2.2.2.2.1.trans h.2.2.2.2.2.2.1, g.2.2.2.2.2.2.2.trans h.2.2.2.2.2.2.2⟩
def RP {α : Type} (right : Ev → Bool) (s : OS Sec) (hi : Nat) (Q : α → OS Sec → Prop) : Res α × OS Sec → Prop
  | (.ok a, s') => Good right s' ∧ Fr s s' ∧ Q a s'
  | (.err e p, s') => Half right s' ∧ Fr s s' ∧ 0 < e ∧ 0 ≤ p ∧ p ≤ (hi : Int)
  | (.ovf, _) => False
theorem RP.bind {α β : Type} {s : OS Sec} {hi : Nat} {Q1 : α → OS Sec → Prop} {Q : β → OS Sec → Prop} {x : SM α} {f : α → SM β} (h : RP right s hi Q1 (x s))
    (hf : ∀ a s1, Good right s1 → Fr s s1 → Q1 a s1 → RP right s1 hi Q (f a s1)) : RP right s hi Q (OM.bind x f s) := by
  unfold OM.bind
  generalize x s = y at h ⊢
  obtain ⟨r, s1⟩ := y
  cases r with
  | ok a =>
    have h2 := hf a s1 h.1 h.2.1 h.2.2
    simp only
    generalize f a s1 = z at h2 ⊢
    obtain ⟨r2, s2⟩ := z
    cases r2 with
    | ok b => exact ⟨h2.1, h.2.1.trans h2.2.1, h2.2.2⟩
    | err e p => exact ⟨h2.1, h.2.1.trans h2.2.1, h2.2.2⟩
    | ovf => exact h2.elim
  | err e p => exact h
  | ovf => exact h.elim
theorem RP.mono {α : Type} {s : OS Sec} {hi : Nat} {Q Q' : α → OS Sec → Prop} {y : Res α × OS Sec} (h : RP right s hi Q y) (hq : ∀ a s', Good right s' → Q a s' → Q' a s') : RP right s hi Q' y := by
  obtain ⟨r, s1⟩ := y
  cases r with
  | ok a => exact ⟨h.1, h.2.1, hq _ _ h.1 h.2.2⟩
  | err e p => exact h
  | ovf => exact h.elim
theorem RP.cast {α : Type} {s s0 : OS Sec} {hi : Nat} {Q : α → OS Sec → Prop} {y : Res α × OS Sec} (h : RP right s hi Q y) (hs : Fr s0 s) : RP right s0 hi Q y := by
  obtain ⟨r, s1⟩ := y
  cases r with
  | ok a => exact ⟨h.1, hs.trans h.2.1, h.2.2⟩
  | err e p => exact ⟨h.1, hs.trans h.2.1, h.2.2⟩
  | ovf => exact h.elim
theorem RP.ret {α : Type} {s : OS Sec} {hi : Nat} {Q : α → OS Sec → Prop} {a : α} (hg : Good right s) (h : Q a s) : RP right s hi Q (OM.ret a s) := ⟨hg, Fr.refl s, h⟩
theorem RP.fail {α : Type} {s : OS Sec} {hi : Nat} {Q : α → OS Sec → Prop} {e p : Int} (hg : Good right s) (he : 0 < e) (h0 : 0 ≤ p) (h1 : p ≤ (hi : Int)) : RP right s hi Q ((.err e p, s) : Res α × OS Sec) := ⟨hg.half, Fr.refl s, he, h0, h1⟩
theorem chkStep_e (c : Chk) (x : Ev) : 0 ≤ (chkStep right c x).1 := by
  have hnm : ∀ o : Opn, 0 ≤ (opnNamed o x).1 := by intro o; unfold opnNamed; split <;> (try split) <;> simp
  unfold chkStep
  split
  · simp
  · split
    · split <;> simp
    · split
      · split
        · simp
        · split <;> simp
      · split
        · simp
        · split
          · split
            · simp
            · exact hnm _
          · split
            · split
              · simp
              · exact hnm _
            · split <;> simp
/-- the machine's own things are the same -/
def Sm (s s' : OS Sec) : Prop := s'.m.place = s.m.place ∧ s'.m.header = s.m.header ∧ s'.m.begun = s.m.begun ∧ (s.m.chk.over = true → s'.m.chk.over = true)
theorem Sm.refl (s : OS Sec) : Sm s s := ⟨rfl, rfl, rfl, id⟩
theorem Sm.trans {a b c : OS Sec} (h : Sm a b) (g : Sm b c) : Sm a c := ⟨g.1.trans h.1, g.2.1.trans h.2.1, g.2.2.1.trans h.2.2.1, fun x => g.2.2.2 (h.2.2.2 x)⟩
theorem says_law {s : OS Sec} {x : Ev} {p : Int} {hi : Nat} (hg : Good right s) (hx : okE x) (hq : ql s < 4294967296) (h0 : 0 ≤ p) (h1 : p ≤ (hi : Int)) :
    RP right s hi (fun _ s' => ql s' = ql s + 1 ∧ dp s' + eOf x.kind = dp s + dOf x.kind ∧ Sm s s' ∧ (k57a x.kind = true → dp s = 0 → s'.m.chk.over = true)) (secSays right x p s) := by
  have hc := chkStep_e (right := right) s.m.chk x
  unfold secSays
  split
  · rename_i h
    exact ⟨⟨⟨_, hg.st⟩, hg.ok⟩, Fr.refl _, by omega, h0, h1⟩
  · rename_i hz
    have hz : (chkStep right s.m.chk x).1 = 0 := by simpa using hz
    split
    · rename_i h; exact absurd h (by simp only [ql] at hq; omega)
    · obtain ⟨d1, d2, d3⟩ := chkStep_dep s.m.chk x hz
      refine ⟨⟨stepsC_snoc hg.st hz, ⟨fun y hy => ?_, ?_⟩, chkStep_le right s.m.chk x hg.le⟩, Fr.refl _, ?_, d1, ⟨rfl, rfl, rfl, d2⟩, fun h1 h2 => d3 h1 (List.eq_nil_of_length_eq_zero h2)⟩
      · simp only [List.mem_append, List.mem_singleton] at hy
        rcases hy with hy | rfl
        · exact hg.ok.1 y hy
        · exact hx
      · simp only [ql] at hq
        simp only [List.length_append, List.length_singleton]; omega
      · simp only [ql, List.length_append, List.length_singleton]
structure Lay (s : OS Sec) : Prop where
  dep : s.m.begun = true → dp s = 1 + pd s.m.place
  dep0 : s.m.begun = false → dp s = 0 ∧ s.m.place = []
  ov : s.m.begun = true → s.m.chk.over = true
  hd : ∀ k ∈ s.m.header, k.size < 1000000
  hl : s.m.header.length ≤ 200
theorem Lay.len {s : OS Sec} (h : Lay s) (hg : Good right s) : s.m.place.length ≤ 5 := by
  have h1 := hg.le
  have h2 := pd_len s.m.place
  cases hb : s.m.begun with
  | true => have := h.dep hb; omega
  | false => rw [(h.dep0 hb).2]; exact Nat.zero_le _
theorem begins_law {s : OS Sec} {p : Int} {hi : Nat} (hl : Lay s) (hg : Good right s) (hq : ql s + 10 ≤ 4294967296) (h0 : 0 ≤ p) (h1 : p ≤ (hi : Int)) :
    RP right s hi (fun _ s' => Lay s' ∧ s'.m.begun = true ∧ s'.m.place = s.m.place ∧ s'.m.header = s.m.header ∧ ql s' ≤ ql s + 1) (secBegins right p s) := by
  unfold secBegins
  split
  · rename_i hb
    exact ⟨hg, Fr.refl _, hl, hb, rfl, rfl, Nat.le_succ _⟩
  · rename_i hb
    have hb : s.m.begun = false := by simpa using hb
    obtain ⟨hd0, hp0⟩ := hl.dep0 hb
    refine RP.cast (s := { s with m := { s.m with begun := true } }) ?_ (Fr.refl _)
    have hg1 : Good right { s with m := { s.m with begun := true } } := ⟨hg.st, hg.ok, hg.le⟩
    refine (says_law hg1 (okE0 7 (by decide) (by decide)) (by simp only [ql] at hq ⊢; omega) h0 h1).mono fun _ s' g' q => ?_
    obtain ⟨q1, q2, q3, q4⟩ := q
    have e7 : eOf (ev0 7).kind = 0 := rfl
    have d7 : dOf (ev0 7).kind = 1 := rfl
    have hpl : s'.m.place = s.m.place := q3.1
    have hhd : s'.m.header = s.m.header := q3.2.1
    have hd0 : dp { s with m := { s.m with begun := true } } = 0 := hd0
    refine ⟨⟨fun _ => ?_, fun h => ?_, fun _ => q4 rfl hd0, by rw [hhd]; exact hl.hd, by rw [hhd]; exact hl.hl⟩, q3.2.2.1, hpl, hhd, ?_⟩
    · rw [hpl, hp0]; simp only [pd]; omega
    · rw [q3.2.2.1] at h; cases h
    · have : ql { s with m := { s.m with begun := true } } = ql s := rfl
      omega
theorem leave_law {s : OS Sec} {x : ByteArray × Bool} {p : Int} {hi : Nat} (hg : Good right s) (hq : ql s + 10 ≤ 4294967296) (h0 : 0 ≤ p) (h1 : p ≤ (hi : Int)) :
    RP right s hi (fun _ s' => ql s' ≤ ql s + 2 ∧ dp s' + (if x.2 then 2 else 1) = dp s ∧ Sm s s') (secLeave right p x s) := by
  have e9 : eOf (ev0 9).kind = 1 := rfl
  have d9 : dOf (ev0 9).kind = 0 := rfl
  have e6 : eOf (ev0 6).kind = 1 := rfl
  have d6 : dOf (ev0 6).kind = 0 := rfl
  unfold secLeave
  refine RP.bind (says_law hg (okE0 9 (by decide) (by decide)) (by omega) h0 h1) fun _ s1 g1 f1 q1 => ?_
  cases hx : x.2 with
  | true =>
    rw [if_pos rfl]
    exact (says_law g1 (okE0 6 (by decide) (by decide)) (by omega) h0 h1).mono fun _ s' g' q => ⟨by omega, by first | omega | (simp; omega), q1.2.2.1.trans q.2.2.1⟩
  | false =>
    rw [if_neg (by decide)]
    exact RP.ret g1 ⟨by omega, by first | omega | (simp; omega), q1.2.2.1⟩
theorem leavesL_law {p : Int} {hi : Nat} (h0 : 0 ≤ p) (h1 : p ≤ (hi : Int)) : ∀ (l : List (ByteArray × Bool)) (s : OS Sec), Good right s → ql s + 2 * l.length + 10 ≤ 4294967296 →
    RP right s hi (fun _ s' => ql s' ≤ ql s + 2 * l.length ∧ dp s' + pd l = dp s ∧ Sm s s') (secLeavesL right p l s)
  | [], s, hg, _ => RP.ret hg ⟨Nat.le_refl _, rfl, Sm.refl _⟩
  | x :: r, s, hg, hq => by
    simp only [secLeavesL]
    simp only [List.length_cons] at hq ⊢
    refine RP.bind (leave_law hg (by omega) h0 h1) fun _ s1 g1 f1 q1 => ?_
    refine (leavesL_law h0 h1 r s1 g1 (by omega)).mono fun _ s' g' q => ⟨by omega, ?_, q1.2.2.trans q.2.2⟩
    have := q1.2.1; have := q.2.1
    simp only [pd]; omega
theorem leaves_law {s : OS Sec} {n : Nat} {p : Int} {hi : Nat} (hl : Lay s) (hb : s.m.begun = true) (hg : Good right s) (hq : ql s + 100 ≤ 4294967296) (h0 : 0 ≤ p) (h1 : p ≤ (hi : Int)) :
    RP right s hi (fun _ s' => Lay s' ∧ s'.m.begun = true ∧ s'.m.place = s.m.place.take n ∧ s'.m.header = s.m.header ∧ ql s' ≤ ql s + 10) (secLeaves right n p s) := by
  have h5 := hl.len hg
  have hlen : (s.m.place.drop n).reverse.length ≤ 5 := by rw [List.length_reverse, List.length_drop]; omega
  unfold secLeaves
  refine RP.bind (leavesL_law h0 h1 _ s hg (by omega)) fun _ s1 g1 f1 q1 => ?_
  obtain ⟨q1, q2, q3⟩ := q1
  rw [pd_reverse] at q2
  refine ⟨⟨g1.st, g1.ok, g1.le⟩, Fr.refl _, ⟨fun _ => ?_, fun h => ?_, fun _ => q3.2.2.2 (hl.ov hb), by simp only; rw [q3.2.1]; exact hl.hd, by simp only; rw [q3.2.1]; exact hl.hl⟩, q3.2.2.1.trans hb, by simp only; rw [q3.1], q3.2.1, by simp only [ql] at q1 ⊢; omega⟩
  · simp only [dp]
    rw [q3.1]
    have := pd_cut s.m.place n
    have := hl.dep hb
    simp only [dp] at *; omega
  · have h : s1.m.begun = false := h
    rw [q3.2.2.1, hb] at h; cases h
theorem enters_law {s : OS Sec} {k : ByteArray} {rows : Bool} {p : Int} {hi : Nat} (hl : Lay s) (hb : s.m.begun = true) (hk : k.size < 1000000) (hg : Good right s) (hq : ql s + 100 ≤ 4294967296) (h0 : 0 ≤ p) (h1 : p ≤ (hi : Int)) :
    RP right s hi (fun _ s' => Lay s' ∧ s'.m.begun = true ∧ s'.m.header = s.m.header ∧ ql s' ≤ ql s + 3) (secEnters right k rows p s) := by
  have h5 := hl.len hg
  have hdep := hl.dep hb
  unfold secEnters
  refine RP.bind (says_law hg (okE8 k (by omega)) (by omega) h0 h1) fun _ s1 g1 f1 q1 => ?_
  have e8 : eOf (⟨8, k, ⟨#[]⟩⟩ : Ev).kind = 0 := rfl
  have d8 : dOf (⟨8, k, ⟨#[]⟩⟩ : Ev).kind = 0 := rfl
  have e5 : eOf (ev0 5).kind = 0 := rfl
  have d5 : dOf (ev0 5).kind = 1 := rfl
  have e7 : eOf (ev0 7).kind = 0 := rfl
  have d7 : dOf (ev0 7).kind = 1 := rfl
  refine RP.bind (Q1 := fun _ s' => ql s' ≤ ql s1 + 1 ∧ dp s' = dp s1 + (if rows then 1 else 0) ∧ Sm s1 s') ?_ fun _ s2 g2 f2 q2 => ?_
  · cases rows with
    | true =>
      rw [if_pos rfl]
      exact (says_law g1 (okE0 5 (by decide) (by decide)) (by omega) h0 h1).mono fun _ s' g' q => ⟨by omega, by first | omega | (simp; omega), q.2.2.1⟩
    | false =>
      rw [if_neg (by decide)]
      exact RP.ret g1 ⟨by omega, by first | rfl | simp, Sm.refl _⟩
  · refine RP.bind (says_law g2 (okE0 7 (by decide) (by decide)) (by omega) h0 h1) fun _ s3 g3 f3 q3 => ?_
    have hsm := (q1.2.2.1.trans q2.2.2).trans q3.2.2.1
    rw [sec_push_ok (by rw [hsm.1]; omega)]
    refine ⟨⟨g3.st, g3.ok, g3.le⟩, Fr.refl _, ⟨fun _ => ?_, fun h => ?_, fun _ => hsm.2.2.2 (hl.ov hb), by simp only; rw [hsm.2.1]; exact hl.hd, by simp only; rw [hsm.2.1]; exact hl.hl⟩, hsm.2.2.1.trans hb, hsm.2.1, ?_⟩
    · have a1 := q1.2.1; have a2 := q2.2.1; have a3 := q3.2.1
      rw [e8, d8] at a1; rw [e7, d7] at a3
      simp only [dp] at *
      rw [hsm.1, pd_append]
      simp only [pd]
      cases rows <;> simp_all <;> omega
    · have h : s3.m.begun = false := h
      rw [hsm.2.2.1, hb] at h; cases h
    · have := q1.1; have := q2.1; have := q3.1
      simp only [ql] at *; omega
theorem entersL_law {rows : Bool} {p : Int} {hi : Nat} (h0 : 0 ≤ p) (h1 : p ≤ (hi : Int)) : ∀ (l : List ByteArray) (s : OS Sec), Lay s → s.m.begun = true → (∀ k ∈ l, k.size < 1000000) → Good right s → ql s + 3 * l.length + 100 ≤ 4294967296 →
    RP right s hi (fun _ s' => Lay s' ∧ s'.m.begun = true ∧ s'.m.header = s.m.header ∧ ql s' ≤ ql s + 3 * l.length) (secEntersL right rows p l s)
  | [], s, hl, hb, _, hg, _ => RP.ret hg ⟨hl, hb, rfl, Nat.le_refl _⟩
  | k :: r, s, hl, hb, hk, hg, hq => by
    simp only [secEntersL]
    simp only [List.length_cons] at hq ⊢
    refine RP.bind (enters_law hl hb (hk k (List.mem_cons_self ..)) hg (by omega) h0 h1) fun _ s1 g1 f1 q1 => ?_
    exact (entersL_law h0 h1 r s1 q1.1 q1.2.1 (fun x hx => hk x (List.mem_cons_of_mem _ hx)) g1 (by omega)).mono fun _ s' g' q => ⟨q.1, q.2.1, q.2.2.1.trans q1.2.2.1, by omega⟩
theorem goes_law {s : OS Sec} {l : List ByteArray} {rows : Bool} {p : Int} {hi : Nat} (hl : Lay s) (hk : ∀ k ∈ l, k.size < 1000000) (hlen : l.length ≤ 200) (hg : Good right s) (hq : ql s + 1000 ≤ 4294967296) (h0 : 0 ≤ p) (h1 : p ≤ (hi : Int)) :
    RP right s hi (fun _ s' => Lay s' ∧ ql s' ≤ ql s + 700) (secGoes right l rows p s) := by
  unfold secGoes
  refine RP.bind (begins_law hl hg (by omega) h0 h1) fun _ s1 g1 f1 q1 => ?_
  obtain ⟨l1, b1, -, -, k1⟩ := q1
  refine RP.bind (Q1 := fun _ s' => Lay s' ∧ ql s' ≤ ql s1 + 610) ?_ fun _ s2 g2 f2 q2 => ?_
  · generalize secCommon s1.m.place l l.length = n
    unfold secGoesT
    split
    · refine RP.bind (leaves_law l1 b1 g1 (by omega) h0 h1) fun _ s2 g2 f2 q2 => ?_
      obtain ⟨l2, b2, -, -, k2⟩ := q2
      have e9 : eOf (ev0 9).kind = 1 := rfl
      have d9 : dOf (ev0 9).kind = 0 := rfl
      have e7 : eOf (ev0 7).kind = 0 := rfl
      have d7 : dOf (ev0 7).kind = 1 := rfl
      refine RP.bind (says_law g2 (okE0 9 (by decide) (by decide)) (by omega) h0 h1) fun _ s3 g3 f3 q3 => ?_
      refine (says_law g3 (okE0 7 (by decide) (by decide)) (by omega) h0 h1).mono fun _ s' g' q => ?_
      have hsm := q3.2.2.1.trans q.2.2.1
      refine ⟨⟨fun _ => ?_, fun h => ?_, fun _ => hsm.2.2.2 (l2.ov b2), by rw [hsm.2.1]; exact l2.hd, by rw [hsm.2.1]; exact l2.hl⟩, by omega⟩
      · rw [hsm.1]; have := l2.dep b2; omega
      · rw [hsm.2.2.1, b2] at h; cases h
    · refine RP.bind (leaves_law l1 b1 g1 (by omega) h0 h1) fun _ s2 g2 f2 q2 => ?_
      obtain ⟨l2, b2, -, -, k2⟩ := q2
      have hd : (l.drop (min n (l.length - 1))).length ≤ 200 := by rw [List.length_drop]; omega
      exact (entersL_law h0 h1 _ s2 l2 b2 (fun x hx => hk x (List.mem_of_mem_drop hx)) g2 (by omega)).mono fun _ s' g' q => ⟨q.1, by omega⟩
  · obtain ⟨l2, k2⟩ := q2
    exact ⟨⟨g2.st, g2.ok, g2.le⟩, Fr.refl _, ⟨l2.dep, l2.dep0, l2.ov, hk, hlen⟩, by simp only [ql] at *; omega⟩
 end
end Hx
/- The plain laws of sections' machine: what a line tells. -/
namespace Hx
open Go Sx Go.Proofs
set_option maxRecDepth 100000
set_option maxHeartbeats 4000000
set_option linter.unusedVariables false
set_option linter.unusedSimpArgs false
variable {GOk : Gl → Prop}
section
variable {right : Ev → Bool} {numRead : ByteArray → ByteArray × Int}
def PR {α : Type} (hi : Nat) (Q : α → Prop) : Res α → Prop
  | .ok a => Q a
  | .err e p => 0 < e ∧ 0 ≤ p ∧ p ≤ (hi : Int)
  | .ovf => False
theorem keyR_e (t : ByteArray) (a : Nat) : 0 ≤ (keyR t a).2.1 := by
  unfold keyR; split
  · exact quotR_e t a
  · exact nameGo_e t a false a
theorem keyR_gt (t : ByteArray) (a : Nat) (h : (keyR t a).2.1 = 0) : a < (keyR t a).1 := by
  by_cases hi : isB t a 34 = true
  · have e : keyR t a = ((quotR t a).1, (quotR t a).2.1, bytesOf (quotR t a).2.2) := by unfold keyR; rw [if_pos hi]
    rw [e] at h ⊢; exact quotR_gt t a h
  · have e : keyR t a = ((nameGo t a false a).1, (nameGo t a false a).2, subs t (Int.ofNat a) (Int.ofNat (nameGo t a false a).1)) := by unfold keyR; rw [if_neg hi]
    rw [e] at h ⊢; exact nameGo_gt t a false a (Nat.le_refl _) h
theorem keyP_law {t : ByteArray} {a : Nat} (ht : t.size < 1000000) (ha : a ≤ t.size) : PR t.size (fun kl => a < kl.1 ∧ kl.1 ≤ t.size ∧ kl.2.size < 1000000) (keyP t a) := by
  unfold keyP
  split
  · rename_i h; exact ⟨keyR_gt t a h, keyR_pos t a ha, keyR_size t a ht⟩
  · exact ⟨by have := keyR_e t a; omega, (nat_pos (keyR_pos t a ha)).1, (nat_pos (keyR_pos t a ha)).2⟩
theorem pathGo_law {t : ByteArray} (ht : t.size < 1000000) : ∀ (n a : Nat) (l : List ByteArray), a ≤ t.size → t.size - a < n → PR t.size (fun kl => a ≤ kl.1 ∧ kl.1 ≤ t.size) (pathGo t n a l)
  | 0, a, l, _, h => by omega
  | n + 1, a, l, ha, h => by
    rw [pathGo]
    split
    · rename_i hi
      have hlt := isB_lt hi
      have hk := keyP_law ht (show a + 1 ≤ t.size from hlt)
      generalize keyP t (a + 1) = y at hk ⊢
      cases y with
      | ok kl =>
        have h2 : a + 1 < kl.1 ∧ kl.1 ≤ t.size ∧ kl.2.size < 1000000 := hk
        have ih := pathGo_law ht n kl.1 (l ++ [kl.2]) h2.2.1 (by omega)
        simp only
        generalize pathGo t n kl.1 (l ++ [kl.2]) = z at ih ⊢
        cases z with
        | ok w => have ih : kl.1 ≤ w.1 ∧ w.1 ≤ t.size := ih; exact ⟨by omega, ih.2⟩
        | err e p => exact ih
        | ovf => exact ih
      | err e p => exact hk
      | ovf => exact hk
    · exact ⟨Nat.le_refl _, ha⟩
theorem pathP_law {t : ByteArray} {a : Nat} (ht : t.size < 1000000) (ha : a ≤ t.size) : PR t.size (fun kl => a < kl.1 ∧ kl.1 ≤ t.size ∧ (∀ x ∈ kl.2, x.size < 1000000) ∧ kl.2.length ≤ t.size + 3 ∧ kl.2 ≠ []) (pathP t a) := by
  have hok := pathP_ok t a ha ht
  have hk := keyP_law ht ha
  have hR : PR t.size (fun kl => a < kl.1 ∧ kl.1 ≤ t.size) (pathP t a) := by
    unfold pathP
    generalize keyP t a = y at hk ⊢
    cases y with
    | ok kl =>
      have h2 : a < kl.1 ∧ kl.1 ≤ t.size ∧ kl.2.size < 1000000 := hk
      have ih := pathGo_law ht (t.size + 2) kl.1 [kl.2] h2.2.1 (by omega)
      simp only
      generalize pathGo t (t.size + 2) kl.1 [kl.2] = z at ih ⊢
      cases z with
      | ok w => have ih : kl.1 ≤ w.1 ∧ w.1 ≤ t.size := ih; exact ⟨by omega, ih.2⟩
      | err e p => exact ih
      | ovf => exact ih
    | err e p => exact hk
    | ovf => exact hk
  generalize pathP t a = z at hok hR ⊢
  cases z with
  | ok w => obtain ⟨k, l⟩ := w; have h1 := hok k l rfl; exact ⟨hR.1, hR.2, h1.2.2.1, h1.2.2.2, h1.2.1⟩
  | err e p => exact hR
  | ovf => exact hR
theorem lift_law {α : Type} {r : Res α} {Q : α → Prop} {s : OS Sec} {hi : Nat} (h : PR hi Q r) (hg : Good right s) : RP right s hi (fun a s' => s' = s ∧ Q a) (liftR r s) := by
  cases r with
  | ok a => exact ⟨hg, Fr.refl _, rfl, h⟩
  | err e p => exact ⟨hg.half, Fr.refl _, h⟩
  | ovf => exact h.elim
theorem must_law {t : ByteArray} {b : Int} {a : Nat} {s : OS Sec} (hg : Good right s) (ha : a ≤ t.size) : RP right s t.size (fun k s' => k = a + 1 ∧ k ≤ t.size ∧ s' = s) (mustM t b a s) := by
  unfold mustM; split
  · rename_i h; exact ⟨hg, Fr.refl _, rfl, isB_lt h, rfl⟩
  · exact RP.fail hg (by simp) (nat_pos ha).1 (nat_pos ha).2
theorem scalarR_kind {t : ByteArray} {a : Nat} {nl : Bool} {k : Nat} {e : Int} {x : Ev} (h : scalarR numRead t a nl = some (k, e, x)) : k1234 x.kind = true := by
  unfold scalarR at h
  split at h
  · split at h
    · simp only [Option.some.injEq, Prod.mk.injEq] at h; rw [← h.2.2]; rfl
    · split at h
      · simp only [Option.some.injEq, Prod.mk.injEq] at h; rw [← h.2.2]; rfl
      · split at h
        · simp only [Option.some.injEq, Prod.mk.injEq] at h; rw [← h.2.2]; rfl
        · split at h
          · simp only [Option.some.injEq, Prod.mk.injEq] at h; rw [← h.2.2]; rfl
          · split at h
            · simp only [Option.some.injEq, Prod.mk.injEq] at h; rw [← h.2.2]; rfl
            · exact nomatch h
  · exact nomatch h
theorem k1234_d {k : Int} (h : k1234 k = true) : eOf k = 0 ∧ dOf k = 0 := by
  simp only [k1234, Bool.or_eq_true, beq_iff_eq] at h
  rcases h with h | h | h | h <;> rw [h] <;> exact ⟨rfl, rfl⟩
/-- a value's post: where it ends, what it told -/
def FQ (t : ByteArray) (a : Nat) (s : OS Sec) (k : Nat) (s' : OS Sec) : Prop := a ≤ k ∧ k ≤ t.size ∧ ql s' ≤ ql s + 2 * (k - a) + 1 ∧ dp s' = dp s ∧ Sm s s'
theorem value_law_all (hn : NumLaw numRead) : ∀ n, (∀ (t : ByteArray) (a : Nat) (s : OS Sec), t.size < 1000000 → a ≤ t.size → Good right s → ql s + 2 * (t.size - a) + 10 ≤ 4294967296 → 4 * (t.size + 2 - a) ≤ n → RP right s t.size (FQ t a s) (secValue right numRead t n a s)) ∧
    (∀ (t : ByteArray) (a : Nat) (kind last fin : Int) (s : OS Sec), t.size < 1000000 → a < t.size → (kind = 5 ∨ kind = 7) → (fin = 6 ∨ fin = 9) → Good right s → ql s + 2 * (t.size - a) + 10 ≤ 4294967296 → 4 * (t.size + 2 - a) ≤ n + 1 → RP right s t.size (FQ t a s) (secRow right numRead t n a kind last fin s)) ∧
    (∀ (t : ByteArray) (a : Nat) (kind last : Int) (s : OS Sec), a ≤ t.size → t.size < 1000000 → Good right s → ql s + 2 * (t.size - a) + 10 ≤ 4294967296 → 4 * (t.size + 2 - a) + 1 ≤ n → RP right s t.size (fun k s' => isB t k last = true ∧ FQ t a s k s') (secRowGo right numRead t n a kind last s)) := by
  intro n
  induction n with
  | zero =>
    refine ⟨fun t a s _ ha _ _ hf => ?_, fun t a kind last fin s _ ha _ _ _ _ hf => ?_, fun t a kind last s ha _ _ _ hf => ?_⟩ <;> omega
  | succ n ih =>
    obtain ⟨ih1, ih2, ih3⟩ := ih
    refine ⟨fun t a s ht ha hg hq hf => ?_, fun t a kind last fin s ht ha hki hfi hg hq hf => ?_, fun t a kind last s ha ht hg hq hf => ?_⟩
    · rw [secValue]
      split
      · rename_i hi; exact ih2 t a _ _ _ s ht (isB_lt hi) (.inl rfl) (.inl rfl) hg hq hf
      · split
        · rename_i hi; exact ih2 t a _ _ _ s ht (isB_lt hi) (.inr rfl) (.inr rfl) hg hq hf
        · refine RP.bind (Q1 := fun o s' => (∀ k, o = some k → FQ t a s k s') ∧ (o = none → s' = s)) ?_ fun o s1 g1 f1 q1 => ?_
          · unfold scalM
            cases hs : scalarR numRead t a false with
            | none => exact RP.ret hg ⟨fun k h => (nomatch h), fun _ => rfl⟩
            | some y =>
              obtain ⟨k, e, x⟩ := y
              have hl := scalarR_law hn ha hs
              simp only
              split
              · exact RP.fail hg (by have := hl.2.2.1; omega) (nat_pos hl.1).1 (nat_pos hl.1).2
              · rename_i he
                have he : e = 0 := by simpa using he
                subst he
                have hk1 := scalarR_pos hs hl.2.1
                have hpp := pred_pos hk1 hl.1
                obtain ⟨hke, hkd⟩ := k1234_d (scalarR_kind hs)
                refine RP.bind (says_law hg hl.2.2.2 (by omega) hpp.1 hpp.2) fun _ s1 g1 f1 q1 => RP.ret g1 ⟨fun k' h => ?_, fun h => (nomatch h)⟩
                obtain rfl := Option.some.inj h
                have := q1.1; have := q1.2.1
                exact ⟨hl.2.1, hl.1, by omega, by omega, q1.2.2.1⟩
          · cases o with
            | none => obtain rfl := q1.2 rfl; exact RP.fail g1 (by simp) (nat_pos ha).1 (nat_pos ha).2
            | some k => exact RP.ret g1 (q1.1 k rfl)
    · rw [secRow]
      have hb1 := blanks_ge t (a + 1)
      have hb2 := blanks_le t (a + 1) ha
      have hka : kind ≠ 10 ∧ kind ≠ 11 := by rcases hki with rfl | rfl <;> simp
      have hkd : eOf (ev0 kind).kind = 0 ∧ dOf (ev0 kind).kind = 1 := by rcases hki with rfl | rfl <;> exact ⟨rfl, rfl⟩
      have hfd : eOf (ev0 fin).kind = 1 ∧ dOf (ev0 fin).kind = 0 := by rcases hfi with rfl | rfl <;> exact ⟨rfl, rfl⟩
      have hfa : fin ≠ 10 ∧ fin ≠ 11 := by rcases hfi with rfl | rfl <;> simp
      refine RP.bind (says_law hg (okE0 kind hka.1 hka.2) (by omega) (nat_pos (Nat.le_of_lt ha)).1 (nat_pos (Nat.le_of_lt ha)).2) fun _ s1 g1 f1 q1 => ?_
      generalize blanks t (a + 1) = b at hb1 hb2 ⊢
      have q11 := q1.1
      have q12 := q1.2.1
      refine RP.bind (Q1 := fun k s' => isB t k last = true ∧ FQ t b s1 k s') ?_ fun k s2 g2 f2 q2 => ?_
      · split
        · rename_i hi; exact RP.ret g1 ⟨hi, Nat.le_refl _, hb2, by omega, rfl, Sm.refl _⟩
        · exact ih3 t b kind last s1 hb2 ht g1 (by omega) (by omega)
      · have hk := isB_lt q2.1
        obtain ⟨q2a, q2b, q2c, q2d, q2e⟩ := q2.2
        refine RP.bind (says_law g2 (okE0 fin hfa.1 hfa.2) (by omega) (nat_pos q2b).1 (nat_pos q2b).2) fun _ s3 g3 f3 q3 => RP.ret g3 ⟨by omega, hk, by have := q3.1; omega, by have := q3.2.1; omega, (q1.2.2.1.trans q2e).trans q3.2.2.1⟩
    · rw [secRowGo]
      refine RP.bind (Q1 := fun a1 s' => a ≤ a1 ∧ a1 ≤ t.size ∧ ql s' ≤ ql s + 2 * (a1 - a) ∧ dp s' = dp s ∧ Sm s s') ?_ fun a1 s1 g1 f1 q1 => ?_
      · split
        · refine RP.bind (lift_law (keyP_law ht ha) hg) fun kl s1 g1 f1 q1 => ?_
          · obtain ⟨rfl, q2, q3, q4⟩ := q1
            have hpp := pred_pos (k := kl.1) (S := t.size) (by omega) q3
            refine RP.bind (says_law g1 (okE8 _ (by omega)) (by omega) hpp.1 hpp.2) fun _ s2 g2 f2 p2 => ?_
            have hb1 := blanks_ge t kl.1
            have hb2 := blanks_le t kl.1 q3
            refine RP.bind (must_law g2 hb2) fun k s3 g3 f3 p3 => ?_
            obtain ⟨rfl, hk, rfl⟩ := p3
            have hb3 := blanks_ge t (blanks t kl.1 + 1)
            have hb4 := blanks_le t (blanks t kl.1 + 1) hk
            exact RP.ret g3 ⟨by omega, hb4, by have := p2.1; omega, (by have := p2.2.1; rw [show eOf (⟨8, kl.2, ⟨#[]⟩⟩ : Ev).kind = 0 from rfl, show dOf (⟨8, kl.2, ⟨#[]⟩⟩ : Ev).kind = 0 from rfl] at this; omega), p2.2.2.1⟩
        · exact RP.ret hg ⟨Nat.le_refl _, ha, by omega, rfl, Sm.refl _⟩
      · obtain ⟨qa, qb, qc, qd, qe⟩ := q1
        refine RP.bind (ih1 t a1 s1 ht qb g1 (by omega) (by omega)) fun a2 s2 g2 f2 q2 => ?_
        obtain ⟨ra, rb, rc, rd, re⟩ := q2
        have hb1 := blanks_ge t a2
        have hb2 := blanks_le t a2 rb
        split
        · rename_i hi; exact RP.ret g2 ⟨hi, by omega, hb2, by omega, by rw [rd, qd], qe.trans re⟩
        · refine RP.bind (must_law g2 hb2) fun a3 s3 g3 f3 p3 => ?_
          obtain ⟨rfl, hk, rfl⟩ := p3
          have hb3 := blanks_ge t (blanks t a2 + 1)
          have hb4 := blanks_le t (blanks t a2 + 1) hk
          refine (ih3 t _ kind last s3 hb4 ht g3 (by omega) (by omega)).mono fun k s' _ q => ⟨q.1, ?_⟩
          obtain ⟨ta, tb, tc, td, te⟩ := q.2
          exact ⟨by omega, tb, by omega, by rw [td, rd, qd], (qe.trans re).trans te⟩
theorem lay_sm {s s' : OS Sec} (hl : Lay s) (hd : dp s' = dp s) (h : Sm s s') : Lay s' := by
  refine ⟨fun hb => ?_, fun hb => ?_, fun hb => ?_, by rw [h.2.1]; exact hl.hd, by rw [h.2.1]; exact hl.hl⟩
  · rw [h.2.2.1] at hb; rw [hd, h.1]; exact hl.dep hb
  · rw [h.2.2.1] at hb; rw [hd, h.1]; exact hl.dep0 hb
  · rw [h.2.2.1] at hb; exact h.2.2.2 (hl.ov hb)
/-- what a part of a line tells -/
def PQ (t : ByteArray) (s : OS Sec) (k : Nat) (s' : OS Sec) : Prop := k ≤ t.size ∧ Lay s' ∧ ql s' ≤ ql s + 2000
theorem section_law {t : ByteArray} {a : Nat} {s : OS Sec} (ht : t.size ≤ 160) (ha : isB t a 91 = true) (hl : Lay s) (hg : Good right s) (hq : ql s + 4000 ≤ 4294967296) : RP right s t.size (PQ t s) (secSection right t a s) := by
  have hlt := isB_lt ha
  unfold secSection
  have hA : (if isB t (a + 1) 91 = true then a + 2 else a + 1) ≤ t.size := by
    split
    · rename_i h; exact isB_lt h
    · exact hlt
  generalize (if isB t (a + 1) 91 = true then a + 2 else a + 1) = A at hA ⊢
  refine RP.bind (lift_law (pathP_law (by omega) hA) hg) fun kp s1 g1 f1 q1 => ?_
  obtain ⟨rfl, p1, p2, p3, p4, p5⟩ := q1
  refine RP.bind (must_law g1 p2) fun k s2 g2 f2 q2 => ?_
  obtain ⟨rfl, hk, rfl⟩ := q2
  have hpp := pred_pos (k := kp.1 + 1) (S := t.size) (by omega) hk
  refine RP.bind (goes_law hl p3 (by omega) g2 (by omega) hpp.1 hpp.2) fun _ s3 g3 f3 q3 => ?_
  split
  · exact (must_law g3 hk).mono fun k s' _ q => ⟨q.2.1, by rw [q.2.2]; exact q3.1, by rw [q.2.2]; omega⟩
  · exact RP.ret g3 ⟨hk, q3.1, by omega⟩
theorem assigns_law (hn : NumLaw numRead) {t : ByteArray} {a : Nat} {s : OS Sec} (ht : t.size ≤ 160) (ha : a ≤ t.size) (hl : Lay s) (hg : Good right s) (hq : ql s + 4000 ≤ 4294967296) : RP right s t.size (PQ t s) (secAssigns right numRead t a s) := by
  unfold secAssigns
  refine RP.bind (lift_law (pathP_law (by omega) ha) hg) fun kp s1 g1 f1 q1 => ?_
  obtain ⟨rfl, p1, p2, p3, p4, p5⟩ := q1
  have hb1 := blanks_ge t kp.1
  have hb2 := blanks_le t kp.1 p2
  refine RP.bind (must_law g1 hb2) fun k s2 g2 f2 q2 => ?_
  obtain ⟨rfl, hk, rfl⟩ := q2
  have hpp := pred_pos (k := blanks t kp.1 + 1) (S := t.size) (by omega) hk
  generalize Int.ofNat (blanks t kp.1 + 1) - 1 = pp at hpp ⊢
  refine RP.bind (begins_law hl g2 (by omega) hpp.1 hpp.2) fun _ s3 g3 f3 q3 => ?_
  obtain ⟨l3, b3, -, h3, k3⟩ := q3
  refine RP.bind (Q1 := fun _ s' => Lay s' ∧ ql s' ≤ ql s3 + 1200) ?_ fun _ s4 g4 f4 q4 => ?_
  · unfold secTo
    have hany : ¬ s3.m.header.any (fun k => decide (k.size ≥ 1000000)) = true := by
      intro h
      rw [List.any_eq_true] at h
      obtain ⟨x, hx, h⟩ := h
      have := l3.hd x hx
      have := of_decide_eq_true h
      omega
    rw [if_neg hany]
    have hall : ∀ x ∈ s3.m.header ++ kp.2, x.size < 1000000 := fun x hx => (List.mem_append.1 hx).elim (l3.hd x) (p3 x)
    have hlen : (s3.m.header ++ kp.2).length ≤ 363 := by rw [List.length_append]; have := l3.hl; omega
    have hne : 0 < (s3.m.header ++ kp.2).length := by rw [List.length_append]; have := List.length_pos_iff.2 p5; omega
    generalize s3.m.header ++ kp.2 = all at hall hlen hne ⊢
    unfold secAll
    generalize secCommon s3.m.place all (all.length - 1) = n
    refine RP.bind (leaves_law l3 b3 g3 (by omega) hpp.1 hpp.2) fun _ s4 g4 f4 q4 => ?_
    obtain ⟨l4, b4, -, h4, k4⟩ := q4
    have hd : ((all.take (all.length - 1)).drop n).length ≤ 363 := by rw [List.length_drop, List.length_take]; omega
    refine RP.bind (entersL_law hpp.1 hpp.2 _ s4 l4 b4 (fun x hx => hall x (List.mem_of_mem_take (List.mem_of_mem_drop hx))) g4 (by omega)) fun _ s5 g5 f5 q5 => ?_
    obtain ⟨l5, b5, -, k5⟩ := q5
    have hlast : (all.getD (all.length - 1) ⟨#[]⟩).size < 1000000 := by
      rw [List.getD_eq_getElem?_getD, List.getElem?_eq_getElem (by omega)]
      exact hall _ (List.getElem_mem _)
    refine (says_law g5 (okE8 _ (by omega)) (by omega) hpp.1 hpp.2).mono fun _ s' g' q => ⟨lay_sm l5 ?_ q.2.2.1, by omega⟩
    have := q.2.1
    rw [show eOf (⟨8, all.getD (all.length - 1) ⟨#[]⟩, ⟨#[]⟩⟩ : Ev).kind = 0 from rfl, show dOf (⟨8, all.getD (all.length - 1) ⟨#[]⟩, ⟨#[]⟩⟩ : Ev).kind = 0 from rfl] at this
    omega
  · obtain ⟨l4, k4⟩ := q4
    have hb3 := blanks_ge t (blanks t kp.1 + 1)
    have hb4 := blanks_le t (blanks t kp.1 + 1) hk
    unfold secValueA
    exact ((value_law_all hn _).1 t _ s4 (by omega) hb4 g4 (by omega) (Nat.le_refl _)).mono fun k s' _ q => ⟨q.2.1, lay_sm l4 q.2.2.2.1 q.2.2.2.2, by have := q.2.2.1; have := q.2.1; omega⟩
theorem line_law (hn : NumLaw numRead) {t : ByteArray} {s : OS Sec} (ht : t.size ≤ 160) (hl : Lay s) (hg : Good right s) (hq : ql s + 4000 ≤ 4294967296) : RP right s t.size (fun _ s' => Lay s' ∧ ql s' ≤ ql s + 2000) (secLine right numRead t s) := by
  have hc : (cutR t).1 ≤ t.size := blanks_le t 0 (Nat.zero_le _)
  unfold secLine
  split
  · generalize (cutR t).1 = a at hc ⊢
    refine RP.bind (Q1 := PQ t s) ?_ fun k s1 g1 f1 q1 => ?_
    · split
      · rename_i hi; exact section_law ht hi hl hg hq
      · exact assigns_law hn ht hc hl hg hq
    · have hb := blanks_le t k q1.1
      split
      · exact RP.fail g1 (by simp) (nat_pos hb).1 (nat_pos hb).2
      · exact RP.ret g1 q1.2
  · exact RP.ret hg ⟨hl, by omega⟩
 end
end Hx
/- The plain law of sections: the whole text. -/
namespace Hx
open Go Sx Go.Proofs
set_option maxRecDepth 100000
set_option maxHeartbeats 4000000
set_option linter.unusedVariables false
set_option linter.unusedSimpArgs false
variable {GOk : Gl → Prop}
section
variable {right : Ev → Bool} {numRead : ByteArray → ByteArray × Int}
def chkDone (c : Chk) : Bool := c.over && c.opens.isEmpty
abbrev atS : Sec → Option Nat := fun m => some m.ahead
abbrev feedS (right : Ev → Bool) (numRead : ByteArray → ByteArray × Int) := feedG (secStep right numRead) atS
def wholeGo (right : Ev → Bool) : Chk → List Ev → Nat → Nat × Int
  | c, [], i => (i, if chkDone c then 0 else 19)
  | c, x :: r, i => if (chkStep right c x).1 ≠ 0 then (i, (chkStep right c x).1) else wholeGo right (chkStep right c x).2 r (i + 1)
structure Inv (right : Ev → Bool) (i : Nat) (s : OS Sec) : Prop where
  good : Good right s
  lay : Lay s
  at_ : s.c.at_ = i
  ahead : s.m.ahead + s.m.line.length = i
  over : s.c.over = false
  err : s.c.err = 0
  pot : ql s ≤ 2000 * i
  line : s.m.line.length ≤ 160
/-- where it ended -/
structure Fin1 (right : Ev → Bool) (n : Nat) (s : OS Sec) : Prop where
  half : Half right s
  err : s.c.err ≠ 0
  over : s.c.over = true
  at_ : s.c.at_ ≤ n
theorem looks_law (hn : NumLaw numRead) {nl i : Nat} {s : OS Sec} (h : Inv right i s) (hi : i ≤ 600) : ∃ e s', secLooks right numRead nl s = some (e, s') ∧ s'.c.scan = s.c.scan ∧ s'.c.at_ = i ∧ s'.c.closed = s.c.closed ∧ s'.c.over = false ∧ s'.c.err = 0 ∧
    (e = 0 → Good right s' ∧ s'.m.ahead = i + nl ∧ s'.m.line = [] ∧ ql s' ≤ ql s + 2000 ∧ Lay s') ∧ (e ≠ 0 → Half right s' ∧ s'.m.ahead ≤ i) := by
  have h1 := h.ahead; have h2 := h.pot; have h4 := h.line
  have hs : (bytesOf s.m.line).size = s.m.line.length := bytesOf_size _
  have hg1 : Good right { s with m := { s.m with line := [], ahead := s.m.ahead + s.m.line.length + nl } } := ⟨h.good.st, h.good.ok, h.good.le⟩
  have hp1 : ql { s with m := { s.m with line := [], ahead := s.m.ahead + s.m.line.length + nl } } = ql s := rfl
  have hl1 : Lay { s with m := { s.m with line := [], ahead := s.m.ahead + s.m.line.length + nl } } := ⟨h.lay.dep, h.lay.dep0, h.lay.ov, h.lay.hd, h.lay.hl⟩
  have hl := line_law hn (t := bytesOf s.m.line) (by omega) hl1 hg1 (by omega)
  unfold secLooks
  rw [if_neg (by omega)]
  generalize secLine right numRead (bytesOf s.m.line) { s with m := { s.m with line := [], ahead := s.m.ahead + s.m.line.length + nl } } = y at hl ⊢
  obtain ⟨r, s'⟩ := y
  cases r with
  | ok a =>
    obtain ⟨g, f, q⟩ := hl
    refine ⟨0, s', rfl, f.2.2.1, f.2.2.2.1.trans h.at_, f.2.2.2.2.1, f.2.2.2.2.2.1.trans h.over, f.2.2.2.2.2.2.1.trans h.err, fun _ => ⟨g, ?_, f.2.1, ?_, q.1⟩, fun h => absurd rfl h⟩
    · have := f.1; simp only at this; omega
    · have := q.2; omega
  | err e p =>
    obtain ⟨g, f, he, hp0, hp2⟩ := hl
    simp only
    rw [if_neg (by omega)]
    refine ⟨e, _, rfl, f.2.2.1, f.2.2.2.1.trans h.at_, f.2.2.2.2.1, f.2.2.2.2.2.1.trans h.over, f.2.2.2.2.2.2.1.trans h.err, fun h => by omega, fun _ => ⟨⟨g.st, g.ok⟩, ?_⟩⟩
    simp only; omega
  | ovf => exact hl.elim
theorem secStep_nl {x : UInt8} {s : OS Sec} (h : x = 10) : secStep right numRead x s = secLooks right numRead 1 s := by unfold secStep; rw [if_pos h]
theorem secStep_full {x : UInt8} {s : OS Sec} (h : ¬ x = 10) (h2 : s.m.line.length ≥ 160) (h3 : ¬ s.m.ahead > 1000000) : secStep right numRead x s = some (4, { s with m := { s.m with ahead := s.m.ahead + 160 } }) := by unfold secStep; rw [if_neg h, if_pos h2, if_neg h3]
theorem secStep_app {x : UInt8} {s : OS Sec} (h : ¬ x = 10) (h2 : ¬ s.m.line.length ≥ 160) : secStep right numRead x s = some (0, { s with m := { s.m with line := s.m.line ++ [x] } }) := by unfold secStep; rw [if_neg h, if_neg h2]
theorem feed_law (hn : NumLaw numRead) {n : Nat} (hn6 : n ≤ 600) : ∀ (l : List UInt8) (i : Nat) (s : OS Sec), Inv right i s → s.c.closed = false → i + l.length = n → ∃ s', feedS right numRead l s = some s' ∧ s'.c.closed = false ∧ (Inv right n s' ∨ Fin1 right n s')
  | [], i, s, h, hcl0, hl => by
    have e : i = n := by simpa using hl
    exact ⟨s, rfl, hcl0, .inl (e ▸ h)⟩
  | x :: r, i, s, h, hcl0, hl => by
    simp only [List.length_cons] at hl
    simp only [feedS, feedG]
    rw [if_neg (by rw [h.over]; decide)]
    generalize scanStep s.c.scan (x.toNat : Nat) = y
    obtain ⟨b, sc⟩ := y
    cases b with
    | false => exact ⟨_, rfl, hcl0, .inr ⟨⟨⟨_, h.good.st⟩, h.good.ok⟩, by simp, rfl, by simp only; rw [h.at_]; omega⟩⟩
    | true =>
      simp only
      have h' : Inv right i { s with c := { s.c with scan := sc } } := ⟨⟨h.good.st, h.good.ok, h.good.le⟩, ⟨h.lay.dep, h.lay.dep0, h.lay.ov, h.lay.hd, h.lay.hl⟩, h.at_, h.ahead, h.over, h.err, h.pot, h.line⟩
      have hcl : ({ s with c := { s.c with scan := sc } } : OS Sec).c.closed = false := hcl0
      generalize ({ s with c := { s.c with scan := sc } } : OS Sec) = s1 at h' hcl ⊢
      by_cases hx10 : x = 10
      · obtain ⟨e, s2, h1, -, h3, h4, h5, h6, h7, h8⟩ := looks_law hn (nl := 1) h' (by omega)
        rw [secStep_nl hx10, h1]
        simp only
        split
        · rename_i he
          refine ⟨_, rfl, by rw [← hcl, ← h4]; rfl, .inr ⟨⟨(h8 he).1.st, (h8 he).1.ok⟩, he, rfl, ?_⟩⟩
          simp only [metG]; rw [if_pos he]; show s2.m.ahead ≤ n; have := (h8 he).2; omega
        · rename_i he
          have he : e = 0 := by simpa using he
          obtain ⟨k1, k2, k3, k4, k5⟩ := h7 he
          rw [if_neg (by omega)]
          have a1 := h'.pot
          refine feed_law hn hn6 r (i + 1) _ ⟨⟨k1.st, k1.ok, k1.le⟩, ⟨k5.dep, k5.dep0, k5.ov, k5.hd, k5.hl⟩, by simp only; rw [h3], by simp only; rw [k3, k2]; rfl, h5, h6, ?_, by simp only; rw [k3]; exact Nat.zero_le _⟩ (by simp only; rw [h4, hcl]) (by omega)
          show ql s2 ≤ 2000 * (i + 1)
          omega
      · by_cases h160 : s1.m.line.length ≥ 160
        · have a0 := h'.ahead
          rw [secStep_full hx10 h160 (by omega)]
          simp only
          rw [if_pos (by simp)]
          refine ⟨_, rfl, hcl, .inr ⟨⟨⟨_, h'.good.st⟩, h'.good.ok⟩, by simp only [metG]; decide, rfl, ?_⟩⟩
          simp only [metG]; rw [if_pos (by simp)]; show s1.m.ahead + 160 ≤ n; omega
        · have a0 := h'.ahead; have a1 := h'.pot; have a3 := h'.at_
          rw [secStep_app hx10 h160]
          simp only
          rw [if_neg (by simp), if_neg (by omega)]
          refine feed_law hn hn6 r (i + 1) _ ⟨⟨h'.good.st, h'.good.ok, h'.good.le⟩, ⟨h'.lay.dep, h'.lay.dep0, h'.lay.ov, h'.lay.hd, h'.lay.hl⟩, by simp only; omega, by simp only [List.length_append, List.length_singleton]; omega, h'.over, h'.err, ?_, by simp only [List.length_append, List.length_singleton]; omega⟩ hcl (by omega)
          simp only [ql] at a1 ⊢; omega
theorem finish_law {s : OS Sec} (hl : Lay s) (hg : Good right s) (hq : ql s + 4000 ≤ 4294967296) : ∃ e s', secFinish right s = some (e, s') ∧ Half right s' ∧ Fr s s' ∧ (e = 0 → Good right s' ∧ chkDone s'.m.chk = true) := by
  have h : RP right s 0 (fun _ s' => chkDone s'.m.chk = true) (secFinishO right s) := by
    unfold secFinishO
    refine RP.bind (begins_law hl hg (by omega) (Int.le_refl _) (Int.le_refl _)) fun _ s1 g1 f1 q1 => ?_
    obtain ⟨l1, b1, -, -, k1⟩ := q1
    refine RP.bind (leaves_law l1 b1 g1 (by omega) (Int.le_refl _) (Int.le_refl _)) fun _ s2 g2 f2 q2 => ?_
    obtain ⟨l2, b2, p2, -, k2⟩ := q2
    refine (says_law g2 (okE0 9 (by decide) (by decide)) (by omega) (Int.le_refl _) (Int.le_refl _)).mono fun _ s' g' q => ?_
    have h1 := q.2.1
    rw [show eOf (ev0 9).kind = 1 from rfl, show dOf (ev0 9).kind = 0 from rfl, l2.dep b2, p2, List.take_zero] at h1
    simp only [pd] at h1
    have h2 : dp s' = 0 := by omega
    have h3 : s'.m.chk.over = true := q.2.2.1.2.2.2 (l2.ov b2)
    have h4 : s'.m.chk.opens = [] := List.eq_nil_of_length_eq_zero h2
    unfold chkDone
    rw [h3, h4]; rfl
  unfold secFinish
  generalize secFinishO right s = y at h ⊢
  obtain ⟨r, s'⟩ := y
  cases r with
  | ok a => exact ⟨_, s', rfl, h.1.half, h.2.1, fun he => ⟨h.1, h.2.2⟩⟩
  | err e p =>
    simp only
    rw [if_neg (by have := h.2.2.1; omega)]
    exact ⟨e, s', rfl, h.1, h.2.1, fun he => by have := h.2.2.1; omega⟩
  | ovf => exact h.elim
/-- the end of a text of so many bytes -/
structure AllOk (right : Ev → Bool) (n : Nat) (s : OS Sec) : Prop where
  steps : ∃ c, stepsC right chk0 s.c.queue = some c ∧ (s.c.err = 0 → chkDone c = true)
  ok : QOk s.c.queue
  at_ : s.c.at_ ≤ n
  full : s.c.err = 0 → s.c.at_ = n
theorem met_law {n : Nat} {e : Int} {s : OS Sec} (h : Half right s) (h0 : e = 0 → Good right s ∧ chkDone s.m.chk = true) (hat : s.c.at_ = n) (ha : e ≠ 0 → s.m.ahead ≤ n) : AllOk right n (metG atS e s) := by
  by_cases he : e = 0
  · obtain ⟨g, d⟩ := h0 he
    refine ⟨⟨s.m.chk, g.st, fun _ => d⟩, h.ok, ?_, fun _ => ?_⟩
    · simp only [metG]; rw [if_neg (by simpa using he)]; omega
    · simp only [metG]; rw [if_neg (by simpa using he)]; exact hat
  · obtain ⟨c, hc⟩ := h.st
    refine ⟨⟨c, hc, fun h => absurd h he⟩, h.ok, ?_, fun h => absurd h he⟩
    simp only [metG]; rw [if_pos he]; exact ha he
theorem secEnd_nil {s : OS Sec} (h : s.m.line = []) : secEnd right numRead s = secFinish right s := by unfold secEnd; rw [if_pos (by rw [h]; rfl)]
theorem secEnd_cons {s : OS Sec} (h : s.m.line ≠ []) : secEnd right numRead s = match secLooks right numRead 0 s with
    | none => none
    | some (e, s') => if e ≠ 0 then some (e, s') else secFinish right s' := by unfold secEnd; rw [if_neg (by simpa using h)]; rfl
theorem end_law (hn : NumLaw numRead) {n : Nat} (hn6 : n ≤ 600) {s : OS Sec} (h : Inv right n s) : ∃ e s', secEnd right numRead s = some (e, s') ∧ AllOk right n (metG atS e s') := by
  have a1 := h.pot; have a2 := h.ahead; have a3 := h.line
  by_cases hl : s.m.line = []
  · rw [secEnd_nil hl]
    obtain ⟨e, s', h1, h2, h3, h4⟩ := finish_law h.lay h.good (by omega)
    refine ⟨e, s', h1, met_law h2 h4 (h3.2.2.2.1.trans h.at_) fun _ => ?_⟩
    have := h3.1; rw [hl] at a2; simp only [List.length_nil] at a2 this; omega
  · rw [secEnd_cons hl]
    obtain ⟨e, s', h1, -, h3, h4, h5, h6, h7, h8⟩ := looks_law hn (nl := 0) h hn6
    rw [h1]
    simp only
    by_cases he : e = 0
    · rw [if_neg (by simpa using he)]
      obtain ⟨k1, k2, k3, k4, k5⟩ := h7 he
      obtain ⟨e2, s2, j1, j2, j3, j4⟩ := finish_law k5 k1 (by omega)
      refine ⟨e2, s2, j1, met_law j2 j4 (j3.2.2.2.1.trans h3) fun _ => ?_⟩
      rw [j3.1, k2]; exact Nat.le_refl _
    · rw [if_pos he]
      exact ⟨e, s', rfl, met_law (h8 he).1 (fun h => absurd h he) h3 fun _ => (h8 he).2⟩
theorem close_law (hn : NumLaw numRead) {n : Nat} (hn6 : n ≤ 600) {s : OS Sec} (hc : s.c.closed = false) (h : Inv right n s ∨ Fin1 right n s) : ∃ s', closeG (secEnd right numRead) atS s = some s' ∧ AllOk right n s' := by
  rcases h with h | h
  · unfold closeG
    rw [if_neg (by rw [h.over, hc]; simp)]
    by_cases hs : s.c.scan.left ≠ 0
    · rw [if_pos hs]
      exact ⟨_, rfl, ⟨⟨_, h.good.st, fun h => absurd h (by simp)⟩, h.good.ok, by simp only; rw [h.at_]; exact Nat.le_refl _, fun h => absurd h (by simp)⟩⟩
    · rw [if_neg hs]
      have h' : Inv right n { s with c := { s.c with closed := true } } := ⟨⟨h.good.st, h.good.ok, h.good.le⟩, ⟨h.lay.dep, h.lay.dep0, h.lay.ov, h.lay.hd, h.lay.hl⟩, h.at_, h.ahead, h.over, h.err, h.pot, h.line⟩
      generalize ({ s with c := { s.c with closed := true } } : OS Sec) = s1 at h' ⊢
      obtain ⟨e, s', h1, h2⟩ := end_law hn hn6 h'
      rw [h1]
      exact ⟨_, rfl, h2⟩
  · unfold closeG
    rw [if_pos (by rw [h.over]; simp)]
    obtain ⟨c, hc⟩ := h.half.st
    exact ⟨_, rfl, ⟨⟨c, hc, fun he => absurd he h.err⟩, h.half.ok, h.at_, fun he => absurd he h.err⟩⟩
theorem inv0 : Inv right 0 sec0 := ⟨⟨rfl, ⟨(fun x hx => nomatch hx), Nat.zero_le _⟩, Nat.zero_le _⟩, ⟨(fun h => nomatch h), fun _ => ⟨rfl, rfl⟩, (fun h => nomatch h), (fun x hx => nomatch hx), Nat.zero_le _⟩, rfl, rfl, rfl, rfl, Nat.zero_le _, Nat.zero_le _⟩
theorem all_law (hn : NumLaw numRead) (text : List UInt8) (hl : text.length ≤ 600) : ∃ s, secAllM right numRead text = some s ∧ AllOk right text.length s := by
  obtain ⟨s1, h1, h2, h3⟩ := feed_law hn hl text 0 sec0 inv0 rfl (by omega)
  obtain ⟨s2, h4, h5⟩ := close_law hn hl h2 h3
  exact ⟨s2, by have h1 : feedG (secStep right numRead) (fun m => some m.ahead) text sec0 = some s1 := h1; unfold secAllM allG; rw [h1]; exact h4, h5⟩
theorem whole_law : ∀ (l : List Ev) (c c1 : Chk) (i : Nat), stepsC right c l = some c1 → wholeGo right c l i = (i + l.length, if chkDone c1 then 0 else 19)
  | [], c, c1, i, h => by simp only [stepsC, Option.some.injEq] at h; subst h; rfl
  | x :: r, c, c1, i, h => by
    simp only [stepsC] at h
    split at h
    · rename_i hx
      simp only [wholeGo]; rw [if_neg (by simpa using hx), whole_law r _ c1 _ h]
      simp only [List.length_cons]; rw [show i + 1 + r.length = i + (r.length + 1) by omega]
    · exact nomatch h
 end
end Hx
