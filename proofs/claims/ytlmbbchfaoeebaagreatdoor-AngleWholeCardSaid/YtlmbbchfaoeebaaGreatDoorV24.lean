/-
  Part of a proof.
-/
import Derived.Test.YtlmbbchfaoeebaaGreatDoorV10
import Derived.Test.YtlmbbchfaoeebaaGreatDoorV23
set_option linter.unusedVariables false
set_option linter.unusedSimpArgs false
/- The plain laws of angle's machine: events, binds, opens, closes. -/
namespace Hx
open Go Sx Go.Proofs
set_option maxRecDepth 100000
set_option maxHeartbeats 4000000
set_option linter.unusedVariables false
set_option linter.unusedSimpArgs false
variable {GOk : Gl → Prop}
section
variable {right : Ev → Bool}
/-- what a step leaves alone -/
def AFr (s s' : OS Ang) : Prop := s'.c.scan = s.c.scan ∧ s'.c.at_ = s.c.at_ ∧ s'.c.closed = s.c.closed ∧ s'.c.over = s.c.over ∧ s'.c.err = s.c.err ∧ s'.c.told = s.c.told
theorem AFr.refl (s : OS Ang) : AFr s s := ⟨rfl, rfl, rfl, rfl, rfl, rfl⟩
theorem AFr.trans {a b c : OS Ang} (h : AFr a b) (g : AFr b c) : AFr a c :=
  ⟨g.1.trans h.1, g.2.1.trans h.2.1, g.2.2.1.trans h.2.2.1, g.2.2.2.1.trans h.2.2.2.1, g.2.2.2.2.1.trans h.2.2.2.2.1, g.2.2.2.2.2.trans h.2.2.2.2.2⟩
abbrev aql (s : OS Ang) : Nat := s.c.queue.length
abbrev adp (s : OS Ang) : Nat := s.m.chk.opens.length
/-- the events that were told -/
structure AGood (right : Ev → Bool) (s : OS Ang) : Prop where
  st : stepsC right chk0 s.c.queue = some s.m.chk
  ok : QOk s.c.queue
structure AHalf (right : Ev → Bool) (s : OS Ang) : Prop where
  st : ∃ c, stepsC right chk0 s.c.queue = some c
  ok : QOk s.c.queue
theorem AGood.half {s : OS Ang} (h : AGood right s) : AHalf right s := ⟨⟨_, h.st⟩, h.ok⟩
/-- what a part of a step gives -/
def AR (right : Ev → Bool) (s : OS Ang) (Q : OS Ang → Prop) : Option (Int × OS Ang) → Prop
  | none => False
  | some (e, s') => AFr s s' ∧ AHalf right s' ∧ (e = 0 → AGood right s' ∧ Q s')
theorem AR.err {s s' : OS Ang} {Q : OS Ang → Prop} {e : Int} (he : e ≠ 0) (hf : AFr s s') (h : AHalf right s') : AR right s Q (some (e, s')) := ⟨hf, h, fun h0 => absurd h0 he⟩
theorem AR.ok {s s' : OS Ang} {Q : OS Ang → Prop} {e : Int} (hf : AFr s s') (h : AGood right s') (hq : Q s') : AR right s Q (some (e, s')) := ⟨hf, h.half, fun _ => ⟨h, hq⟩⟩
theorem AR.mono {s : OS Ang} {Q Q' : OS Ang → Prop} {y : Option (Int × OS Ang)} (h : AR right s Q y) (hq : ∀ s', AGood right s' → Q s' → Q' s') : AR right s Q' y := by
  cases y with
  | none => exact h
  | some y => obtain ⟨e, s'⟩ := y; exact ⟨h.1, h.2.1, fun h0 => ⟨(h.2.2 h0).1, hq _ (h.2.2 h0).1 (h.2.2 h0).2⟩⟩
theorem AR.cast {s s0 : OS Ang} {Q : OS Ang → Prop} {y : Option (Int × OS Ang)} (h : AR right s Q y) (hf : AFr s0 s) : AR right s0 Q y := by
  cases y with
  | none => exact h
  | some y => obtain ⟨e, s'⟩ := y; exact ⟨hf.trans h.1, h.2⟩
theorem event_law {s : OS Ang} {x : Ev} (hg : AGood right s) (hx : okE x) (hq : aql s < 4294967296) :
    AR right s (fun s' => s'.m = { s.m with chk := s'.m.chk } ∧ aql s' = aql s + 1 ∧ adp s' + eOf x.kind = adp s + dOf x.kind ∧ (s.m.chk.over = true → s'.m.chk.over = true) ∧ (k57a x.kind = true → adp s = 0 → s'.m.chk.over = true)) (angEvent right x s) := by
  unfold angEvent
  by_cases hz : (chkStep right s.m.chk x).1 = 0
  · rw [if_pos hz, if_neg (by simp only [aql] at hq; omega)]
    obtain ⟨d1, d2, d3⟩ := chkStep_dep s.m.chk x hz
    refine AR.ok ⟨rfl, rfl, rfl, rfl, rfl, rfl⟩ ⟨stepsC_snoc hg.st hz, ⟨fun y hy => ?_, ?_⟩⟩ ⟨rfl, ?_, d1, d2, fun h1 h2 => d3 h1 (List.eq_nil_of_length_eq_zero h2)⟩
    · simp only [List.mem_append, List.mem_singleton] at hy
      rcases hy with hy | rfl
      · exact hg.ok.1 y hy
      · exact hx
    · simp only [aql] at hq
      simp only [List.length_append, List.length_singleton]; omega
    · simp only [aql, List.length_append, List.length_singleton]
  · rw [if_neg hz]
    exact AR.err hz ⟨rfl, rfl, rfl, rfl, rfl, rfl⟩ ⟨⟨_, hg.st⟩, hg.ok⟩
/-- the same machine, but for its scopes -/
theorem bindsGo_law {s0 : OS Ang} : ∀ (l : List (ByteArray × ByteArray)) (s : OS Ang), AGood right s → AFr s0 s → ∀ n, s.m.scope.length = n → AR right s0 (fun s' => s'.c = s.c ∧ s'.m = { s.m with scope := s'.m.scope } ∧ s'.m.scope.length = n) (bindsGo l s)
  | [], s, hg, hf, n, hn => AR.ok hf hg ⟨rfl, rfl, hn⟩
  | p :: r, s, hg, hf, n, hn => by
    have hb : ∀ k v, (scpBind s.m.scope k v).2.length = n := by
      intro k v
      rw [← hn]
      unfold scpBind
      split
      · rename_i h; rw [h]
      · rename_i m r h
        rw [h]
        split
        · rfl
        · split
          · rfl
          · split <;> rfl
    unfold bindsGo
    generalize (if hasPre p.1 wXmlnsC = true then trimPre p.1 wXmlnsC else sEmp) = k
    split
    · exact bindsGo_law r s hg hf n hn
    · split
      · refine (bindsGo_law r ⟨{ s.m with scope := (scpBind s.m.scope k p.2).2 }, s.c⟩ ⟨hg.st, hg.ok⟩ hf n (hb k p.2)).mono fun s' _ q => ?_
        obtain ⟨q1, q2, q3⟩ := q
        exact ⟨q1, by rw [q2], q3⟩
      · split
        · exact AR.err (by decide) hf ⟨⟨_, hg.st⟩, hg.ok⟩
        · rename_i h1 h2
          exact AR.err h1 hf ⟨⟨_, hg.st⟩, hg.ok⟩
theorem binds_law {s : OS Ang} (hg : AGood right s) (hs : s.m.scope.length < 900000) : AR right s (fun s' => s'.c = s.c ∧ s'.m = { s.m with scope := s'.m.scope } ∧ s'.m.scope.length = s.m.scope.length + 1) (angBinds s) := by
  unfold angBinds
  rw [if_neg (by omega)]
  exact (bindsGo_law (s0 := s) s.m.pairs ⟨{ s.m with scope := [] :: s.m.scope }, s.c⟩ ⟨hg.st, hg.ok⟩ ⟨rfl, rfl, rfl, rfl, rfl, rfl⟩ _ rfl).mono fun s' _ q => ⟨q.1, by rw [q.2.1], by rw [q.2.2]; rfl⟩
/-- attributes are told -/
theorem opensGo_law {s0 : OS Ang} : ∀ (l : List (ByteArray × ByteArray)) (e : Int) (s : OS Ang), (∀ p ∈ l, p.2.size ≤ 48) → AHalf right s → (e = 0 → AGood right s) → aql s + l.length < 4294967296 → AFr s0 s →
    AR right s0 (fun s' => e = 0 ∧ s'.m = { s.m with chk := s'.m.chk } ∧ aql s' ≤ aql s + l.length ∧ adp s' = adp s ∧ (s.m.chk.over = true → s'.m.chk.over = true)) (opensGo right l e s)
  | [], e, s, _, hh, hg, _, hf => ⟨hf, hh, fun h0 => ⟨hg h0, h0, rfl, Nat.le_refl _, rfl, id⟩⟩
  | p :: r, e, s, hl, hh, hg, hq, hf => by
    simp only [List.length_cons] at hq
    unfold opensGo
    by_cases he : e ≠ 0
    · rw [if_pos he]
      exact ⟨hf, hh, fun h0 => absurd h0 he⟩
    rw [if_neg he]
    have he : e = 0 := by simpa using he
    have hl2 : ∀ p ∈ r, p.2.size ≤ 48 := fun p hp => hl p (List.mem_cons_of_mem _ hp)
    split
    · refine (opensGo_law r e s hl2 hh hg (by omega) hf).mono fun s' _ q => ⟨he, q.2.1, by simp only [List.length_cons]; omega, q.2.2.2⟩
    · split
      · have hsz := angFull_size s.m.scope p.1 true
        have hp := hl p (List.mem_cons_self ..)
        have hx : okE ⟨11, (angFull s.m.scope p.1 true).1, p.2⟩ := ⟨by simp only; omega, by simp only; omega, fun _ => by simp only; omega, trivial⟩
        have h1 := event_law (hg he) hx (by omega)
        generalize angEvent right ⟨11, (angFull s.m.scope p.1 true).1, p.2⟩ s = y at h1 ⊢
        cases y with
        | none => exact h1
        | some y =>
          obtain ⟨e2, s2⟩ := y
          obtain ⟨f1, k1, g1⟩ := h1
          simp only
          by_cases he2 : e2 = 0
          · obtain ⟨g2, m2, q2, d2, o2, -⟩ := g1 he2
            refine (opensGo_law r e2 s2 hl2 k1 (fun _ => g2) (by omega) (hf.trans f1)).mono fun s' _ q => ?_
            obtain ⟨-, q1, q3, q4, q5⟩ := q
            have d2 : adp s2 = adp s := d2
            refine ⟨he, by rw [q1, m2], by simp only [List.length_cons]; omega, by omega, fun h => q5 (o2 h)⟩
          · have h0 : ∀ l : List (ByteArray × ByteArray), opensGo right l e2 s2 = some (e2, s2) := by
              intro l; cases l with
              | nil => rfl
              | cons a b => unfold opensGo; rw [if_pos he2]
            rw [h0]
            exact AR.err he2 (hf.trans f1) k1
      · rename_i hne
        have h0 : ∀ l : List (ByteArray × ByteArray), opensGo right l (angFull s.m.scope p.1 true).2 s = some ((angFull s.m.scope p.1 true).2, s) := by
          intro l; cases l with
          | nil => rfl
          | cons a b => unfold opensGo; rw [if_pos hne]
        rw [h0]
        exact AR.err hne hf hh
theorem opens_law {s : OS Ang} (hg : AGood right s) (hs : s.m.scope.length < 900000) (ho : s.m.opn ≠ []) (hp : ∀ p ∈ s.m.pairs, p.2.size ≤ 48) (hq : aql s + s.m.pairs.length + 10 < 4294967296) :
    AR right s (fun s' => s'.m = { s.m with text := sEmp, scope := s'.m.scope, chk := s'.m.chk } ∧ s'.m.scope.length = s.m.scope.length + 1 ∧ aql s' ≤ aql s + s.m.pairs.length + 1 ∧ adp s' = adp s + 1 ∧ (s.m.chk.over = true → s'.m.chk.over = true) ∧ (adp s = 0 → s'.m.chk.over = true)) (angOpens right s) := by
  unfold angOpens
  have h1 := binds_law (right := right) (s := ⟨{ s.m with text := sEmp }, s.c⟩) ⟨hg.st, hg.ok⟩ hs
  generalize angBinds ⟨{ s.m with text := sEmp }, s.c⟩ = y at h1 ⊢
  cases y with
  | none => exact h1
  | some y =>
    obtain ⟨e, s1⟩ := y
    obtain ⟨f1, k1, g1⟩ := h1
    have f1 : AFr s s1 := f1
    simp only
    by_cases he : e ≠ 0
    · rw [if_pos he]; exact AR.err he f1 k1
    rw [if_neg he]
    obtain ⟨g2, c2, m2, l2⟩ := g1 (by simpa using he)
    have m2 : s1.m = { s.m with text := sEmp, scope := s1.m.scope } := m2
    have l2 : s1.m.scope.length = s.m.scope.length + 1 := l2
    have c2 : s1.c = s.c := c2
    have hop : s1.m.opn = s.m.opn := by rw [m2]
    have hpr : s1.m.pairs = s.m.pairs := by rw [m2]
    have hck : s1.m.chk = s.m.chk := by rw [m2]
    rw [hop]
    cases ht : s.m.opn.getLast? with
    | none => exact absurd (List.getLast?_eq_none_iff.1 ht) ho
    | some t =>
      simp only [opensT]
      have hq1 : aql s1 = aql s := by simp only [aql, c2]
      have hd1 : adp s1 = adp s := by simp only [adp, hck]
      by_cases hfu : (angFull s1.m.scope t false).2 = 0
      · rw [if_pos hfu]
        have hsz := angFull_size s1.m.scope t false
        have hx : okE ⟨10, (angFull s1.m.scope t false).1, sEmp⟩ := ⟨by simp only; omega, Nat.le_of_ble_eq_true rfl, fun _ => by simp only; omega, trivial⟩
        have h3 := event_law g2 hx (by omega)
        generalize angEvent right ⟨10, (angFull s1.m.scope t false).1, sEmp⟩ s1 = y at h3 ⊢
        cases y with
        | none => exact h3
        | some y =>
          obtain ⟨e2, s2⟩ := y
          obtain ⟨f3, k3, g3⟩ := h3
          simp only
          by_cases he2 : e2 = 0
          · obtain ⟨g4, m4, q4, d4, o4, p4⟩ := g3 he2
            have hpr2 : s2.m.pairs = s.m.pairs := by rw [m4]; exact hpr
            have d4 : adp s2 = adp s1 + 1 := d4
            rw [hpr2]
            refine (opensGo_law s.m.pairs e2 s2 hp k3 (fun _ => g4) (by omega) (f1.trans f3)).mono fun s' _ q => ?_
            obtain ⟨-, q1, q2, q3, q5⟩ := q
            have hsc : s'.m.scope = s1.m.scope := by rw [q1, m4]
            refine ⟨?_, by rw [hsc, l2], by omega, by omega, fun h => q5 (o4 (by rw [hck]; exact h)), fun h => q5 (p4 rfl (by omega))⟩
            rw [hsc, q1, m4, m2]
          · have h0 : ∀ l : List (ByteArray × ByteArray), opensGo right l e2 s2 = some (e2, s2) := by
              intro l; cases l with
              | nil => rfl
              | cons a b => unfold opensGo; rw [if_pos he2]
            rw [h0]
            exact AR.err he2 (f1.trans f3) k3
      · rw [if_neg hfu]
        have h0 : ∀ l : List (ByteArray × ByteArray), opensGo right l (angFull s1.m.scope t false).2 s1 = some ((angFull s1.m.scope t false).2, s1) := by
          intro l; cases l with
          | nil => rfl
          | cons a b => unfold opensGo; rw [if_pos hfu]
        rw [h0]
        exact AR.err hfu f1 k1
theorem closes_law {s : OS Ang} (hg : AGood right s) (ho : s.m.opn ≠ []) (hq : aql s < 4294967296) :
    AR right s (fun s' => s'.m = { s.m with scope := s.m.scope.tail, opn := s.m.opn.dropLast, state := if s.m.opn.length = 1 then 16 else 12, chk := s'.m.chk } ∧ aql s' = aql s + 1 ∧ adp s' + 1 = adp s ∧ (s.m.chk.over = true → s'.m.chk.over = true)) (angCloses right s) := by
  unfold angCloses
  rw [if_neg ho]
  refine (event_law (s := ⟨{ s.m with scope := s.m.scope.tail, opn := s.m.opn.dropLast, state := if s.m.opn.length = 1 then 16 else 12 }, s.c⟩) ⟨hg.st, hg.ok⟩ (okE0 12 (by decide) (by decide)) hq).mono fun s' _ q => ⟨q.1, q.2.1, q.2.2.1, q.2.2.2.1⟩
 end
end Hx
/- The plain law of a step of angle's machine. -/
namespace Hx
open Go Sx Go.Proofs
set_option maxRecDepth 100000
set_option maxHeartbeats 4000000
set_option linter.unusedVariables false
set_option linter.unusedSimpArgs false
variable {GOk : Gl → Prop}
section
variable {right : Ev → Bool}
/-- is an element's tag not told yet? -/
def pendN (m : Ang) : Nat :=
  if m.state = 7 ∨ m.state = 8 ∨ m.state = 9 then 1
  else if m.state = 10 then (if m.back = 9 then 1 else 0)
  else if m.state = 15 then (if bitI .shr .i64 m.back 8 = 10 ∧ bitI .and .i64 m.back 255 = 9 then 1 else 0)
  else 0
def RefOk (back : Int) : Prop := ∃ st b, (st = 10 ∧ (b = 4 ∨ b = 9) ∨ st = 12 ∧ (b = 0 ∨ b = 4 ∨ b = 9)) ∧ bitI .shr .i64 back 8 = st ∧ bitI .and .i64 back 255 = b
structure AL (i io : Nat) (s : OS Ang) : Prop where
  dep : s.m.opn.length = adp s + pendN s.m
  ne : s.m.state = 11 ∨ s.m.state = 13 ∨ s.m.state = 14 → s.m.opn ≠ []
  rs : s.m.state = 2 → s.m.rest.size ≠ 0
  ov : adp s ≠ 0 → s.m.chk.over = true
  dn : s.m.state = 16 → s.m.opn = [] ∧ s.m.chk.over = true
  bk : s.m.state ≠ 15 → s.m.back = 0 ∨ s.m.back = 4 ∨ s.m.back = 9
  raw : s.m.state = 10 → s.m.back = 4 ∨ s.m.back = 9
  rf : s.m.state = 15 → RefOk s.m.back
  txt : s.m.text.size ≤ 48
  prs : ∀ p ∈ s.m.pairs, p.2.size ≤ 48
  b1 : s.m.scope.length ≤ i
  b2 : s.m.opn.length ≤ io
  b3 : s.m.pairs.length ≤ i
  b4 : s.m.token.size ≤ 5 * i
  b5 : aql s ≤ 1000 * i
theorem AL.mono {i io j jo : Nat} {s : OS Ang} (h : AL i io s) (h1 : i ≤ j) (h2 : io ≤ jo) : AL j jo s :=
  ⟨h.dep, h.ne, h.rs, h.ov, h.dn, h.bk, h.raw, h.rf, h.txt, h.prs, Nat.le_trans h.b1 h1, Nat.le_trans h.b2 h2, Nat.le_trans h.b3 h1, Nat.le_trans h.b4 (Nat.mul_le_mul_left _ h1), Nat.le_trans h.b5 (Nat.mul_le_mul_left _ h1)⟩
abbrev fr0 {s : OS Ang} {m : Ang} : AFr s ⟨m, s.c⟩ := ⟨rfl, rfl, rfl, rfl, rfl, rfl⟩
theorem begins_law {i : Nat} {s : OS Ang} (x : UInt8) (hg : AGood right s) (h : AL i i s) : AR right s (AL (i + 1) (i + 1)) (angBegins x s) := by
  have h1 := h.mono (Nat.le_succ i) (Nat.le_succ i)
  unfold angBegins
  split
  · exact AR.ok (AFr.refl _) hg h1
  · split
    · rename_i hb
      have hs := hb.2
      have hd := h1.dep
      simp [pendN, hs] at hd
      exact AR.ok fr0 ⟨hg.st, hg.ok⟩ ⟨by simpa [pendN] using hd, by simp, by simp, h1.ov, by simp, fun _ => h1.bk (by rw [hs]; decide), by simp, by simp, h1.txt, h1.prs, h1.b1, h1.b2, h1.b3, h1.b4, h1.b5⟩
    · exact AR.err (by decide) (AFr.refl _) hg.half
theorem sEmp_size {r : ByteArray} (h : r ≠ sEmp) : r.size ≠ 0 := by
  intro e
  apply h
  cases r
  simp only [sEmp, ByteArray.mk.injEq]
  exact Array.eq_empty_of_size_eq_zero e
theorem defines_law {i : Nat} {s : OS Ang} (x : UInt8) (hg : AGood right s) (h : AL i i s) (hs : s.m.state = 2) : AR right s (AL (i + 1) (i + 1)) (angDefines x s) := by
  have h1 := h.mono (Nat.le_succ i) (Nat.le_succ i)
  have hd := h1.dep
  simp [pendN, hs] at hd
  unfold angDefines
  rw [if_neg (h.rs hs)]
  split
  · exact AR.err (by decide) (AFr.refl _) hg.half
  · split
    · exact AR.ok fr0 ⟨hg.st, hg.ok⟩ ⟨by simpa [pendN] using hd, by simp, by simp, h1.ov, by simp, fun _ => h1.bk (by rw [hs]; decide), by simp, by simp, h1.txt, h1.prs, h1.b1, h1.b2, h1.b3, Nat.zero_le _, h1.b5⟩
    · rename_i hn
      exact AR.ok fr0 ⟨hg.st, hg.ok⟩ ⟨by simpa [pendN, hs] using hd, by simp [hs], fun _ => sEmp_size hn, h1.ov, by simp [hs], fun _ => h1.bk (by rw [hs]; decide), by simp [hs], by simp [hs], h1.txt, h1.prs, h1.b1, h1.b2, h1.b3, h1.b4, h1.b5⟩
theorem quotes_law {i : Nat} {s : OS Ang} (x : UInt8) (hg : AGood right s) (h : AL i i s) (hs : s.m.state = 4 ∨ s.m.state = 9) : AR right s (AL (i + 1) (i + 1)) (angQuotes x s) := by
  have h1 := h.mono (Nat.le_succ i) (Nat.le_succ i)
  have hd := h1.dep
  unfold angQuotes
  split
  · exact AR.err (by decide) (AFr.refl _) hg.half
  · rcases hs with hs | hs
    · simp [pendN, hs] at hd
      exact AR.ok fr0 ⟨hg.st, hg.ok⟩ ⟨by simpa [pendN, hs] using hd, by simp, by simp, h1.ov, by simp, fun _ => .inr (.inl hs), fun _ => .inl hs, by simp, Nat.zero_le _, h1.prs, h1.b1, h1.b2, h1.b3, h1.b4, h1.b5⟩
    · simp [pendN, hs] at hd
      exact AR.ok fr0 ⟨hg.st, hg.ok⟩ ⟨by simpa [pendN, hs] using hd, by simp, by simp, h1.ov, by simp, fun _ => .inr (.inr hs), fun _ => .inr hs, by simp, Nat.zero_le _, h1.prs, h1.b1, h1.b2, h1.b3, h1.b4, h1.b5⟩
/-- text is put behind: the same machine else -/
theorem adds_law {i io : Nat} {s : OS Ang} {s0 : OS Ang} (t : ByteArray) (hg : AGood right s) (h : AL i io s) (hf : AFr s0 s) : AR right s0 (AL i io) (angAdds t s) := by
  unfold angAdds
  split
  · exact AR.err (by decide) hf hg.half
  · rename_i hn
    exact AR.ok hf ⟨hg.st, hg.ok⟩ ⟨h.dep, h.ne, h.rs, h.ov, h.dn, h.bk, h.raw, h.rf, by simp only; rw [ByteArray.size_append]; omega, h.prs, h.b1, h.b2, h.b3, h.b4, h.b5⟩
theorem defined_law {i : Nat} {s : OS Ang} (x : UInt8) (hg : AGood right s) (h : AL i i s) (hs : s.m.state = 5) : AR right s (AL (i + 1) (i + 1)) (angDefined x s) := by
  have h1 := h.mono (Nat.le_succ i) (Nat.le_succ i)
  have hd := h1.dep
  simp [pendN, hs] at hd
  unfold angDefined
  split
  · exact AR.ok (AFr.refl _) hg h1
  · split
    · exact AR.err (by decide) (AFr.refl _) hg.half
    · exact AR.ok fr0 ⟨hg.st, hg.ok⟩ ⟨by simpa [pendN] using hd, by simp, by simp, h1.ov, by simp, fun _ => h1.bk (by rw [hs]; decide), by simp, by simp, Nat.zero_le _, h1.prs, h1.b1, h1.b2, h1.b3, h1.b4, h1.b5⟩
def nbOf (st b : Int) : Int := bitI .or .i64 (bitI .shl .i64 st 8) (bitI .and .i64 b 255)
theorem nb_ok : (bitI .shr .i64 (nbOf 10 4) 8 = 10 ∧ bitI .and .i64 (nbOf 10 4) 255 = 4) ∧ (bitI .shr .i64 (nbOf 10 9) 8 = 10 ∧ bitI .and .i64 (nbOf 10 9) 255 = 9) ∧
    (bitI .shr .i64 (nbOf 12 0) 8 = 12 ∧ bitI .and .i64 (nbOf 12 0) 255 = 0) ∧ (bitI .shr .i64 (nbOf 12 4) 8 = 12 ∧ bitI .and .i64 (nbOf 12 4) 255 = 4) ∧ (bitI .shr .i64 (nbOf 12 9) 8 = 12 ∧ bitI .and .i64 (nbOf 12 9) 255 = 9) := by decide +kernel
theorem quoted_law {i : Nat} {s : OS Ang} (hg : AGood right s) (h : AL i i s) (hi : i ≤ 600) (hs : s.m.state = 10) : AR right s (AL (i + 1) (i + 1)) (angQuoted s) := by
  have h1 := h.mono (Nat.le_succ i) (Nat.le_succ i)
  have hd := h1.dep
  have hraw := h.raw hs
  unfold angQuoted
  split
  · rename_i hb
    simp [pendN, hs, hb] at hd
    exact AR.ok fr0 ⟨hg.st, hg.ok⟩ ⟨by simpa [pendN] using hd, by simp, by simp, h1.ov, by simp, fun _ => h1.bk (by rw [hs]; decide), by simp, by simp, h1.txt, h1.prs, h1.b1, h1.b2, h1.b3, h1.b4, h1.b5⟩
  · rename_i hb
    have hb9 : s.m.back = 9 := hraw.elim (fun e => absurd e hb) id
    simp [pendN, hs, hb9] at hd
    have hb3 := h.b3
    rw [if_neg (by omega)]
    exact AR.ok fr0 ⟨hg.st, hg.ok⟩ ⟨by simpa [pendN] using hd, by simp, by simp, h1.ov, by simp, fun _ => h1.bk (by rw [hs]; decide), by simp, by simp, h1.txt, fun p hp => (List.mem_append.1 hp).elim (h1.prs p) (fun e => by rw [List.mem_singleton.1 e]; exact h1.txt), h1.b1, h1.b2, by simp only [List.length_append, List.length_singleton]; omega, h1.b4, h1.b5⟩
theorem texts_law {i : Nat} {s : OS Ang} (hg : AGood right s) (h : AL i i s) (hi : i ≤ 600) (hs : s.m.state = 1) : AR right s (AL (i + 1) (i + 1)) (angTexts right s) := by
  have h1 := h.mono (Nat.le_succ i) (Nat.le_succ i)
  have hd := h1.dep
  have hb5 := h.b5
  simp [pendN, hs] at hd
  unfold angTexts
  split
  · exact AR.ok fr0 ⟨hg.st, hg.ok⟩ ⟨by simpa [pendN, hs] using hd, by simp [hs], by simp [hs], h1.ov, by simp [hs], fun _ => h1.bk (by rw [hs]; decide), by simp [hs], by simp [hs], Nat.zero_le _, h1.prs, h1.b1, h1.b2, h1.b3, h1.b4, h1.b5⟩
  · have hx : okE ⟨4, s.m.text, sEmp⟩ := ⟨by have := h.txt; simp only; omega, Nat.le_of_ble_eq_true rfl, fun h => by simp at h, trivial⟩
    refine ((event_law (s := ⟨{ s.m with text := sEmp }, s.c⟩) ⟨hg.st, hg.ok⟩ hx (by simp only [aql] at hb5 ⊢; omega)).cast (s0 := s) fr0).mono fun s' _ q => ?_
    obtain ⟨q1, q2, q3, q4, -⟩ := q
    have q3 : adp s' = adp s := q3
    have q2 : aql s' = aql s + 1 := q2
    have e1 : s'.m.state = 1 := by rw [q1]; exact hs
    have e2 : s'.m.opn = s.m.opn := by rw [q1]
    have e3 : s'.m.back = s.m.back := by rw [q1]
    have e4 : s'.m.pairs = s.m.pairs := by rw [q1]
    have e5 : s'.m.scope = s.m.scope := by rw [q1]
    have e6 : s'.m.token = s.m.token := by rw [q1]
    have e7 : s'.m.text = sEmp := by rw [q1]
    exact ⟨by rw [e2, q3, hd]; simp [pendN, e1], by simp [e1], by simp [e1], fun hn => q4 (h.ov (by omega)), by simp [e1], fun _ => by rw [e3]; exact h1.bk (by rw [hs]; decide), by simp [e1], by simp [e1], by rw [e7]; decide, by rw [e4]; exact h.prs, by rw [e5]; exact h1.b1, by rw [e2]; exact h1.b2, by rw [e4]; exact h1.b3, by rw [e6]; exact h1.b4, by omega⟩
theorem says_law {i : Nat} {s : OS Ang} (x : UInt8) (hg : AGood right s) (h : AL i i s) (hi : i ≤ 600) (hs : s.m.state = 10 ∨ s.m.state = 12) : AR right s (AL (i + 1) (i + 1)) (angSays right x s) := by
  have h1 := h.mono (Nat.le_succ i) (Nat.le_succ i)
  have hd := h1.dep
  obtain ⟨n1, n2, n3, n4, n5⟩ := nb_ok
  unfold angSays
  split
  · have hnb : bitI .or .i64 (bitI .shl .i64 s.m.state 8) (bitI .and .i64 s.m.back 255) = nbOf s.m.state s.m.back := rfl
    rw [hnb]
    have key : RefOk (nbOf s.m.state s.m.back) ∧ (if bitI .shr .i64 (nbOf s.m.state s.m.back) 8 = 10 ∧ bitI .and .i64 (nbOf s.m.state s.m.back) 255 = 9 then 1 else 0) = pendN s.m := by
      rcases hs with hs | hs
      · rcases h.raw hs with hb | hb
        · rw [hs, hb]
          refine ⟨⟨10, 4, .inl ⟨rfl, .inl rfl⟩, n1.1, n1.2⟩, ?_⟩
          rw [n1.1, n1.2]; simp [pendN, hs, hb]
        · rw [hs, hb]
          refine ⟨⟨10, 9, .inl ⟨rfl, .inr rfl⟩, n2.1, n2.2⟩, ?_⟩
          rw [n2.1, n2.2]; simp [pendN, hs, hb]
      · rcases h.bk (by rw [hs]; decide) with hb | hb | hb
        · rw [hs, hb]
          refine ⟨⟨12, 0, .inr ⟨rfl, .inl rfl⟩, n3.1, n3.2⟩, ?_⟩
          rw [n3.1, n3.2]; simp [pendN, hs]
        · rw [hs, hb]
          refine ⟨⟨12, 4, .inr ⟨rfl, .inr (.inl rfl)⟩, n4.1, n4.2⟩, ?_⟩
          rw [n4.1, n4.2]; simp [pendN, hs]
        · rw [hs, hb]
          refine ⟨⟨12, 9, .inr ⟨rfl, .inr (.inr rfl)⟩, n5.1, n5.2⟩, ?_⟩
          rw [n5.1, n5.2]; simp [pendN, hs]
    exact AR.ok fr0 ⟨hg.st, hg.ok⟩ ⟨by
      have e : pendN { s.m with back := nbOf s.m.state s.m.back, state := 15, rest := sEmp } = pendN s.m := by rw [← key.2]; simp [pendN]
      rw [e]; exact hd, by simp, by simp, h1.ov, by simp, by simp, by simp, fun _ => key.1, h1.txt, h1.prs, h1.b1, h1.b2, h1.b3, h1.b4, h1.b5⟩
  · split
    · rename_i hq; exact quoted_law hg h hi hq.1
    · split
      · rename_i hq
        have hs := hq.1
        simp [pendN, hs] at hd
        refine (texts_law (s := ⟨{ s.m with state := 1 }, s.c⟩) ⟨hg.st, hg.ok⟩ ?_ hi rfl).cast fr0
        exact ⟨by simpa [pendN] using hd, by simp, by simp, h.ov, by simp, fun _ => h.bk (by rw [hs]; decide), by simp, by simp, h.txt, h.prs, h.b1, h.b2, h.b3, h.b4, h.b5⟩
      · split
        · exact AR.err (by decide) (AFr.refl _) hg.half
        · exact adds_law _ hg h1 (AFr.refl _)
theorem refers_law {i : Nat} {s : OS Ang} (x : UInt8) (hg : AGood right s) (h : AL i i s) (hs : s.m.state = 15) : AR right s (AL (i + 1) (i + 1)) (angRefers x s) := by
  have h1 := h.mono (Nat.le_succ i) (Nat.le_succ i)
  have hd := h1.dep
  obtain ⟨st, b, hsb, e1, e2⟩ := h.rf hs
  unfold angRefers
  split
  · split
    · exact AR.err (by decide) (AFr.refl _) hg.half
    · exact AR.ok fr0 ⟨hg.st, hg.ok⟩ ⟨by simpa [pendN, hs] using hd, by simp [hs], by simp [hs], h1.ov, by simp [hs], by simp [hs], by simp [hs], fun _ => h.rf hs, h1.txt, h1.prs, h1.b1, h1.b2, h1.b3, h1.b4, h1.b5⟩
  · split
    · rename_i he
      exact AR.err he fr0 ⟨⟨_, hg.st⟩, hg.ok⟩
    · refine adds_law _ (s := ⟨_, s.c⟩) ⟨hg.st, hg.ok⟩ ?_ fr0
      rw [e1, e2]
      simp only [pendN, hs, e1, e2] at hd
      rcases hsb with ⟨rfl, hb⟩ | ⟨rfl, hb⟩
      · exact ⟨by simpa [pendN] using hd, by simp, by simp, h1.ov, by simp, fun _ => .inr hb, fun _ => hb, by simp, h1.txt, h1.prs, h1.b1, h1.b2, h1.b3, h1.b4, h1.b5⟩
      · exact ⟨by simpa [pendN] using hd, by simp, by simp, h1.ov, by simp, fun _ => hb, by simp, by simp, h1.txt, h1.prs, h1.b1, h1.b2, h1.b3, h1.b4, h1.b5⟩
theorem closes_st {i : Nat} {s : OS Ang} (hg : AGood right s) (hi : i ≤ 600) (h : AL i i s) (hs : s.m.state = 11 ∨ s.m.state = 14) : AR right s (AL (i + 1) (i + 1)) (angCloses right s) := by
  have h1 := h.mono (Nat.le_succ i) (Nat.le_succ i)
  have hd := h1.dep
  have hb5 := h.b5
  have ho : s.m.opn ≠ [] := h.ne (hs.elim .inl (fun e => .inr (.inr e)))
  have hp : pendN s.m = 0 := by rcases hs with e | e <;> simp [pendN, e]
  have hbk := h1.bk (by rcases hs with e | e <;> rw [e] <;> decide)
  rw [hp] at hd
  have hlen : 0 < s.m.opn.length := List.length_pos_iff.2 ho
  refine (closes_law hg ho (by omega)).mono fun s' _ q => ?_
  obtain ⟨q1, q2, q3, q4⟩ := q
  have hov := q4 (h.ov (by omega))
  have f1 : s'.m.state = if s.m.opn.length = 1 then 16 else 12 := by rw [q1]
  have f2 : s'.m.opn = s.m.opn.dropLast := by rw [q1]
  have f3 : s'.m.back = s.m.back := by rw [q1]
  have f4 : s'.m.pairs = s.m.pairs := by rw [q1]
  have f5 : s'.m.scope = s.m.scope.tail := by rw [q1]
  have f6 : s'.m.token = s.m.token := by rw [q1]
  have f7 : s'.m.text = s.m.text := by rw [q1]
  have hb1 := h.b1; have hb2 := h.b2
  have hst : s'.m.state = 16 ∨ s'.m.state = 12 := by rw [f1]; split <;> simp
  have hp2 : pendN s'.m = 0 := by rcases hst with e | e <;> simp [pendN, e]
  refine ⟨by rw [hp2, f2, List.length_dropLast]; omega, fun e => ?_, fun e => ?_, fun _ => hov, fun e => ⟨?_, hov⟩, fun _ => by rw [f3]; exact hbk, fun e => ?_, fun e => ?_, by rw [f7]; exact h.txt, by rw [f4]; exact h.prs, by rw [f5, List.length_tail]; omega, by rw [f2, List.length_dropLast]; omega, by rw [f4]; exact h1.b3, by rw [f6]; exact h1.b4, by omega⟩
  · rcases hst with g | g <;> rw [g] at e <;> simp at e
  · rcases hst with g | g <;> rw [g] at e <;> simp at e
  · rw [f1] at e
    split at e
    · rename_i hl
      exact List.eq_nil_of_length_eq_zero (by rw [f2, List.length_dropLast]; omega)
    · simp at e
  · rcases hst with g | g <;> rw [g] at e <;> simp at e
  · rcases hst with g | g <;> rw [g] at e <;> simp at e
theorem alone_law {i : Nat} {s : OS Ang} (x : UInt8) (hg : AGood right s) (hi : i ≤ 600) (h : AL i i s) (hs : s.m.state = 11) : AR right s (AL (i + 1) (i + 1)) (angAlone right x s) := by
  unfold angAlone
  split
  · exact AR.err (by decide) (AFr.refl _) hg.half
  · exact closes_st hg hi h (.inl hs)
theorem ends_law {i : Nat} {s : OS Ang} (x : UInt8) (hg : AGood right s) (hi : i ≤ 600) (h : AL i i s) (hs : s.m.state = 14) : AR right s (AL (i + 1) (i + 1)) (angEnds right x s) := by
  have ho : s.m.opn ≠ [] := h.ne (.inr (.inr hs))
  unfold angEnds
  split
  · exact AR.ok (AFr.refl _) hg (h.mono (Nat.le_succ i) (Nat.le_succ i))
  · split
    · exact AR.err (by decide) (AFr.refl _) hg.half
    · cases ht : s.m.opn.getLast? with
      | none => exact absurd (List.getLast?_eq_none_iff.1 ht) ho
      | some t =>
        simp only
        split
        · exact AR.err (by decide) (AFr.refl _) hg.half
        · exact closes_st hg hi h (.inr hs)
 end
end Hx
/- The plain law of angle: a step, the whole text. -/
namespace Hx
open Go Sx Go.Proofs
set_option maxRecDepth 100000
set_option maxHeartbeats 4000000
set_option linter.unusedVariables false
set_option linter.unusedSimpArgs false
variable {GOk : Gl → Prop}
section
variable {right : Ev → Bool}
theorem opens_st {i io : Nat} {s : OS Ang} (hg : AGood right s) (hi : i ≤ 600) (hio : io ≤ i + 1) (h : AL i io s) (hs : s.m.state = 7) (k : Int) (hk : k = 11 ∨ k = 12) :
    AR right s (AL (i + 1) (i + 1)) (angOpens right ⟨{ s.m with state := k }, s.c⟩) := by
  have hd := h.dep
  simp [pendN, hs] at hd
  have hb1 := h.b1; have hb2 := h.b2; have hb3 := h.b3; have hb4 := h.b4; have hb5 := h.b5
  have ho : s.m.opn ≠ [] := by intro e; rw [e] at hd; simp at hd
  refine ((opens_law (s := ⟨{ s.m with state := k }, s.c⟩) ⟨hg.st, hg.ok⟩ (by simp only; omega) ho h.prs (by simp only [aql] at hb5 ⊢; omega)).cast (s0 := s) fr0).mono fun s' _ q => ?_
  obtain ⟨q1, q2, q3, q4, q5, q6⟩ := q
  have q2 : s'.m.scope.length = s.m.scope.length + 1 := q2
  have q3 : aql s' ≤ aql s + s.m.pairs.length + 1 := q3
  have q4 : adp s' = adp s + 1 := q4
  have f1 : s'.m.state = k := by rw [q1]
  have f2 : s'.m.opn = s.m.opn := by rw [q1]
  have f3 : s'.m.back = s.m.back := by rw [q1]
  have f4 : s'.m.pairs = s.m.pairs := by rw [q1]
  have f6 : s'.m.token = s.m.token := by rw [q1]
  have f7 : s'.m.text = sEmp := by rw [q1]
  have hp2 : pendN s'.m = 0 := by rcases hk with e | e <;> simp [pendN, f1, e]
  have hov : s'.m.chk.over = true := by
    by_cases hz : adp s = 0
    · exact q6 hz
    · exact q5 (h.ov hz)
  refine ⟨by rw [hp2, f2]; omega, fun _ => by rw [f2]; exact ho, fun e => ?_, fun _ => hov, fun e => ?_, fun _ => by rw [f3]; exact h.bk (by rw [hs]; decide), fun e => ?_, fun e => ?_, by rw [f7]; exact Nat.zero_le _, by rw [f4]; exact h.prs, by omega, by rw [f2]; omega, by rw [f4]; omega, by rw [f6]; omega, by omega⟩
  · rw [f1] at e; rcases hk with g | g <;> rw [g] at e <;> simp at e
  · rw [f1] at e; rcases hk with g | g <;> rw [g] at e <;> simp at e
  · rw [f1] at e; rcases hk with g | g <;> rw [g] at e <;> simp at e
  · rw [f1] at e; rcases hk with g | g <;> rw [g] at e <;> simp at e
/-- a name goes on; what comes behind a tag's name is told apart -/
theorem named_law {attr : UInt8 → AM} {i io : Nat} {s : OS Ang} (x : UInt8) (hg : AGood right s) (hi : i ≤ 600) (hio : io = i ∨ (io = i + 1 ∧ s.m.state = 8)) (h : AL i io s) (hs : s.m.state = 3 ∨ s.m.state = 6 ∨ s.m.state = 8 ∨ s.m.state = 13)
    (hA : s.m.state = 6 → ∀ s1 : OS Ang, AGood right s1 → AL i (i + 1) s1 → s1.m.state = 7 → AR right s1 (AL (i + 1) (i + 1)) (attr x s1)) :
    AR right s (AL (i + 1) (i + 1)) (angNamed right attr x s) := by
  have h1 := h.mono (jo := i + 1) (Nat.le_succ i) (by omega)
  have hd := h1.dep
  have hbk := h1.bk (by rcases hs with e | e | e | e <;> rw [e] <;> decide)
  have hb1 := h.b1; have hb2 := h.b2; have hb3 := h.b3; have hb4 := h.b4; have hb5 := h.b5
  have hes := encR_size (bOf x)
  have h10 : s.m.state = 10 → False := fun e => by rcases hs with g | g | g | g <;> rw [g] at e <;> simp at e
  have h15 : s.m.state = 15 → False := fun e => by rcases hs with g | g | g | g <;> rw [g] at e <;> simp at e
  have hsame : ∀ t : ByteArray, t.size ≤ 5 * (i + 1) → AL (i + 1) (i + 1) ⟨{ s.m with token := t }, s.c⟩ := fun t ht =>
    ⟨hd, h1.ne, h1.rs, h1.ov, h1.dn, h1.bk, h1.raw, h1.rf, h1.txt, h1.prs, h1.b1, h1.b2, h1.b3, ht, h1.b5⟩
  unfold angNamed
  split
  · split
    · exact AR.err (by decide) (AFr.refl _) hg.half
    · rw [if_neg (by omega)]
      exact AR.ok fr0 ⟨hg.st, hg.ok⟩ (hsame _ (by rw [ByteArray.size_append]; omega))
  · split
    · rw [if_neg (by omega)]
      exact AR.ok fr0 ⟨hg.st, hg.ok⟩ (hsame _ (by rw [ByteArray.size_append]; have : wColon.size = 1 := rfl; omega))
    · split
      · exact AR.err (by decide) (AFr.refl _) hg.half
      · split
        · rename_i e3
          simp [pendN, e3] at hd
          split
          · exact AR.err (by decide) (AFr.refl _) hg.half
          · exact AR.ok fr0 ⟨hg.st, hg.ok⟩ ⟨by simpa [pendN] using hd, by simp, by simp, h1.ov, by simp, fun _ => hbk, by simp, by simp, h1.txt, h1.prs, h1.b1, h1.b2, h1.b3, h1.b4, h1.b5⟩
        · split
          · rename_i e8
            simp [pendN, e8] at hd
            split
            · exact AR.err (by decide) (AFr.refl _) hg.half
            · split
              · exact AR.err (by decide) (AFr.refl _) hg.half
              · exact AR.ok fr0 ⟨hg.st, hg.ok⟩ ⟨by simpa [pendN] using hd, by simp, by simp, h1.ov, by simp, fun _ => hbk, by simp, by simp, h1.txt, h1.prs, h1.b1, h1.b2, h1.b3, h1.b4, h1.b5⟩
          · split
            · rename_i e13
              have hi0 : io = i := hio.elim id (fun e => by rw [e13] at e; simp at e)
              subst hi0
              simp [pendN, e13] at hd
              have ho : s.m.opn ≠ [] := h.ne (.inr (.inl e13))
              refine (ends_law x (s := ⟨{ s.m with state := 14 }, s.c⟩) ⟨hg.st, hg.ok⟩ hi ?_ rfl).cast fr0
              exact ⟨by simpa [pendN] using hd, fun _ => ho, by simp, h.ov, by simp, fun _ => hbk, by simp, by simp, h.txt, h.prs, h.b1, h.b2, h.b3, h.b4, h.b5⟩
            · rename_i n3 n8 n13
              have e6 : s.m.state = 6 := by rcases hs with e | e | e | e <;> simp_all
              have hi0 : io = i := hio.elim id (fun e => by rw [e6] at e; simp at e)
              rw [if_neg (by omega)]
              simp [pendN, e6] at hd
              refine (hA e6 ⟨{ s.m with opn := s.m.opn ++ [s.m.token], pairs := [], state := 7, gap := false }, s.c⟩ ⟨hg.st, hg.ok⟩ ?_ rfl).cast fr0
              exact ⟨by simp [pendN]; exact hd, by simp, by simp, h.ov, by simp, fun _ => hbk, by simp, by simp, h.txt, (fun p hp => nomatch hp), h.b1, by simp only [List.length_append, List.length_singleton]; omega, Nat.zero_le _, h.b4, h.b5⟩
theorem attr_law {i io : Nat} {s : OS Ang} (x : UInt8) (hg : AGood right s) (hi : i ≤ 600) (hio : io = i ∨ io = i + 1) (h : AL i io s) (hs : s.m.state = 7) : AR right s (AL (i + 1) (i + 1)) (angAttr right x s) := by
  have h1 := h.mono (jo := i + 1) (Nat.le_succ i) (by omega)
  have hd := h.dep
  have hbk := h.bk (by rw [hs]; decide)
  simp [pendN, hs] at hd
  unfold angAttr
  split
  · exact AR.ok fr0 ⟨hg.st, hg.ok⟩ ⟨by simpa [pendN, hs] using hd, by simp [hs], by simp [hs], h1.ov, by simp [hs], fun _ => hbk, by simp [hs], by simp [hs], h1.txt, h1.prs, h1.b1, h1.b2, h1.b3, h1.b4, h1.b5⟩
  · split
    · exact opens_st hg hi (by omega) h hs 12 (.inr rfl)
    · split
      · exact opens_st hg hi (by omega) h hs 11 (.inl rfl)
      · split
        · exact AR.err (by decide) (AFr.refl _) hg.half
        · refine (named_law x (attr := fun _ _ => none) (s := ⟨{ s.m with state := 8, token := sEmp }, s.c⟩) ⟨hg.st, hg.ok⟩ hi (hio.elim .inl (fun e => .inr ⟨e, rfl⟩)) ?_ (.inr (.inr (.inl rfl))) (fun e => by simp at e)).cast fr0
          exact ⟨by simpa [pendN] using hd, by simp, by simp, h.ov, by simp, fun _ => hbk, by simp, by simp, h.txt, h.prs, h.b1, h.b2, h.b3, Nat.zero_le _, h.b5⟩
theorem name_law {i : Nat} {s : OS Ang} (x : UInt8) (hg : AGood right s) (hi : i ≤ 600) (h : AL i i s) (hs : s.m.state = 3 ∨ s.m.state = 6 ∨ s.m.state = 8 ∨ s.m.state = 13) : AR right s (AL (i + 1) (i + 1)) (angName right x s) :=
  named_law x hg hi (.inl rfl) h hs (fun _ s1 g1 l1 e1 => attr_law x g1 hi (.inr rfl) l1 e1)
theorem tagged_law {i : Nat} {s : OS Ang} (x : UInt8) (hg : AGood right s) (hi : i ≤ 600) (h : AL i i s) (hs : s.m.state = 1) : AR right s (AL (i + 1) (i + 1)) (angTagged right x s) := by
  have h1 := h.mono (Nat.le_succ i) (Nat.le_succ i)
  have hd := h.dep
  have hbk := h.bk (by rw [hs]; decide)
  simp [pendN, hs] at hd
  unfold angTagged
  split
  · exact AR.ok fr0 ⟨hg.st, hg.ok⟩ ⟨by simpa [pendN] using hd, by simp, fun _ => by show wEntity.size ≠ 0; decide, h1.ov, by simp, fun _ => hbk, by simp, by simp, h1.txt, h1.prs, h1.b1, h1.b2, h1.b3, h1.b4, h1.b5⟩
  · split
    · rename_i hq
      exact AR.ok fr0 ⟨hg.st, hg.ok⟩ ⟨by simpa [pendN] using hd, fun _ => hq.2, by simp, h1.ov, by simp, fun _ => hbk, by simp, by simp, h1.txt, h1.prs, h1.b1, h1.b2, h1.b3, Nat.zero_le _, h1.b5⟩
    · refine (name_law x (s := ⟨{ s.m with state := 6, token := sEmp }, s.c⟩) ⟨hg.st, hg.ok⟩ hi ?_ (.inr (.inl rfl))).cast fr0
      exact ⟨by simpa [pendN] using hd, by simp, by simp, h.ov, by simp, fun _ => hbk, by simp, by simp, h.txt, h.prs, h.b1, h.b2, h.b3, Nat.zero_le _, h.b5⟩
theorem step_law {i : Nat} {s : OS Ang} (x : UInt8) (hg : AGood right s) (hi : i ≤ 600) (h : AL i i s) : AR right s (AL (i + 1) (i + 1)) (angStep right x s) := by
  unfold angStep
  split
  · rename_i e; exact tagged_law x hg hi h e
  · split
    · rename_i e; exact defines_law x hg h e
    · split
      · rename_i e; exact name_law x hg hi h e
      · split
        · rename_i e; exact quotes_law x hg h e
        · split
          · rename_i e; exact defined_law x hg h e
          · split
            · rename_i e; exact attr_law x hg hi (.inl rfl) h e
            · split
              · rename_i e; exact says_law x hg h hi e
              · split
                · rename_i e; exact alone_law x hg hi h e
                · split
                  · rename_i e; exact ends_law x hg hi h e
                  · split
                    · rename_i e; exact refers_law x hg h e
                    · exact begins_law x hg h
abbrev atA : Ang → Option Nat := fun _ => none
structure AInv (right : Ev → Bool) (i : Nat) (s : OS Ang) : Prop where
  good : AGood right s
  lay : AL i i s
  at_ : s.c.at_ = i
  over : s.c.over = false
  err : s.c.err = 0
structure AFin (right : Ev → Bool) (n : Nat) (s : OS Ang) : Prop where
  half : AHalf right s
  err : s.c.err ≠ 0
  over : s.c.over = true
  at_ : s.c.at_ ≤ n
theorem feed_law {n : Nat} (hn6 : n ≤ 600) : ∀ (l : List UInt8) (i : Nat) (s : OS Ang), AInv right i s → s.c.closed = false → i + l.length = n → ∃ s', feedG (angStep right) atA l s = some s' ∧ s'.c.closed = false ∧ (AInv right n s' ∨ AFin right n s')
  | [], i, s, h, hcl, hl => by
    have e : i = n := by simpa using hl
    exact ⟨s, rfl, hcl, .inl (e ▸ h)⟩
  | x :: r, i, s, h, hcl, hl => by
    simp only [List.length_cons] at hl
    simp only [feedG]
    rw [if_neg (by rw [h.over]; decide)]
    generalize scanStep s.c.scan (x.toNat : Nat) = y
    obtain ⟨b, sc⟩ := y
    cases b with
    | false => exact ⟨_, rfl, hcl, .inr ⟨⟨⟨_, h.good.st⟩, h.good.ok⟩, by simp, rfl, by simp only; rw [h.at_]; omega⟩⟩
    | true =>
      simp only
      have hg : AGood right { s with c := { s.c with scan := sc } } := ⟨h.good.st, h.good.ok⟩
      have hL : AL i i { s with c := { s.c with scan := sc } } := ⟨h.lay.dep, h.lay.ne, h.lay.rs, h.lay.ov, h.lay.dn, h.lay.bk, h.lay.raw, h.lay.rf, h.lay.txt, h.lay.prs, h.lay.b1, h.lay.b2, h.lay.b3, h.lay.b4, h.lay.b5⟩
      have hs := step_law x hg (by omega) hL
      generalize angStep right x { s with c := { s.c with scan := sc } } = y at hs ⊢
      cases y with
      | none => exact hs.elim
      | some y =>
        obtain ⟨e, s2⟩ := y
        obtain ⟨⟨-, f2, f3, f4, f5, -⟩, k1, g1⟩ := hs
        have f2 : s2.c.at_ = s.c.at_ := f2
        have f3 : s2.c.closed = s.c.closed := f3
        have f4 : s2.c.over = s.c.over := f4
        have f5 : s2.c.err = s.c.err := f5
        have hat := h.at_
        simp only
        by_cases he : e ≠ 0
        · rw [if_pos he]
          refine ⟨_, rfl, by simp only [metG]; rw [f3]; exact hcl, .inr ⟨⟨k1.st, k1.ok⟩, he, rfl, ?_⟩⟩
          simp only [metG]; rw [if_pos he]; show (none : Option Nat).getD s2.c.at_ ≤ n
          simp only [Option.getD_none]; omega
        · rw [if_neg he, if_neg (by omega)]
          have he : e = 0 := by simpa using he
          obtain ⟨g2, l2⟩ := g1 he
          exact feed_law hn6 r (i + 1) _ ⟨⟨g2.st, g2.ok⟩, ⟨l2.dep, l2.ne, l2.rs, l2.ov, l2.dn, l2.bk, l2.raw, l2.rf, l2.txt, l2.prs, l2.b1, l2.b2, l2.b3, l2.b4, l2.b5⟩, by simp only; omega, f4.trans h.over, f5.trans h.err⟩ (f3.trans hcl) (by omega)
/-- the end of a text of so many bytes -/
structure AAllOk (right : Ev → Bool) (n : Nat) (s : OS Ang) : Prop where
  steps : ∃ c, stepsC right chk0 s.c.queue = some c ∧ (s.c.err = 0 → chkDone c = true)
  ok : QOk s.c.queue
  at_ : s.c.at_ ≤ n
  full : s.c.err = 0 → s.c.at_ = n
theorem close_law {n : Nat} {s : OS Ang} (hc : s.c.closed = false) (h : AInv right n s ∨ AFin right n s) : ∃ s', closeG angEnd atA s = some s' ∧ AAllOk right n s' := by
  rcases h with h | h
  · unfold closeG
    rw [if_neg (by rw [h.over, hc]; simp)]
    by_cases hs : s.c.scan.left ≠ 0
    · rw [if_pos hs]
      exact ⟨_, rfl, ⟨⟨_, h.good.st, fun h => absurd h (by simp)⟩, h.good.ok, by simp only; rw [h.at_]; exact Nat.le_refl _, fun h => absurd h (by simp)⟩⟩
    · rw [if_neg hs]
      unfold angEnd
      have hat := h.at_
      by_cases he : s.m.state ≠ 16
      · rw [if_pos he]
        refine ⟨_, rfl, ⟨⟨_, h.good.st, fun h => absurd h (by simp [metG])⟩, h.good.ok, ?_, fun h => absurd h (by simp [metG])⟩⟩
        simp [metG]; omega
      · rw [if_neg he]
        have he : s.m.state = 16 := by simpa using he
        obtain ⟨d1, d2⟩ := h.lay.dn he
        have hd := h.lay.dep
        simp [pendN, he, d1] at hd
        refine ⟨_, rfl, ⟨⟨_, h.good.st, fun _ => ?_⟩, h.good.ok, ?_, fun _ => ?_⟩⟩
        · unfold chkDone
          have : s.m.chk.opens = [] := by first | exact hd | exact List.eq_nil_of_length_eq_zero (by simp only [adp] at hd; omega)
          rw [d2, this]; rfl
        · simp [metG]; omega
        · simp [metG]; exact hat
  · unfold closeG
    rw [if_pos (by rw [h.over]; simp)]
    obtain ⟨c, hc⟩ := h.half.st
    exact ⟨_, rfl, ⟨⟨c, hc, fun he => absurd he h.err⟩, h.half.ok, h.at_, fun he => absurd he h.err⟩⟩
theorem ainv0 : AInv right 0 ang0 := ⟨⟨rfl, ⟨(fun x hx => nomatch hx), Nat.zero_le _⟩⟩, ⟨rfl, (fun h => by rcases h with h | h | h <;> exact absurd h (by decide)), (fun h => absurd h (by decide)), (fun h => absurd rfl h), (fun h => absurd h (by decide)), fun _ => .inl rfl, (fun h => absurd h (by decide)), (fun h => absurd h (by decide)), Nat.zero_le _, (fun p hp => nomatch hp), Nat.zero_le _, Nat.zero_le _, Nat.zero_le _, Nat.zero_le _, Nat.zero_le _⟩, rfl, rfl, rfl⟩
theorem aall_law (text : List UInt8) (hl : text.length ≤ 600) : ∃ s, angAllM right text = some s ∧ AAllOk right text.length s := by
  obtain ⟨s1, h1, h2, h3⟩ := feed_law (right := right) hl text 0 ang0 ainv0 rfl (by omega)
  obtain ⟨s2, h4, h5⟩ := close_law h2 h3
  exact ⟨s2, by have h1 : feedG (angStep right) (fun _ => none) text ang0 = some s1 := h1; unfold angAllM allG; rw [h1]; exact h4, h5⟩
 end
end Hx
