/-
  Part of a proof.
-/
import Derived.Orders
import Derived.Laws.Sem
import Derived.Laws.Entries
import Derived.Laws.Small
import Derived.WalkSpells
import Derived.WideLaws
set_option linter.unusedVariables false
set_option linter.unusedSimpArgs false
/- Separate heaps: a small affine separation logic over the blocks of a world. -/
namespace Sx
open Go

abbrev Hp := Nat → Option Obj
abbrev HP := Hp → Prop

def SatR : List HP → (Nat → Prop) → Hp → Prop
  | [], _, _ => True
  | A :: r, U, H => ∃ h, A h ∧ (∀ b o, h b = some o → H b = some o ∧ ¬ U b) ∧ SatR r (fun b => U b ∨ (h b).isSome = true) H

theorem isSome_ex {α : Type} {x : Option α} (h : x.isSome = true) : ∃ o, x = some o := Option.isSome_iff_exists.1 h

theorem SatR.mono : ∀ {Ps : List HP} {U V : Nat → Prop} {h H : Hp}, SatR Ps U h →
    (∀ b o, h b = some o → ¬ U b → H b = some o ∧ ¬ V b) → SatR Ps V H
  | [], _, _, _, _, _, _ => trivial
  | A :: r, U, V, h, H, ⟨h1, a, s, t⟩, f => by
    refine ⟨h1, a, fun b o e => f b o (s b o e).1 (s b o e).2, ?_⟩
    refine SatR.mono t fun b o e n => ?_
    have n1 : ¬ U b := fun x => n (.inl x)
    have n2 : ¬ (h1 b).isSome = true := fun x => n (.inr x)
    exact ⟨(f b o e n1).1, fun x => x.elim (f b o e n1).2 n2⟩

theorem SatR.anti {Ps : List HP} {U V : Nat → Prop} {H : Hp} (h : SatR Ps U H) (f : ∀ b, V b → U b) : SatR Ps V H :=
  h.mono fun b _ e n => ⟨e, fun v => n (f b v)⟩

theorem SatR.tail {A : HP} {Ps : List HP} {U : Nat → Prop} {H : Hp} (h : SatR (A :: Ps) U H) : SatR Ps U H :=
  let ⟨_, _, _, t⟩ := h; t.anti fun _ => .inl

theorem SatR.swap {A B : HP} {Ps : List HP} {U : Nat → Prop} {H : Hp} (h : SatR (A :: B :: Ps) U H) : SatR (B :: A :: Ps) U H := by
  obtain ⟨h1, a, s1, h2, b, s2, t⟩ := h
  refine ⟨h2, b, fun c o e => ⟨(s2 c o e).1, fun u => (s2 c o e).2 (.inl u)⟩, h1, a, fun c o e => ⟨(s1 c o e).1, ?_⟩, t.anti ?_⟩
  · rintro (u | u)
    · exact (s1 c o e).2 u
    · obtain ⟨o', e'⟩ := isSome_ex u
      exact (s2 c o' e').2 (.inr (by simp [e]))
  · rintro c ((u | u) | u)
    · exact .inl (.inl u)
    · exact .inr u
    · exact .inl (.inr u)

theorem SatR.cons {A : HP} {Ps Qs : List HP} {U : Nat → Prop} {H : Hp} (f : ∀ V, SatR Ps V H → SatR Qs V H) (h : SatR (A :: Ps) U H) : SatR (A :: Qs) U H :=
  let ⟨h1, a, s, t⟩ := h; ⟨h1, a, s, f _ t⟩

theorem SatR.perm {Ps Qs : List HP} (p : Ps.Perm Qs) : ∀ {U : Nat → Prop} {H : Hp}, SatR Ps U H → SatR Qs U H := by
  induction p with
  | nil => intro U H h; exact h
  | cons A _ ih => intro U H h; exact SatR.cons (fun V t => ih t) h
  | swap A B l => intro U H h; exact h.swap
  | trans _ _ ih1 ih2 => intro U H h; exact ih2 (ih1 h)

theorem SatR.appR : ∀ {Ps Qs : List HP} {U : Nat → Prop} {H : Hp}, SatR (Ps ++ Qs) U H → SatR Qs U H
  | [], _, _, _, h => h
  | _ :: _, _, _, _, h => SatR.appR (SatR.tail h)

theorem SatR.map1 {A B : HP} {Ps : List HP} {U : Nat → Prop} {H : Hp} (f : ∀ h, A h → B h) (h : SatR (A :: Ps) U H) : SatR (B :: Ps) U H :=
  let ⟨h1, a, s, t⟩ := h; ⟨h1, f _ a, s, t⟩

def starL (Ps : List HP) : HP := fun h => SatR Ps (fun _ => False) h
def pts (b : Nat) (o : Obj) : HP := fun h => h b = some o ∧ ∀ c, c ≠ b → h c = none
def exP {α : Type} (f : α → HP) : HP := fun h => ∃ a, f a h
def pureP (p : Prop) : HP := fun _ => p
def anyP : HP := fun _ => True

theorem SatR.flat_aux : ∀ {Qs : List HP} {V : Nat → Prop} {h : Hp}, SatR Qs V h → ∀ {U : Nat → Prop} {H : Hp} {r : List HP},
    (∀ b o, h b = some o → H b = some o ∧ ¬ U b) → SatR r (fun b => U b ∨ (h b).isSome = true) H →
    SatR (Qs ++ r) (fun b => U b ∨ (V b ∧ (h b).isSome = true)) H
  | [], _, _, _, _, _, _, _, t => t.anti fun _ x => x.imp id And.right
  | Q :: Qs, V, h, ⟨h1, q, s1, t1⟩, U, H, r, s, t => by
    refine ⟨h1, q, fun b o e => ⟨(s b o (s1 b o e).1).1, ?_⟩, ?_⟩
    · rintro (u | ⟨v, _⟩)
      · exact (s b o (s1 b o e).1).2 u
      · exact (s1 b o e).2 v
    · refine (SatR.flat_aux t1 s t).anti ?_
      rintro b ((u | ⟨v, d⟩) | d)
      · exact .inl u
      · exact .inr ⟨.inl v, d⟩
      · obtain ⟨o, e⟩ := isSome_ex d
        exact .inr ⟨.inr d, by simp [(s1 b o e).1]⟩

theorem SatR.flat {Qs r : List HP} {U : Nat → Prop} {H : Hp} (h : SatR (starL Qs :: r) U H) : SatR (Qs ++ r) U H := by
  obtain ⟨h1, q, s, t⟩ := h
  exact (SatR.flat_aux q s t).anti fun _ => .inl

theorem SatR.fold_aux : ∀ {Qs r : List HP} {U : Nat → Prop} {H : Hp}, SatR (Qs ++ r) U H →
    ∃ h, starL Qs h ∧ (∀ b o, h b = some o → H b = some o ∧ ¬ U b) ∧ SatR r (fun b => U b ∨ (h b).isSome = true) H
  | [], r, U, H, t => ⟨fun _ => none, trivial, fun _ _ e => by simp at e, t.anti fun _ x => x.elim id (fun y => by simp at y)⟩
  | Q :: Qs, r, U, H, ⟨h1, q, s1, t1⟩ => by
    obtain ⟨h2, q2, s2, t2⟩ := SatR.fold_aux t1
    refine ⟨fun b => (h1 b).or (h2 b), ⟨h1, q, fun b o e => ⟨by simp [e], id⟩, ?_⟩, fun b o e => ?_, t2.anti ?_⟩
    · refine SatR.mono q2 fun b o e _ => ⟨?_, ?_⟩
      · have : h1 b = none := by
          cases hb : h1 b with
          | none => rfl
          | some o' => exact absurd (Or.inr (by simp [hb])) (s2 b o e).2
        simp [this, e]
      · rintro (x | x)
        · exact x
        · exact (s2 b o e).2 (.inr x)
    · cases hb : h1 b with
      | none => simp [hb] at e; exact ⟨(s2 b o e).1, fun u => (s2 b o e).2 (.inl u)⟩
      | some o' => simp [hb] at e; subst e; exact s1 b o' hb
    · rintro b (u | u)
      · exact .inl (.inl u)
      · cases hb : h1 b with
        | none => simp [hb] at u; exact .inr u
        | some o' => exact .inl (.inr (by simp))

theorem SatR.fold {Qs r : List HP} {U : Nat → Prop} {H : Hp} (h : SatR (Qs ++ r) U H) : SatR (starL Qs :: r) U H := SatR.fold_aux h

theorem SatR.ex {α : Type} {f : α → HP} {r : List HP} {U : Nat → Prop} {H : Hp} (h : SatR (exP f :: r) U H) : ∃ a, SatR (f a :: r) U H :=
  let ⟨h1, ⟨a, q⟩, s, t⟩ := h; ⟨a, h1, q, s, t⟩
theorem SatR.pure {p : Prop} {r : List HP} {U : Nat → Prop} {H : Hp} (h : SatR (pureP p :: r) U H) : p ∧ SatR r U H :=
  ⟨let ⟨_, q, _, _⟩ := h; q, h.tail⟩
theorem SatR.addAny {A : HP} (hA : A fun _ => none) {r : List HP} {U : Nat → Prop} {H : Hp} (h : SatR r U H) : SatR (A :: r) U H :=
  ⟨fun _ => none, hA, fun _ _ e => by simp at e, h.anti fun _ x => x.elim id (fun y => by simp at y)⟩

def upd (H : Hp) (b : Nat) (o : Obj) : Hp := fun c => if c = b then some o else H c

theorem SatR.get {b : Nat} {o : Obj} {r : List HP} {U : Nat → Prop} {H : Hp} (h : SatR (pts b o :: r) U H) : H b = some o ∧ ¬ U b :=
  let ⟨_, q, s, _⟩ := h; s b o q.1

theorem SatR.put {b : Nat} {o o' : Obj} {r : List HP} {U : Nat → Prop} {H : Hp} (h : SatR (pts b o :: r) U H) : SatR (pts b o' :: r) U (upd H b o') := by
  obtain ⟨h1, q, s, t⟩ := h
  refine ⟨fun c => if c = b then some o' else none, ⟨by simp, fun c hc => by simp [hc]⟩, fun c x e => ?_, ?_⟩
  · by_cases hc : c = b
    · subst hc; simp at e; subst e; exact ⟨by simp [upd], (s _ _ q.1).2⟩
    · simp [hc] at e
  · refine SatR.mono t fun c x e n => ?_
    have hc : c ≠ b := fun hc => n (.inr (by subst hc; simp [q.1]))
    exact ⟨by simp [upd, hc, e], fun y => y.elim (fun u => n (.inl u)) (fun u => by simp [hc] at u)⟩

theorem SatR.new {b : Nat} {o : Obj} {r : List HP} {U : Nat → Prop} {H : Hp} (h : SatR r U H) (hb : H b = none) (hu : ¬ U b) : SatR (pts b o :: r) U (upd H b o) := by
  refine ⟨fun c => if c = b then some o else none, ⟨by simp, fun c hc => by simp [hc]⟩, fun c x e => ?_, ?_⟩
  · by_cases hc : c = b
    · subst hc; simp at e; subst e; exact ⟨by simp [upd], hu⟩
    · simp [hc] at e
  · refine SatR.mono h fun c x e n => ?_
    have hc : c ≠ b := fun hc => by subst hc; rw [hb] at e; cases e
    exact ⟨by simp [upd, hc, e], fun y => y.elim n (fun u => by simp [hc] at u)⟩

theorem SatR.heap {r : List HP} {U : Nat → Prop} {H H' : Hp} (h : SatR r U H) (e : ∀ b, ¬ U b → H b = H' b) : SatR r U H' :=
  SatR.mono h fun b _ hb n => ⟨(e b n) ▸ hb, n⟩

/- What stays as it was: all blocks below 'base'. -/
structure Gl where
  base : Nat
  w0 : Nat → Option Obj
  io : Os × Array (Nat × ByteArray)

def hp (w : World) : Hp := fun b => w.heap[b]?

/-- the outside, and what was printed -/
def io (w : World) : Os × Array (Nat × ByteArray) := (w.os, w.output)
structure Old (G : Gl) (w : World) : Prop where
  io : Sx.io w = G.io
  old : ∀ b, b < G.base → w.heap[b]? = G.w0 b
structure Sat (G : Gl) (Ps : List HP) (w : World) : Prop where
  size : G.base ≤ w.heap.size
  old : Old G w
  sep : SatR Ps (fun b => b < G.base) (hp w)

section
variable {G : Gl} {Ps : List HP} {w : World}

theorem Sat.perm {Qs : List HP} (h : Sat G Ps w) (p : Ps.Perm Qs) : Sat G Qs w := ⟨h.size, h.old, h.sep.perm p⟩
theorem Sat.same {w' : World} (h : Sat G Ps w) (e : w'.heap = w.heap) (ei : io w' = io w := by rfl) : Sat G Ps w' := ⟨e ▸ h.size, ⟨ei.trans h.old.io, fun b hb => by rw [e]; exact h.old.old b hb⟩, by
  have : hp w' = hp w := by unfold hp; rw [e]
  rw [this]; exact h.sep⟩

theorem Sat.new (h : Sat G Ps w) (o : Obj) : Sat G (pts w.heap.size o :: Ps) { w with heap := w.heap.push o } := by
  refine ⟨by simp; have := h.size; omega, ⟨h.old.io, fun b hb => ?_⟩, ?_⟩
  · have := h.size
    rw [Array.getElem?_push_lt (by omega), ← h.old.old b hb, Array.getElem?_eq_getElem (by omega)]
  · have e : hp { w with heap := w.heap.push o } = upd (hp w) w.heap.size o := by
      funext b
      simp only [hp, upd]
      by_cases hb : b = w.heap.size
      · subst hb; simp
      · simp only [hb, if_false]
        rw [Array.getElem?_push]; simp [hb]
    rw [e]
    exact h.sep.new (by simp [hp]) (by have := h.size; omega)

theorem Sat.get {b : Nat} {o : Obj} (h : Sat G (pts b o :: Ps) w) : w.heap[b]? = some o := h.sep.get.1
theorem Sat.above {b : Nat} {o : Obj} (h : Sat G (pts b o :: Ps) w) : G.base ≤ b := Nat.le_of_not_lt h.sep.get.2

theorem Sat.put {b : Nat} {o o' : Obj} {w' : World} (h : Sat G (pts b o :: Ps) w) (e : w'.heap = w.heap.setIfInBounds b o') (ei : io w' = io w := by rfl) : Sat G (pts b o' :: Ps) w' := by
  have hb := h.get
  have ha := h.above
  have hlt : b < w.heap.size := by
    rcases Nat.lt_or_ge b w.heap.size with x | x
    · exact x
    · rw [Array.getElem?_eq_none x] at hb; cases hb
  refine ⟨by rw [e]; simpa using h.size, ⟨ei.trans h.old.io, fun c hc => by rw [e, Array.getElem?_setIfInBounds_ne (by omega)]; exact h.old.old c hc⟩, ?_⟩
  have e' : hp w' = upd (hp w) b o' := by
    funext c
    simp only [hp, upd, e]
    by_cases hc : c = b
    · subst hc; simp [hlt]
    · rw [Array.getElem?_setIfInBounds_ne (fun x => hc x.symm)]; simp [hc]
  rw [e']
  exact h.sep.put

theorem modify_eq_set (a : Array Obj) (b : Nat) (f : Obj → Obj) (o : Obj) (h : a[b]? = some o) : a.modify b f = a.setIfInBounds b (f o) := by
  apply Array.ext_getElem?
  intro i
  by_cases hi : b = i
  · subst hi
    have hlt : b < a.size := (Array.getElem?_eq_some_iff.1 h).1
    rw [Array.getElem?_modify, if_pos rfl, h, Array.getElem?_setIfInBounds_self_of_lt hlt]; rfl
  · rw [Array.getElem?_modify, if_neg hi, Array.getElem?_setIfInBounds_ne hi]

theorem Sat.setCell {b : Nat} {c : Array Value} {T : TypeId} {fz : Nat × Nat} {off : Nat} {v : Value}
    (h : Sat G (pts b (.cells c T fz) :: Ps) w) : Sat G (pts b (.cells (c.setIfInBounds off v) T fz) :: Ps) (w.setCell ⟨b, off, none⟩ v) := by
  refine h.put ?_ rfl
  simp only [World.setCell]
  rw [modify_eq_set _ _ _ _ h.get]
  simp
 end
end Sx
/- Symbolic values over logical blocks; operations that ask no memory, with a proof that the model's run agrees. -/
namespace Sx
open Go

/-- an empty slice's address may carry a spot: told by a number -/
def nextP : Nat × Nat → Nat × Nat
  | (0, b) => (b + 1, 0)
  | (a + 1, b) => (a, b + 1)
def nthP : Nat → Nat × Nat
  | 0 => (0, 0)
  | n + 1 => nextP (nthP n)
theorem nthP_surj : ∀ (s b a : Nat), a + b = s → ∃ n, nthP n = (a, b)
  | 0, b, a, h => by
    obtain ⟨rfl, rfl⟩ : a = 0 ∧ b = 0 := by omega
    exact ⟨0, rfl⟩
  | s + 1, 0, a, h => by
    obtain rfl : a = s + 1 := by omega
    obtain ⟨n, hn⟩ := nthP_surj s s 0 (by omega)
    exact ⟨n + 1, by simp only [nthP, hn, nextP]⟩
  | s + 1, b + 1, a, h => by
    obtain ⟨n, hn⟩ := nthP_surj (s + 1) b (a + 1) (by omega)
    exact ⟨n + 1, by simp only [nthP, hn, nextP]⟩
def spotAt : Nat → Option Nat
  | 0 => none
  | s + 1 => some s
/-- where a slice at a real address begins -/
def gad (g off len : Nat) : Addr := if len = 0 then ⟨g, (nthP off).1, spotAt (nthP off).2⟩ else ⟨g, off, none⟩
theorem gad_pos {g off len : Nat} (h : len ≠ 0) : gad g off len = ⟨g, off, none⟩ := if_neg h
theorem gad_any (a : Addr) : ∃ off, gad a.block off 0 = a := by
  obtain ⟨b, o, s⟩ := a
  cases s with
  | none =>
    obtain ⟨n, hn⟩ := nthP_surj _ 0 o rfl
    exact ⟨n, by simp [gad, hn, spotAt]⟩
  | some s =>
    obtain ⟨n, hn⟩ := nthP_surj _ (s + 1) o rfl
    exact ⟨n, by simp [gad, hn, spotAt]⟩
/-- any address of a slice without places of its own, or without a spot -/
theorem gad_len (a : Addr) (len : Nat) (h : len ≠ 0 → a.spot = none) : ∃ off, gad a.block off len = a ∧ (len ≠ 0 → off = a.off) := by
  by_cases h0 : len = 0
  · subst h0
    obtain ⟨off, ho⟩ := gad_any a
    exact ⟨off, ho, fun h => absurd rfl h⟩
  · obtain ⟨b, o, s⟩ := a
    obtain rfl : s = none := h h0
    exact ⟨o, gad_pos h0, fun _ => rfl⟩
inductive Lit where
  | int (k : IntKind) (n : Int)
  | bool (b : Bool)
  | str (s : ByteArray)
  | ptr (g : Nat)
  | nil
  | mref (o : Option Nat)
  | slref (a : Option Addr) (len cap : Nat)
def Lit.val : Lit → Value
  | .int k n => .int k n
  | .bool b => .bool b
  | .str s => .string s
  | .ptr g => .pointer (some ⟨g, 0, none⟩)
  | .nil => .pointer none
  | .mref o => .map o
  | .slref a len cap => .slice a len cap

inductive SV where
  | int (k : IntKind) (n : Int)
  | bool (b : Bool)
  | tt | ff
  | str (s : ByteArray)
  | ptr (id off : Nat)
  | nil
  | gptr (g off : Nat)
  | slice (id w lo len cap : Nat)
  | nilslice
  | vec (p : Bool) (id w lo len cap : Nat)
  | eptr (id w idx f : Nat)
  | gsl (p : Bool) (g off w len cap : Nat)   -- a slice at a real address
  | gel (g off w idx f : Nat)                -- a place in it
  | map (id : Nat)
  | nilmap
  | fn (f : Fn) (first captured : List SV)
  | nilfn
  | iface (t : TypeId) (v : SV)
  | niliface
  | agg (l : List SV)
  | tuple (l : List SV)
  | raw (v : Value)

mutual
def SV.den (ρ : Nat → Nat) : SV → Value
  | .int k n => .int k n
  | .bool b => .bool b
  | .tt => .bool true
  | .ff => .bool false
  | .str s => .string s
  | .ptr id off => .pointer (some ⟨ρ id, off, none⟩)
  | .nil => .pointer none
  | .gptr g off => .pointer (some ⟨g, off, none⟩)
  | .slice id w lo len cap => .slice (some ⟨ρ id, lo * w, none⟩) len cap
  | .nilslice => .slice none 0 0
  | .vec p id w lo len cap => .slice (if p then some ⟨ρ id, lo * w, none⟩ else none) len cap
  | .eptr id w idx f => .pointer (some ⟨ρ id, idx * w + f, none⟩)
  | .gsl p g off _ len cap => .slice (if p then some (gad g off len) else none) len cap
  | .gel g off w idx f => .pointer (some ⟨g, off + idx * w + f, none⟩)
  | .map id => .map (some (ρ id))
  | .nilmap => .map none
  | .fn f a b => .func f (SV.denL ρ a).toArray (SV.denL ρ b).toArray
  | .nilfn => .nilFunc
  | .iface t v => .iface t (v.den ρ)
  | .niliface => .nilIface
  | .agg l => .agg (SV.denL ρ l).toArray
  | .tuple l => .tuple (SV.denL ρ l).toArray
  | .raw v => v
def SV.denL (ρ : Nat → Nat) : List SV → List Value
  | [] => []
  | v :: r => v.den ρ :: SV.denL ρ r
 end

mutual
/-- every logical block in it meets p -/
def SV.idOk (p : Nat → Bool) : SV → Bool
  | .ptr id _ => p id
  | .slice id _ _ _ _ => p id
  | .vec _ id _ _ _ _ => p id
  | .eptr id _ _ _ => p id
  | .map id => p id
  | .fn _ a b => SV.idOkL p a && SV.idOkL p b
  | .iface _ v => v.idOk p
  | .agg l => SV.idOkL p l
  | .tuple l => SV.idOkL p l
  | _ => true
def SV.idOkL (p : Nat → Bool) : List SV → Bool
  | [] => true
  | v :: r => v.idOk p && SV.idOkL p r
 end

mutual
def SV.ren (σ : Nat → Nat) : SV → SV
  | .ptr id off => .ptr (σ id) off
  | .slice id w lo len cap => .slice (σ id) w lo len cap
  | .vec p id w lo len cap => .vec p (σ id) w lo len cap
  | .eptr id w idx f => .eptr (σ id) w idx f
  | .gsl p g off w len cap => .gsl p g off w len cap
  | .gel g off w idx f => .gel g off w idx f
  | .map id => .map (σ id)
  | .fn f a b => .fn f (SV.renL σ a) (SV.renL σ b)
  | .iface t v => .iface t (v.ren σ)
  | .agg l => .agg (SV.renL σ l)
  | .tuple l => .tuple (SV.renL σ l)
  | .int k n => .int k n
  | .bool b => .bool b
  | .tt => .tt
  | .ff => .ff
  | .str s => .str s
  | .nil => .nil
  | .gptr g o => .gptr g o
  | .nilslice => .nilslice
  | .nilmap => .nilmap
  | .nilfn => .nilfn
  | .niliface => .niliface
  | .raw v => .raw v
def SV.renL (σ : Nat → Nat) : List SV → List SV
  | [] => []
  | v :: r => v.ren σ :: SV.renL σ r
 end

theorem SV.denL_eq (ρ : Nat → Nat) : ∀ l, SV.denL ρ l = l.map (SV.den ρ)
  | [] => by simp [SV.denL]
  | v :: r => by simp [SV.denL, SV.denL_eq ρ r]

mutual
theorem SV.den_congr {ρ ρ' : Nat → Nat} {p : Nat → Bool} (h : ∀ i, p i = true → ρ i = ρ' i) : ∀ v : SV, v.idOk p = true → v.den ρ = v.den ρ'
  | .ptr id _, e | .slice id _ _ _ _, e | .vec _ id _ _ _ _, e | .eptr id _ _ _, e | .map id, e => by simp only [SV.idOk] at e; simp [SV.den, h id e]
  | .fn f a b, e => by
    simp only [SV.idOk, Bool.and_eq_true] at e
    simp [SV.den, SV.denL_congr h a e.1, SV.denL_congr h b e.2]
  | .iface t v, e => by simp only [SV.idOk] at e; simp [SV.den, SV.den_congr h v e]
  | .agg l, e | .tuple l, e => by simp only [SV.idOk] at e; simp [SV.den, SV.denL_congr h l e]
  | .int .., _ | .bool _, _ | .tt, _ | .ff, _ | .str _, _ | .nil, _ | .gptr .., _ | .gsl .., _ | .gel .., _ | .nilslice, _ | .nilmap, _ | .nilfn, _ | .niliface, _ | .raw _, _ => by simp [SV.den]
theorem SV.denL_congr {ρ ρ' : Nat → Nat} {p : Nat → Bool} (h : ∀ i, p i = true → ρ i = ρ' i) : ∀ l : List SV, SV.idOkL p l = true → SV.denL ρ l = SV.denL ρ' l
  | [], _ => by simp [SV.denL]
  | v :: r, e => by
    simp only [SV.idOkL, Bool.and_eq_true] at e
    simp [SV.denL, SV.den_congr h v e.1, SV.denL_congr h r e.2]
 end

mutual
theorem SV.den_ren {ρ σ : Nat → Nat} : ∀ v : SV, (v.ren σ).den ρ = v.den (fun i => ρ (σ i))
  | .fn f a b => by simp [SV.den, SV.ren, SV.denL_ren a, SV.denL_ren b]
  | .iface t v => by simp [SV.den, SV.ren, SV.den_ren v]
  | .agg l | .tuple l => by simp [SV.den, SV.ren, SV.denL_ren l]
  | .ptr .. | .slice .. | .vec .. | .eptr .. | .map _ | .int .. | .bool _ | .tt | .ff | .str _ | .nil | .gptr .. | .gsl .. | .gel .. | .nilslice | .nilmap | .nilfn | .niliface | .raw _ => by simp [SV.den, SV.ren]
theorem SV.denL_ren {ρ σ : Nat → Nat} : ∀ l : List SV, SV.denL ρ (SV.renL σ l) = SV.denL (fun i => ρ (σ i)) l
  | [] => by simp [SV.denL, SV.renL]
  | v :: r => by simp [SV.denL, SV.renL, SV.den_ren v, SV.denL_ren r]
 end

/- Types, as far as they are asked. -/
inductive TD where
  | bool | int (k : IntKind) | str | ptr | slice (e : TypeId) | map (k e : TypeId) | func | iface
  | struct (fs : List (Nat × Nat))     -- of each field: its first cell, how many it has
  | array (n : Nat) (e : TypeId)
structure TI where
  d : TD
  size : Nat
  bytes : Nat
  zero : SV

/-- the cells of a value -/
def SV.cellsL : SV → Option (List SV)
  | .agg l => some l
  | .tuple _ | .raw _ => none
  | v => some [v]
theorem SV.cellsL_den {ρ : Nat → Nat} {v : SV} {l : List SV} (h : v.cellsL = some l) : (v.den ρ).cells.toList = SV.denL ρ l := by
  cases v <;> simp only [SV.cellsL, Option.some.injEq, reduceCtorEq] at h <;> subst h <;> simp [SV.den, SV.denL, Value.cells]

def TD.ok (P : Program) (t : TypeId) : TD → Prop
  | .bool => P.underlying t = some .bool
  | .int k => P.underlying t = some (.int k)
  | .str => P.underlying t = some .string
  | .ptr => ∃ e, P.underlying t = some (.pointer e)
  | .slice e => P.underlying t = some (.slice e)
  | .map k e => P.underlying t = some (.map k e)
  | .func => ∃ a b c, P.underlying t = some (.func a b c)
  | .iface => ∃ m, P.underlying t = some (.interface m)
  | .struct fs => ∃ f, P.underlying t = some (.struct f) ∧ f.toList.map (fun x => (x.offset, P.cellsOf x.type)) = fs ∧ (∀ x ∈ f.toList, (P.info? x.type).isSome = true)
  | .array n e => P.underlying t = some (.array n e)
structure TI.ok (P : Program) (t : TypeId) (x : TI) : Prop where
  info : ∃ i, P.info? t = some i ∧ i.size = x.size ∧ i.bytes = x.bytes ∧ i.zero = some (x.zero.den id)
  noid : x.zero.idOk (fun _ => false) = true
  desc : x.d.ok P t
def Tab := TypeId → Option TI
def Tab.ok (P : Program) (ty : Tab) : Prop := ∀ t x, ty t = some x → x.ok P t

def TD.isAgg : TD → Bool
  | .struct _ | .array _ _ => true
  | _ => false

section
variable {P : Program} {t : TypeId} {x : TI}
theorem TI.ok.run_typeInfo (h : x.ok P t) (w : World) : ∃ i, (typeInfo t).run P w = .ok i w ∧ i.size = x.size ∧ i.bytes = x.bytes ∧ i.zero = some (x.zero.den id) :=
  let ⟨i, hi, a, b, c⟩ := h.info; ⟨i, by simp [typeInfo, hi], a, b, c⟩
theorem TI.ok.run_sizeOf (h : x.ok P t) (w : World) : (Go.sizeOf t).run P w = .ok x.size w := by
  obtain ⟨i, e, a, _⟩ := h.run_typeInfo w
  simp [Go.sizeOf, e, a]
theorem TI.ok.zero_den (h : x.ok P t) (ρ : Nat → Nat) : x.zero.den id = x.zero.den ρ := SV.den_congr (by simp) x.zero h.noid
theorem TI.ok.run_zeroValue (h : x.ok P t) (ρ : Nat → Nat) (w : World) : (zeroValue t).run P w = .ok (x.zero.den ρ) w := by
  obtain ⟨i, e, _, _, c⟩ := h.run_typeInfo w
  rw [h.zero_den ρ] at c
  simp [zeroValue, e, c]
theorem TI.ok.und (h : x.ok P t) : ∃ d, P.underlying t = some d := by
  have d := h.desc
  cases e : x.d <;> simp only [e, TD.ok] at d
  case ptr => obtain ⟨_, d⟩ := d; exact ⟨_, d⟩
  case func => obtain ⟨_, _, _, d⟩ := d; exact ⟨_, d⟩
  case iface => obtain ⟨_, d⟩ := d; exact ⟨_, d⟩
  case struct => obtain ⟨_, d, _⟩ := d; exact ⟨_, d⟩
  all_goals exact ⟨_, d⟩
theorem TI.ok.und_not_iface (h : x.ok P t) (hd : x.d ≠ .iface) : ∃ d, P.underlying t = some d ∧ ∀ m, d ≠ .interface m := by
  have d := h.desc
  cases e : x.d <;> simp only [e, TD.ok] at d
  case ptr => obtain ⟨_, d⟩ := d; exact ⟨_, d, by simp⟩
  case func => obtain ⟨_, _, _, d⟩ := d; exact ⟨_, d, by simp⟩
  case iface => exact absurd e hd
  case struct => obtain ⟨_, d, _⟩ := d; exact ⟨_, d, by simp⟩
  all_goals exact ⟨_, d, by simp⟩
theorem TI.ok.run_isAgg (h : x.ok P t) (w : World) : (isAgg t).run P w = .ok x.d.isAgg w := by
  have d := h.desc
  cases e : x.d <;> simp only [e, TD.ok] at d <;> simp only [TD.isAgg]
  case ptr => obtain ⟨_, d⟩ := d; simp [isAgg, run_underlying d]
  case func => obtain ⟨_, _, _, d⟩ := d; simp [isAgg, run_underlying d]
  case iface => obtain ⟨_, d⟩ := d; simp [isAgg, run_underlying d]
  case struct => obtain ⟨_, d, _⟩ := d; simp [isAgg, run_underlying d]
  all_goals simp [isAgg, run_underlying d]
 end

/- Environments: what the temporaries hold. -/
/-- two orders that lead to the same state -/
theorem dup {p q : Prop} (h : p ∧ q) : p ∧ (p ∧ q) := ⟨h.1, h⟩
abbrev Env := List (Nat × SV)
def eget : Env → Nat → Option SV
  | [], _ => none
  | (s, v) :: r, t => if s == t then some v else eget r t
def eset : Env → Nat → SV → Env
  | [], t, v => [(t, v)]
  | (s, u) :: r, t, v => if s == t then (s, v) :: r else if Nat.ble s t then (s, u) :: eset r t v else (t, v) :: (s, u) :: r
def edel : Env → Nat → Env
  | [], _ => []
  | (s, u) :: r, t => if s == t then edel r t else (s, u) :: edel r t
def eall (p : Nat → Bool) : Env → Bool
  | [] => true
  | (_, v) :: r => v.idOk p && eall p r

theorem eget_eset (t : Nat) (v : SV) (s : Nat) : ∀ e : Env, eget (eset e t v) s = if t = s then some v else eget e s
  | [] => by
    by_cases h : t = s <;> simp [eset, eget, h]
  | (a, u) :: r => by
    by_cases h : a = t
    · subst h; by_cases hs : a = s <;> simp [eset, eget, hs]
    · have := eget_eset t v s r
      by_cases hb : Nat.ble a t = true
      · by_cases hs : a = s
        · subst hs; simp [eset, eget, h, Ne.symm h, hb]
        · simp [eset, eget, h, hb, hs, this]
      · by_cases hs : t = s
        · subst hs; simp [eset, eget, h, hb]
        · by_cases hs2 : a = s
          · subst hs2; simp [eset, eget, h, hb, hs]
          · simp [eset, eget, h, hb, hs, hs2]
theorem eget_edel (t s : Nat) : ∀ e : Env, eget (edel e t) s = if t = s then none else eget e s
  | [] => by by_cases h : t = s <;> simp [edel, eget]
  | (a, u) :: r => by
    have := eget_edel t s r
    by_cases h : a = t
    · subst h; by_cases hs : a = s <;> simp_all [edel, eget]
    · by_cases hs : a = s
      · subst hs; simp [edel, eget, h, Ne.symm h]
      · simp [edel, eget, h, hs, this]
theorem eall_get {p : Nat → Bool} : ∀ {e : Env} {t : Nat} {v : SV}, eall p e = true → eget e t = some v → v.idOk p = true
  | (s, u) :: r, t, v, h, g => by
    simp only [eall, Bool.and_eq_true] at h
    by_cases hs : s = t
    · simp [eget, hs] at g; subst g; exact h.1
    · simp [eget, hs] at g; exact eall_get h.2 g

def EnvOk (ρ : Nat → Nat) (e : Env) (a : Act) : Prop := ∀ t v, eget e t = some v → a.tmps.getD t undef = v.den ρ

theorem EnvOk.congr {ρ ρ' : Nat → Nat} {e : Env} {a : Act} {p : Nat → Bool} (h : EnvOk ρ e a) (hp : eall p e = true) (hr : ∀ i, p i = true → ρ i = ρ' i) : EnvOk ρ' e a :=
  fun t v g => (h t v g).trans (SV.den_congr hr v (eall_get hp g))
theorem EnvOk.put {ρ : Nat → Nat} {e : Env} {a : Act} {d : Nat} {v : SV} (h : EnvOk ρ e a) (hd : d < a.tmps.size) : EnvOk ρ (eset e d v) (a.put (some d) (v.den ρ)) := by
  intro t u g
  rw [eget_eset] at g
  by_cases ht : d = t
  · subst ht; simp at g; subst g; simp [Act.put, hd]
  · simp [ht] at g
    have := h t u g
    simpa [Act.put, Array.getElem?_setIfInBounds_ne ht] using this
theorem EnvOk.del {ρ : Nat → Nat} {e : Env} {a : Act} {d : Nat} {x : Value} (h : EnvOk ρ e a) : EnvOk ρ (edel e d) (a.put (some d) x) := by
  intro t u g
  rw [eget_edel] at g
  by_cases ht : d = t
  · simp [ht] at g
  · simp [ht] at g
    have := h t u g
    simpa [Act.put, Array.getElem?_setIfInBounds_ne ht] using this

def ofV : Value → Option SV
  | .int k n => some (.int k n)
  | .bool true => some .tt
  | .bool false => some .ff
  | .string s => some (.str s)
  | .pointer none => some .nil
  | .slice none 0 0 => some .nilslice
  | .map none => some .nilmap
  | .nilFunc => some .nilfn
  | .nilIface => some .niliface
  | _ => none
theorem ofV_den {ρ : Nat → Nat} {x : Value} {v : SV} (h : ofV x = some v) : x = v.den ρ := by
  unfold ofV at h
  split at h <;> simp only [Option.some.injEq, reduceCtorEq] at h <;> subst h <;> simp [SV.den]

def evO (e : Env) : Operand → Option SV
  | .tmp t => eget e t
  | .const v => ofV v
  | .global g => some (.gptr g 0)
  | .func f => some (.fn (.func f) [] [])
theorem evO_den {ρ : Nat → Nat} {e : Env} {a : Act} (h : EnvOk ρ e a) {x : Operand} {v : SV} (g : evO e x = some v) : a.eval x = v.den ρ := by
  cases x with
  | tmp t => exact h t v g
  | const c => exact ofV_den g
  | global n => simp only [evO, Option.some.injEq] at g; subst g; simp [Act.eval, SV.den]
  | func f => simp only [evO, Option.some.injEq] at g; subst g; simp [Act.eval, SV.den, SV.denL]
def evOs (e : Env) : List Operand → Option (List SV)
  | [] => some []
  | o :: r => match evO e o with
    | some v => match evOs e r with
      | some l => some (v :: l)
      | none => none
    | none => none
theorem evOs_den {ρ : Nat → Nat} {e : Env} {a : Act} (h : EnvOk ρ e a) : ∀ {xs : List Operand} {l : List SV}, evOs e xs = some l → xs.map a.eval = SV.denL ρ l
  | [], l, g => by simp only [evOs, Option.some.injEq] at g; subst g; simp [SV.denL]
  | x :: r, l, g => by
    simp only [evOs] at g
    cases h1 : evO e x with
    | none => simp [h1] at g
    | some v =>
      cases h2 : evOs e r with
      | none => simp [h1, h2] at g
      | some l' =>
        simp [h1, h2] at g; subst g
        simp [SV.denL, evO_den h h1, evOs_den h h2]
end Sx
/- Operations that ask no memory: what they give, symbolically, and that the model gives the same in every world. -/
namespace Sx
open Go

def bt (s : ByteArray) (i : Int) : Int := ((s.data.getD i.toNat 0).toNat : Nat)
def seq (x y : ByteArray) : Bool := x.toList == y.toList
def slt (x y : ByteArray) : Bool := Op.bytesLess x.toList y.toList
def subs (s : ByteArray) (l h : Int) : ByteArray := s.extract l.toNat h.toNat
def sloff (lo l m : Nat) : Nat := if m = l then lo else lo + l
def idiv (a b : Int) : Int := a.tdiv b
def imod (a b : Int) : Int := a.tmod b
def imax (a b : Int) : Int := if b > a then b else a
def imin (a b : Int) : Int := if b < a then b else a

inductive Ob where
  | inb (i n : Int)
  | le3 (l h m : Int)
  | cat (x y : ByteArray)
  | ne0 (y : Int)
  | nn (y : Int)
  | tru (b : Bool)
def Ob.P : Ob → Prop
  | .inb i n => 0 ≤ i ∧ i < n
  | .le3 l h m => 0 ≤ l ∧ l ≤ h ∧ h ≤ m
  | .cat x y => ((x.size + y.size : Nat) : Int) ≤ IntKind.i64.max
  | .ne0 y => y ≠ 0
  | .nn y => 0 ≤ y
  | .tru b => b = true
def obsP : List Ob → Prop
  | [] => True
  | o :: r => o.P ∧ obsP r

/-- What must not be unfolded while the walk is reckoned: handed in as a variable. -/
structure Bits where
  i : BinOp → IntKind → Int → Int → Int
  c : BinOp → Int → Int → Bool
  s : BinOp → ByteArray → ByteArray → Bool
  cat : ByteArray → ByteArray → ByteArray
  sub : ByteArray → Int → Int → ByteArray
  byte : ByteArray → Int → Int
  off : Nat → Int → Nat → Nat
  gap : Int → Int → Nat
  left : Nat → Int → Nat
  plus : Nat → Int → Nat
  len : ByteArray → Int
  enc : Int → ByteArray
def bitI (op : BinOp) (k : IntKind) (x y : Int) : Int :=
  match op with
  | .add => k.wrap (x + y)
  | .sub => k.wrap (x - y)
  | .mul => k.wrap (x * y)
  | .quo => k.wrap (idiv x y)
  | .rem => imod x y
  | .and => k.wrap (BitVec.ofInt k.bits x &&& BitVec.ofInt k.bits y).toNat
  | .or => k.wrap (BitVec.ofInt k.bits x ||| BitVec.ofInt k.bits y).toNat
  | .xor => k.wrap (BitVec.ofInt k.bits x ^^^ BitVec.ofInt k.bits y).toNat
  | .andNot => k.wrap (BitVec.ofInt k.bits x &&& ~~~ BitVec.ofInt k.bits y).toNat
  | .shl => k.wrap (x * 2 ^ (min y.toNat k.bits))
  | .shr => x.fdiv (2 ^ (min y.toNat k.bits))
  | .gtr => imax x y
  | .lss => imin x y
  | _ => 0
def bitC (op : BinOp) (x y : Int) : Bool :=
  match op with
  | .eql => x == y
  | .neq => x != y
  | .lss => decide (x < y)
  | .leq => decide (x ≤ y)
  | .gtr => decide (x > y)
  | .geq => decide (x ≥ y)
  | _ => false
def bitS (op : BinOp) (x y : ByteArray) : Bool :=
  match op with
  | .eql => seq x y
  | .neq => !seq x y
  | .lss => slt x y
  | .leq => slt x y || seq x y
  | .gtr => !(slt x y || seq x y)
  | .geq => !slt x y
  | _ => false
def bitsOf : Bits := ⟨bitI, bitC, bitS, fun x y => x ++ y, subs, bt, fun o l c => sloff o l.toNat c, fun h l => h.toNat - l.toNat, fun c l => c - l.toNat, fun o i => o + i.toNat, fun s => s.size, Utf8.encode⟩

def intBin (bits : Bits) (op : BinOp) (k : IntKind) (a b : Int) : Option (SV × List Ob) :=
  match op with
  | .add => some (.int k (bits.i .add k a b), [])
  | .sub => some (.int k (bits.i .sub k a b), [])
  | .mul => some (.int k (bits.i .mul k a b), [])
  | .quo => some (.int k (bits.i .quo k a b), [.ne0 b])
  | .rem => some (.int k (bits.i .rem k a b), [.ne0 b])
  | .and => some (.int k (bits.i .and k a b), [])
  | .or => some (.int k (bits.i .or k a b), [])
  | .xor => some (.int k (bits.i .xor k a b), [])
  | .andNot => some (.int k (bits.i .andNot k a b), [])
  | .eql => some (.bool (bits.c .eql a b), [])
  | .neq => some (.bool (bits.c .neq a b), [])
  | .lss => some (.bool (bits.c .lss a b), [])
  | .leq => some (.bool (bits.c .leq a b), [])
  | .gtr => some (.bool (bits.c .gtr a b), [])
  | .geq => some (.bool (bits.c .geq a b), [])
  | .shl => some (.int k (bits.i .shl k a b), [.nn b])
  | .shr => some (.int k (bits.i .shr k a b), [.nn b])
def kindEq : IntKind → IntKind → Bool
  | .i8, .i8 | .i16, .i16 | .i32, .i32 | .i64, .i64 | .u8, .u8 | .u16, .u16 | .u32, .u32 | .u64, .u64 => true
  | _, _ => false
def isSh : BinOp → Bool
  | .shl | .shr => true
  | _ => false
def strBin (bits : Bits) (op : BinOp) (x y : ByteArray) : Option (SV × List Ob) :=
  match op with
  | .add => some (.str (bits.cat x y), [.cat x y])
  | .eql => some (.bool (bits.s .eql x y), [])
  | .neq => some (.bool (bits.s .neq x y), [])
  | .lss => some (.bool (bits.s .lss x y), [])
  | .leq => some (.bool (bits.s .leq x y), [])
  | .gtr => some (.bool (bits.s .gtr x y), [])
  | .geq => some (.bool (bits.s .geq x y), [])
  | _ => none
def eqB (op : BinOp) (b : Bool) : Option (SV × List Ob) :=
  match op with
  | .eql => some (if b then .tt else .ff, [])
  | .neq => some (if b then .ff else .tt, [])
  | _ => none
def toB : SV → Option Bool
  | .tt => some true
  | .ff => some false
  | .bool b => some b
  | _ => none
def boolBin (op : BinOp) (a b : Bool) : Option (SV × List Ob) :=
  match op with
  | .eql => some (.bool (a == b), [])
  | .neq => some (.bool (!(a == b)), [])
  | _ => none
/-- is the type a pointer's, a slice's, .. -/
def isPtr : Option TI → Bool
  | some ⟨.ptr, _, _, _⟩ => true
  | _ => false
def isSlice : Option TI → Bool
  | some ⟨.slice _, _, _, _⟩ => true
  | _ => false
def isMapT : Option TI → Bool
  | some ⟨.map _ _, _, _, _⟩ => true
  | _ => false
def isFuncT : Option TI → Bool
  | some ⟨.func, _, _, _⟩ => true
  | _ => false
def isIfaceT : Option TI → Bool
  | some ⟨.iface, _, _, _⟩ => true
  | _ => false
def isBoolT : Option TI → Bool
  | some ⟨.bool, _, _, _⟩ => true
  | _ => false
def isStrT : Option TI → Bool
  | some ⟨.str, _, _, _⟩ => true
  | _ => false
def intT : Option TI → Option IntKind
  | some ⟨.int k, _, _, _⟩ => some k
  | _ => none

def isNilC : Operand → Bool
  | .const .nilIface => true
  | _ => false

/-- a thing held against nil: are they equal? -/
def nilEq (T : Option TI) (ox oy : Operand) (x y : SV) : Option Bool :=
  match x, y with
  | .ptr _ _, .nil | .gptr _ _, .nil | .eptr _ _ _ _, .nil => if isPtr T then some false else none
  | .nil, .nil => if isPtr T then some true else none
  | .slice _ _ _ _ _, .nilslice => if isSlice T then some false else none
  | .nilslice, .nilslice => if isSlice T then some true else none
  | .map _, .nilmap => if isMapT T then some false else none
  | .nilmap, .nilmap => if isMapT T then some true else none
  | .iface _ _, .niliface => if isIfaceT T then some false else none
  | .niliface, .niliface => if isIfaceT T && (isNilC ox || isNilC oy) then some true else none
  | .fn _ _ _, .nilfn => if isFuncT T then some false else none
  | .nilfn, .nilfn => if isFuncT T then some true else none
  | _, _ => none
def boolV (T : Option TI) (op : BinOp) (x y : SV) : Option (SV × List Ob) :=
  match toB x with
  | some a => match toB y with
    | some b => if isBoolT T then boolBin op a b else none
    | none => none
  | none => none
def binV (bits : Bits) (T : Option TI) (op : BinOp) (ox oy : Operand) (x y : SV) : Option (SV × List Ob) :=
  match x, y with
  | .int k a, .int k' b => if isSh op then intBin bits op k a b else if kindEq k k' then intBin bits op k a b else none
  | .str a, .str b => strBin bits op a b
  | x, y => match nilEq T ox oy x y with
    | some b => eqB op b
    | none => boolV T op x y

section
variable {P : Program} {bits : Bits} {ρ : Nat → Nat}

theorem kindEq_eq {k k' : IntKind} (h : kindEq k k' = true) : k = k' := by cases k <;> cases k' <;> first | rfl | (simp [kindEq] at h)

theorem intBin_run (hb : bits = bitsOf) {op : BinOp} {T : TypeId} {k k' : IntKind} {a b : Int} {v : SV} {obs : List Ob}
    (hk : isSh op = true ∨ k = k') (h : intBin bits op k a b = some (v, obs)) (ho : obsP obs) (w : World) :
    (binOp op T (.int k a) (.int k' b)).run P w = .ok (v.den ρ) w := by
  subst hb
  cases op <;> simp only [intBin, Option.some.injEq, Prod.mk.injEq] at h <;> obtain ⟨rfl, rfl⟩ := h <;>
    simp only [isSh, Bool.false_eq_true, false_or, true_or] at hk <;> (try subst hk) <;>
    simp [binOp, SV.den, Op.intArith, Op.intDiv, Op.intBits, Op.intCmp, Op.shift, bitsOf, bitI, bitC, idiv, imod]
  all_goals (simp only [obsP, Ob.P, and_true] at ho)
  all_goals (intro hh; omega)

theorem strBin_run (hb : bits = bitsOf) {op : BinOp} {T : TypeId} {a b : ByteArray} {v : SV} {obs : List Ob}
    (h : strBin bits op a b = some (v, obs)) (ho : obsP obs) (w : World) : (binOp op T (.string a) (.string b)).run P w = .ok (v.den ρ) w := by
  subst hb
  cases op <;> simp only [strBin, Option.some.injEq, Prod.mk.injEq, reduceCtorEq] at h <;> obtain ⟨rfl, rfl⟩ := h <;> simp [binOp, SV.den, Op.stringOp, bitsOf, bitS, seq, slt]
  simp only [obsP, Ob.P, and_true] at ho
  have e : IntKind.i64.max = 9223372036854775807 := by rfl
  rw [e] at ho
  omega

theorem isPtr_ok {ty : Tab} (h : ty.ok P) {T : TypeId} (e : isPtr (ty T) = true) : ∃ u, P.underlying T = some (.pointer u) := by
  unfold isPtr at e; split at e
  · rename_i hx; exact (h _ _ hx).desc
  · cases e
theorem isSlice_ok {ty : Tab} (h : ty.ok P) {T : TypeId} (e : isSlice (ty T) = true) : ∃ u, P.underlying T = some (.slice u) := by
  unfold isSlice at e; split at e
  · rename_i hx; exact ⟨_, (h _ _ hx).desc⟩
  · cases e
theorem isMapT_ok {ty : Tab} (h : ty.ok P) {T : TypeId} (e : isMapT (ty T) = true) : ∃ k u, P.underlying T = some (.map k u) := by
  unfold isMapT at e; split at e
  · rename_i hx; exact ⟨_, _, (h _ _ hx).desc⟩
  · cases e
theorem isFuncT_ok {ty : Tab} (h : ty.ok P) {T : TypeId} (e : isFuncT (ty T) = true) : ∃ a b c, P.underlying T = some (.func a b c) := by
  unfold isFuncT at e; split at e
  · rename_i hx; exact (h _ _ hx).desc
  · cases e
theorem isIfaceT_ok {ty : Tab} (h : ty.ok P) {T : TypeId} (e : isIfaceT (ty T) = true) : ∃ m, P.underlying T = some (.interface m) := by
  unfold isIfaceT at e; split at e
  · rename_i hx; exact (h _ _ hx).desc
  · cases e
theorem isBoolT_ok {ty : Tab} (h : ty.ok P) {T : TypeId} (e : isBoolT (ty T) = true) : P.underlying T = some .bool := by
  unfold isBoolT at e; split at e
  · rename_i hx; exact (h _ _ hx).desc
  · cases e
theorem isStrT_ok {ty : Tab} (h : ty.ok P) {T : TypeId} (e : isStrT (ty T) = true) : P.underlying T = some .string := by
  unfold isStrT at e; split at e
  · rename_i hx; exact (h _ _ hx).desc
  · cases e
theorem intT_ok {ty : Tab} (h : ty.ok P) {T : TypeId} {k : IntKind} (e : intT (ty T) = some k) : P.underlying T = some (.int k) := by
  unfold intT at e; split at e
  · rename_i hx; simp only [Option.some.injEq] at e; subst e; exact (h _ _ hx).desc
  · cases e

theorem eqB_run {T : TypeId} {op : BinOp} {b : Bool} {x y : Value} {v : SV} {obs : List Ob} (h : eqB op b = some (v, obs)) (w : World)
    (hx : (Op.equal T x y).run P w = .ok b w) (h1 : binOp .eql T x y = (do pure (.bool (← Op.equal T x y)))) (h2 : binOp .neq T x y = (do pure (.bool (!(← Op.equal T x y))))) :
    (binOp op T x y).run P w = .ok (v.den ρ) w := by
  cases op <;> simp only [eqB, Option.some.injEq, Prod.mk.injEq, reduceCtorEq] at h <;> obtain ⟨rfl, rfl⟩ := h
  · rw [h1]; cases b <;> simp [hx, SV.den]
  · rw [h2]; cases b <;> simp [hx, SV.den]

theorem equal_of {T : TypeId} {x y : Value} {w : World} {r : Result Bool} (h : ∀ d, (Op.equalIn (d + 1) T x y).run P w = r) : (Op.equal T x y).run P w = r := h 9999

theorem toB_den {v : SV} {b : Bool} (h : toB v = some b) : v.den ρ = .bool b := by
  cases v <;> simp [toB] at h <;> subst h <;> rfl

theorem nilEq_run {ty : Tab} (hty : ty.ok P) {op : BinOp} {T : TypeId} {ox oy : Operand} {x y : SV} {b : Bool} (h : nilEq (ty T) ox oy x y = some b) (w : World) :
    (Op.equal T (x.den ρ) (y.den ρ)).run P w = .ok b w ∧ (eqGuard op T ox oy (x.den ρ) (y.den ρ)).run P w = .ok () w ∧
    binOp .eql T (x.den ρ) (y.den ρ) = (do pure (.bool (← Op.equal T (x.den ρ) (y.den ρ)))) ∧ binOp .neq T (x.den ρ) (y.den ρ) = (do pure (.bool (!(← Op.equal T (x.den ρ) (y.den ρ))))) := by
  unfold nilEq at h
  split at h
  case h_13 => cases h
  all_goals (split at h)
  all_goals first | (simp only [reduceCtorEq] at h; done) | skip
  all_goals (simp only [Option.some.injEq] at h; subst h; simp only [SV.den])
  case h_1.isTrue hp | h_2.isTrue hp | h_3.isTrue hp | h_4.isTrue hp =>
    obtain ⟨u, hu⟩ := isPtr_ok hty hp
    exact ⟨equal_of (fun d => by simp [Op.equalIn, run_underlying hu]), by cases op <;> simp [eqGuard], rfl, rfl⟩
  case h_5.isTrue hp | h_6.isTrue hp =>
    obtain ⟨u, hu⟩ := isSlice_ok hty hp
    exact ⟨equal_of (fun d => by simp [Op.equalIn, run_underlying hu]), by cases op <;> simp [eqGuard], rfl, rfl⟩
  case h_7.isTrue hp | h_8.isTrue hp =>
    obtain ⟨k, u, hu⟩ := isMapT_ok hty hp
    exact ⟨equal_of (fun d => by simp [Op.equalIn, run_underlying hu]), by cases op <;> simp [eqGuard], rfl, rfl⟩
  case h_9.isTrue hp =>
    obtain ⟨m, hu⟩ := isIfaceT_ok hty hp
    exact ⟨equal_of (fun d => by simp [Op.equalIn, run_underlying hu]), by cases op <;> simp [eqGuard], rfl, rfl⟩
  case h_10.isTrue hp =>
    simp only [Bool.and_eq_true, Bool.or_eq_true] at hp
    obtain ⟨m, hu⟩ := isIfaceT_ok hty hp.1
    refine ⟨equal_of (fun d => by simp [Op.equalIn, run_underlying hu]), ?_, rfl, rfl⟩
    rcases hp.2 with hc | hc <;> unfold isNilC at hc <;> split at hc <;> first | (cases op <;> simp [eqGuard]; done) | cases hc
  case h_11.isTrue hp | h_12.isTrue hp =>
    obtain ⟨a, b, c, hu⟩ := isFuncT_ok hty hp
    exact ⟨equal_of (fun d => by simp [Op.equalIn, run_underlying hu]), by cases op <;> simp [eqGuard], rfl, rfl⟩

theorem boolV_run {ty : Tab} (hty : ty.ok P) {op : BinOp} {T : TypeId} {ox oy : Operand} {x y v : SV} {obs : List Ob}
    (h : boolV (ty T) op x y = some (v, obs)) (w : World) :
    (do eqGuard op T ox oy (x.den ρ) (y.den ρ); binOp op T (x.den ρ) (y.den ρ) : Sem Value).run P w = .ok (v.den ρ) w := by
  unfold boolV at h
  split at h
  · rename_i ha
    split at h
    · rename_i hb'
      split at h
      · rename_i hp
        have hu := isBoolT_ok hty hp
        rw [toB_den ha, toB_den hb']
        have hg : ∀ a b, (eqGuard op T ox oy (.bool a) (.bool b)).run P w = .ok () w := by intros; cases op <;> simp [eqGuard]
        simp only [Sem.run_bind, hg, Result.andThen_ok]
        cases op <;> simp only [boolBin, Option.some.injEq, Prod.mk.injEq, reduceCtorEq] at h <;> obtain ⟨rfl, rfl⟩ := h
        · rw [run_eql_bool w _ _ _ hu]; simp [SV.den]
        · rw [run_neq_bool w _ _ _ hu]; simp [SV.den]
      · cases h
    · cases h
  · cases h

theorem binV_run (hb : bits = bitsOf) {ty : Tab} (hty : ty.ok P) {op : BinOp} {T : TypeId} {ox oy : Operand} {x y v : SV} {obs : List Ob}
    (h : binV bits (ty T) op ox oy x y = some (v, obs)) (ho : obsP obs) (w : World) :
    (do eqGuard op T ox oy (x.den ρ) (y.den ρ); binOp op T (x.den ρ) (y.den ρ) : Sem Value).run P w = .ok (v.den ρ) w := by
  unfold binV at h
  split at h
  · rename_i k a k' b
    have : (eqGuard op T ox oy (SV.den ρ (.int k a)) (SV.den ρ (.int k' b))).run P w = .ok () w := by cases op <;> simp [eqGuard, SV.den]
    simp only [Sem.run_bind, this, Result.andThen_ok]
    simp only [SV.den]
    split at h
    · rename_i hs; exact intBin_run hb (.inl hs) h ho w
    · split at h
      · rename_i hk; exact intBin_run hb (.inr (kindEq_eq hk)) h ho w
      · cases h
  · rename_i a b
    have : (eqGuard op T ox oy (SV.den ρ (.str a)) (SV.den ρ (.str b))).run P w = .ok () w := by cases op <;> simp [eqGuard, SV.den]
    simp only [Sem.run_bind, this, Result.andThen_ok]
    exact strBin_run hb h ho w
  · split at h
    · rename_i b hn
      obtain ⟨h1, h2, h3, h4⟩ := nilEq_run (ρ := ρ) (op := op) hty hn w
      simp only [Sem.run_bind, h2, Result.andThen_ok]
      exact eqB_run h w h1 h3 h4
    · exact boolV_run hty h w
 end
end Sx
/- The other operations that ask no memory; all of them in one function. -/
namespace Sx
open Go

def convV (W : IntKind → Int → Int) (bits : Bits) (S D : Option TI) (x : SV) : Option SV :=
  match S with
  | none => none
  | some _ => match D, x with
    | some ⟨.int k, _, _, _⟩, .int _ n => some (.int k (W k n))
    | some ⟨.str, _, _, _⟩, .int _ n => some (.str (bits.enc n))
    | some ⟨.str, _, _, _⟩, .str s => some (.str s)
    | _, _ => none
def fieldV (T : Option TI) (x : SV) (f : Nat) : Option SV :=
  match T with
  | some ⟨.struct fs, _, _, _⟩ => match fs[f]? with
    | some (off, size) => if size == 0 then none else match x with
      | .ptr id o => some (.ptr id (o + off))
      | .gptr g o => some (.gptr g (o + off))
      | .eptr id w i o => some (.eptr id w i (o + off))
      | .gel g q w i o => some (.gel g q w i (o + off))
      | _ => none
    | none => none
  | _ => none
def chkV : SV → Option SV
  | .ptr id o => some (.ptr id o)
  | .gptr g o => some (.gptr g o)
  | .eptr id w i o => some (.eptr id w i o)
  | .gel g q w i o => some (.gel g q w i o)
  | .fn (.func f) a b => some (.fn (.func f) a b)
  | .iface t v => some (.iface t v)
  | _ => none
def extV (x : SV) (i : Nat) : Option SV :=
  match x with
  | .tuple l => l[i]?
  | _ => none
def mkIface (T : Option TI) (t : TypeId) (x : SV) : Option SV :=
  match T with
  | some ⟨.iface, _, _, _⟩ => none
  | some _ => some (.iface t x)
  | none => none
def setRange (l : List SV) (off : Nat) (v : List SV) : List SV := l.take off ++ v ++ l.drop (off + v.length)
def fillS (fs : List (Nat × Nat)) (cells : List SV) : List (Nat × SV) → Option (List SV)
  | [] => some cells
  | (i, v) :: r => match fs[i]?, v.cellsL with
    | some (off, size), some vc => if vc.length == size && Nat.ble (off + vc.length) cells.length then fillS fs (setRange cells off vc) r else none
    | _, _ => none
def evPs (ev : Operand → Option SV) : List (Nat × Operand) → Option (List (Nat × SV))
  | [] => some []
  | (i, o) :: r => match ev o with
    | some v => match evPs ev r with
      | some l => some ((i, v) :: l)
      | none => none
    | none => none
def buildV (T : Option TI) (ps : List (Nat × SV)) : Option SV :=
  match T with
  | some ⟨.struct fs, _, _, .agg z⟩ => match fillS fs z ps with
    | some l => some (.agg l)
    | none => none
  | _ => none
def indexV (bits : Bits) (T : Option TI) (x i : SV) : Option (SV × List Ob) :=
  match x, i with
  | .str s, .int _ i => if isStrT T then some (.int .u8 (bits.byte s i), [.inb i (bits.len s)]) else none
  | _, _ => none
def sizeAt (ty : Tab) (T : Option TI) : Option Nat :=
  match T with
  | some ⟨.slice e, _, _, _⟩ => match ty e with
    | some t => some t.size
    | none => none
  | _ => none
def indexAddrV (bits : Bits) (ty : Tab) (T : Option TI) (x i : SV) : Option (SV × List Ob) :=
  match x, i with
  | .slice id w lo len _, .int _ i => match sizeAt ty T with
    | some n => if n == w then some (.eptr id w (bits.plus lo i) 0, [.inb i len]) else none
    | none => none
  | .vec p id w lo len _, .int _ i => match sizeAt ty T with
    | some n => if n == w then some (.eptr id w (bits.plus lo i) 0, [.inb i len, .tru p]) else none
    | none => none
  | .gsl p g off w len _, .int _ i => match sizeAt ty T with
    | some n => if n == w then some (.gel g off w (bits.plus 0 i) 0, [.inb i len, .tru p]) else none
    | none => none
  | _, _ => none
def optI (ev : Operand → Option SV) (d : Int) : Option Operand → Option Int
  | none => some d
  | some o => match ev o with
    | some (.int _ n) => some n
    | _ => none
def sliceV (bits : Bits) (ty : Tab) (T : Option TI) (ev : Operand → Option SV) (x : SV) (lo hi mx : Option Operand) : Option (SV × List Ob) :=
  match mx with
  | some _ => none
  | none => match x with
    | .str s => match optI ev 0 lo, optI ev (bits.len s) hi with
      | some l, some h => if isStrT T then some (.str (bits.sub s l h), [.le3 l h (bits.len s)]) else none
      | _, _ => none
    | .slice id w o len cap => match optI ev 0 lo, optI ev len hi, sizeAt ty T with
      | some l, some h, some n => if n == w then some (.slice id w (bits.off o l cap) (bits.gap h l) (bits.left cap l), [.le3 l h (match hi with | some _ => (cap : Int) | none => h)]) else none
      | _, _, _ => none
    | .vec p id w o len cap => match optI ev 0 lo, optI ev len hi, sizeAt ty T with
      | some l, some h, some n => if n == w then some (.vec p id w (bits.off o l cap) (bits.gap h l) (bits.left cap l), [.le3 l h (match hi with | some _ => (cap : Int) | none => h)]) else none
      | _, _, _ => none
    | .nilslice => match optI ev 0 lo, optI ev 0 hi, sizeAt ty T with
      | some l, some h, some _ => some (.nilslice, [.le3 l h 0])
      | _, _, _ => none
    | _ => none
def lenV (bits : Bits) (T : Option TI) : SV → Option SV
  | .str s => if isStrT T then some (.int .i64 (bits.len s)) else none
  | .slice _ _ _ len _ => if isSlice T then some (.int .i64 len) else none
  | .vec _ _ _ _ len _ => if isSlice T then some (.int .i64 len) else none
  | .gsl _ _ _ _ len _ => if isSlice T then some (.int .i64 len) else none
  | .nilslice => if isSlice T then some (.int .i64 0) else none
  | .nilmap => if isMapT T then some (.int .i64 0) else none
  | _ => none
def capV (T : Option TI) : SV → Option SV
  | .slice _ _ _ _ cap => if isSlice T then some (.int .i64 cap) else none
  | .vec _ _ _ _ _ cap => if isSlice T then some (.int .i64 cap) else none
  | .nilslice => if isSlice T then some (.int .i64 0) else none
  | _ => none
def bltV (bits : Bits) (ty : Tab) (b : Builtin) (ts : List TypeId) (xs : List SV) : Option SV :=
  match b, ts, xs with
  | .len, t :: _, [x] => lenV bits (ty t) x
  | .cap, t :: _, [x] => capV (ty t) x
  | .max, _, [.int k x, .int _ y] => some (.int k (bits.i .gtr k x y))
  | .min, _, [.int k x, .int _ y] => some (.int k (bits.i .lss k x y))
  | .min, _, [.int k x, .int _ y, .int _ z] => some (.int k (bits.i .lss k (bits.i .lss k x y) z))
  | _, _, _ => none
def natEq : Nat → Nat → Bool := Nat.beq
def assertV (T : Option TI) (A : TypeId) (ok : Bool) (x : SV) : Option SV :=
  match T with
  | none | some ⟨.iface, _, _, _⟩ => none
  | some a => match x with
    | .iface t v => if natEq t A then some (if ok then .tuple [v, .tt] else v) else if ok then some (.tuple [a.zero, .ff]) else none
    | .niliface => if ok then some (.tuple [a.zero, .ff]) else none
    | _ => none
def noOb (v : Option SV) : Option (SV × List Ob) :=
  match v with
  | some v => some (v, [])
  | none => none
def unV (W : IntKind → Int → Int) (bits : Bits) (op : UnOp) (x : SV) : Option SV :=
  match op, x with
  | .not, .tt => some .ff
  | .not, .ff => some .tt
  | .not, .bool b => some (.bool (!b))
  | .neg, .int k n => some (.int k (W k (0 - n)))
  | .xor, .int k n => some (.int k (bits.i .xor k (if k.signed then -1 else k.max) n))
  | _, _ => none
def pickV (ev : Operand → Option SV) (c a b : Operand) : Option SV :=
  match ev c with
  | some .tt => ev a
  | some .ff => ev b
  | _ => none

/-- What an operation gives that asks no memory; under which conditions. -/
def pureV (W : IntKind → Int → Int) (bits : Bits) (ty : Tab) (ev : Operand → Option SV) (evs : List Operand → Option (List SV)) (o : Op) : Option (SV × List Ob) :=
  match o with
  | .move x | .assign x => noOb (ev x)
  | .pick c a b => noOb (pickV ev c a b)
  | .nilCheck x => match ev x with
    | some v => noOb (chkV v)
    | none => none
  | .binOp op t x y _ => match ev x, ev y with
    | some a, some b => binV bits (ty t) op x y a b
    | _, _ => none
  | .unOp op _ x => match ev x with
    | some a => noOb (unV W bits op a)
    | none => none
  | .convert s d x => match ev x with
    | some a => noOb (convV W bits (ty s) (ty d) a)
    | none => none
  | .fieldAddr t x f => match ev x with
    | some a => noOb (fieldV (ty t) a f)
    | none => none
  | .extract x i => match ev x with
    | some a => noOb (extV a i)
    | none => none
  | .makeInterface t x => match ev x with
    | some a => noOb (mkIface (ty t) t a)
    | none => none
  | .makeFunc fn a b => match evs a.toList, evs b.toList with
    | some a, some b => noOb (some (.fn fn a b))
    | _, _ => none
  | .build t ps => match evPs ev ps.toList with
    | some l => noOb (buildV (ty t) l)
    | none => none
  | .index t x i => match ev x, ev i with
    | some a, some b => indexV bits (ty t) a b
    | _, _ => none
  | .indexAddr t x i => match ev x, ev i with
    | some a, some b => indexAddrV bits ty (ty t) a b
    | _, _ => none
  | .slice t x lo hi mx => match ev x with
    | some a => sliceV bits ty (ty t) ev a lo hi mx
    | none => none
  | .typeAssert x _ a ok => match ev x with
    | some v => noOb (assertV (ty a) a ok v)
    | none => none
  | .call ⟨.builtin b, xs, ts⟩ => match evs xs.toList with
    | some l => noOb (bltV bits ty b ts.toList l)
    | none => none
  | _ => none
end Sx
