/-
  Part of a proof.
-/
import Derived.Orders
import Derived.Laws.Sem
import Derived.Laws.Entries
import Derived.Laws.Small
import Derived.WalkSpells
import Derived.WideLaws
import Derived.MapKept
set_option linter.unusedVariables false
set_option linter.unusedSimpArgs false
/- Separate heaps: a small affine separation logic over the blocks of a world. -/
namespace Sx
open Go

abbrev Hp := Nat → Option Obj
abbrev HP := Hp → Prop

def SatR : List HP → (Nat → Prop) → Hp → Prop
  | [], _, _ => True
  | A :: r, U, H => ∃ h, A h ∧ (∀ b o, h b = some o → H b = some o ∧ ¬ U b) ∧ SatR r (fun b => U b ∨ (h b).isSome = true) H

theorem isSome_ex {α : Type} {x : Option α} (h : x.isSome = true) : ∃ o, x = some o := Option.isSome_iff_exists.1 h

theorem SatR.mono : ∀ {Ps : List HP} {U V : Nat → Prop} {h H : Hp}, SatR Ps U h →
    (∀ b o, h b = some o → ¬ U b → H b = some o ∧ ¬ V b) → SatR Ps V H
  | [], _, _, _, _, _, _ => trivial
  | A :: r, U, V, h, H, ⟨h1, a, s, t⟩, f => by
    refine ⟨h1, a, fun b o e => f b o (s b o e).1 (s b o e).2, ?_⟩
    refine SatR.mono t fun b o e n => ?_
    have n1 : ¬ U b := fun x => n (.inl x)
    have n2 : ¬ (h1 b).isSome = true := fun x => n (.inr x)
    exact ⟨(f b o e n1).1, fun x => x.elim (f b o e n1).2 n2⟩

theorem SatR.anti {Ps : List HP} {U V : Nat → Prop} {H : Hp} (h : SatR Ps U H) (f : ∀ b, V b → U b) : SatR Ps V H :=
  h.mono fun b _ e n => ⟨e, fun v => n (f b v)⟩

theorem SatR.tail {A : HP} {Ps : List HP} {U : Nat → Prop} {H : Hp} (h : SatR (A :: Ps) U H) : SatR Ps U H :=
  let ⟨_, _, _, t⟩ := h; t.anti fun _ => .inl

theorem SatR.swap {A B : HP} {Ps : List HP} {U : Nat → Prop} {H : Hp} (h : SatR (A :: B :: Ps) U H) : SatR (B :: A :: Ps) U H := by
  obtain ⟨h1, a, s1, h2, b, s2, t⟩ := h
  refine ⟨h2, b, fun c o e => ⟨(s2 c o e).1, fun u => (s2 c o e).2 (.inl u)⟩, h1, a, fun c o e => ⟨(s1 c o e).1, ?_⟩, t.anti ?_⟩
  · rintro (u | u)
    · exact (s1 c o e).2 u
    · obtain ⟨o', e'⟩ := isSome_ex u
      exact (s2 c o' e').2 (.inr (by simp [e]))
  · rintro c ((u | u) | u)
    · exact .inl (.inl u)
    · exact .inr u
    · exact .inl (.inr u)

theorem SatR.cons {A : HP} {Ps Qs : List HP} {U : Nat → Prop} {H : Hp} (f : ∀ V, SatR Ps V H → SatR Qs V H) (h : SatR (A :: Ps) U H) : SatR (A :: Qs) U H :=
  let ⟨h1, a, s, t⟩ := h; ⟨h1, a, s, f _ t⟩

theorem SatR.perm {Ps Qs : List HP} (p : Ps.Perm Qs) : ∀ {U : Nat → Prop} {H : Hp}, SatR Ps U H → SatR Qs U H := by
  induction p with
  | nil => intro U H h; exact h
  | cons A _ ih => intro U H h; exact SatR.cons (fun V t => ih t) h
  | swap A B l => intro U H h; exact h.swap
  | trans _ _ ih1 ih2 => intro U H h; exact ih2 (ih1 h)

theorem SatR.appR : ∀ {Ps Qs : List HP} {U : Nat → Prop} {H : Hp}, SatR (Ps ++ Qs) U H → SatR Qs U H
  | [], _, _, _, h => h
  | _ :: _, _, _, _, h => SatR.appR (SatR.tail h)

theorem SatR.map1 {A B : HP} {Ps : List HP} {U : Nat → Prop} {H : Hp} (f : ∀ h, A h → B h) (h : SatR (A :: Ps) U H) : SatR (B :: Ps) U H :=
  let ⟨h1, a, s, t⟩ := h; ⟨h1, f _ a, s, t⟩

def starL (Ps : List HP) : HP := fun h => SatR Ps (fun _ => False) h
def pts (b : Nat) (o : Obj) : HP := fun h => h b = some o ∧ ∀ c, c ≠ b → h c = none
def exP {α : Type} (f : α → HP) : HP := fun h => ∃ a, f a h
def pureP (p : Prop) : HP := fun _ => p
def anyP : HP := fun _ => True

theorem SatR.flat_aux : ∀ {Qs : List HP} {V : Nat → Prop} {h : Hp}, SatR Qs V h → ∀ {U : Nat → Prop} {H : Hp} {r : List HP},
    (∀ b o, h b = some o → H b = some o ∧ ¬ U b) → SatR r (fun b => U b ∨ (h b).isSome = true) H →
    SatR (Qs ++ r) (fun b => U b ∨ (V b ∧ (h b).isSome = true)) H
  | [], _, _, _, _, _, _, _, t => t.anti fun _ x => x.imp id And.right
  | Q :: Qs, V, h, ⟨h1, q, s1, t1⟩, U, H, r, s, t => by
    refine ⟨h1, q, fun b o e => ⟨(s b o (s1 b o e).1).1, ?_⟩, ?_⟩
    · rintro (u | ⟨v, _⟩)
      · exact (s b o (s1 b o e).1).2 u
      · exact (s1 b o e).2 v
    · refine (SatR.flat_aux t1 s t).anti ?_
      rintro b ((u | ⟨v, d⟩) | d)
      · exact .inl u
      · exact .inr ⟨.inl v, d⟩
      · obtain ⟨o, e⟩ := isSome_ex d
        exact .inr ⟨.inr d, by simp [(s1 b o e).1]⟩

theorem SatR.flat {Qs r : List HP} {U : Nat → Prop} {H : Hp} (h : SatR (starL Qs :: r) U H) : SatR (Qs ++ r) U H := by
  obtain ⟨h1, q, s, t⟩ := h
  exact (SatR.flat_aux q s t).anti fun _ => .inl

theorem SatR.fold_aux : ∀ {Qs r : List HP} {U : Nat → Prop} {H : Hp}, SatR (Qs ++ r) U H →
    ∃ h, starL Qs h ∧ (∀ b o, h b = some o → H b = some o ∧ ¬ U b) ∧ SatR r (fun b => U b ∨ (h b).isSome = true) H
  | [], r, U, H, t => ⟨fun _ => none, trivial, fun _ _ e => by simp at e, t.anti fun _ x => x.elim id (fun y => by simp at y)⟩
  | Q :: Qs, r, U, H, ⟨h1, q, s1, t1⟩ => by
    obtain ⟨h2, q2, s2, t2⟩ := SatR.fold_aux t1
    refine ⟨fun b => (h1 b).or (h2 b), ⟨h1, q, fun b o e => ⟨by simp [e], id⟩, ?_⟩, fun b o e => ?_, t2.anti ?_⟩
    · refine SatR.mono q2 fun b o e _ => ⟨?_, ?_⟩
      · have : h1 b = none := by
          cases hb : h1 b with
          | none => rfl
          | some o' => exact absurd (Or.inr (by simp [hb])) (s2 b o e).2
        simp [this, e]
      · rintro (x | x)
        · exact x
        · exact (s2 b o e).2 (.inr x)
    · cases hb : h1 b with
      | none => simp [hb] at e; exact ⟨(s2 b o e).1, fun u => (s2 b o e).2 (.inl u)⟩
      | some o' => simp [hb] at e; subst e; exact s1 b o' hb
    · rintro b (u | u)
      · exact .inl (.inl u)
      · cases hb : h1 b with
        | none => simp [hb] at u; exact .inr u
        | some o' => exact .inl (.inr (by simp))

theorem SatR.fold {Qs r : List HP} {U : Nat → Prop} {H : Hp} (h : SatR (Qs ++ r) U H) : SatR (starL Qs :: r) U H := SatR.fold_aux h

theorem SatR.ex {α : Type} {f : α → HP} {r : List HP} {U : Nat → Prop} {H : Hp} (h : SatR (exP f :: r) U H) : ∃ a, SatR (f a :: r) U H :=
  let ⟨h1, ⟨a, q⟩, s, t⟩ := h; ⟨a, h1, q, s, t⟩
theorem SatR.pure {p : Prop} {r : List HP} {U : Nat → Prop} {H : Hp} (h : SatR (pureP p :: r) U H) : p ∧ SatR r U H :=
  ⟨let ⟨_, q, _, _⟩ := h; q, h.tail⟩
theorem SatR.addAny {A : HP} (hA : A fun _ => none) {r : List HP} {U : Nat → Prop} {H : Hp} (h : SatR r U H) : SatR (A :: r) U H :=
  ⟨fun _ => none, hA, fun _ _ e => by simp at e, h.anti fun _ x => x.elim id (fun y => by simp at y)⟩

def upd (H : Hp) (b : Nat) (o : Obj) : Hp := fun c => if c = b then some o else H c

theorem SatR.get {b : Nat} {o : Obj} {r : List HP} {U : Nat → Prop} {H : Hp} (h : SatR (pts b o :: r) U H) : H b = some o ∧ ¬ U b :=
  let ⟨_, q, s, _⟩ := h; s b o q.1

theorem SatR.put {b : Nat} {o o' : Obj} {r : List HP} {U : Nat → Prop} {H : Hp} (h : SatR (pts b o :: r) U H) : SatR (pts b o' :: r) U (upd H b o') := by
  obtain ⟨h1, q, s, t⟩ := h
  refine ⟨fun c => if c = b then some o' else none, ⟨by simp, fun c hc => by simp [hc]⟩, fun c x e => ?_, ?_⟩
  · by_cases hc : c = b
    · subst hc; simp at e; subst e; exact ⟨by simp [upd], (s _ _ q.1).2⟩
    · simp [hc] at e
  · refine SatR.mono t fun c x e n => ?_
    have hc : c ≠ b := fun hc => n (.inr (by subst hc; simp [q.1]))
    exact ⟨by simp [upd, hc, e], fun y => y.elim (fun u => n (.inl u)) (fun u => by simp [hc] at u)⟩

theorem SatR.new {b : Nat} {o : Obj} {r : List HP} {U : Nat → Prop} {H : Hp} (h : SatR r U H) (hb : H b = none) (hu : ¬ U b) : SatR (pts b o :: r) U (upd H b o) := by
  refine ⟨fun c => if c = b then some o else none, ⟨by simp, fun c hc => by simp [hc]⟩, fun c x e => ?_, ?_⟩
  · by_cases hc : c = b
    · subst hc; simp at e; subst e; exact ⟨by simp [upd], hu⟩
    · simp [hc] at e
  · refine SatR.mono h fun c x e n => ?_
    have hc : c ≠ b := fun hc => by subst hc; rw [hb] at e; cases e
    exact ⟨by simp [upd, hc, e], fun y => y.elim n (fun u => by simp [hc] at u)⟩

theorem SatR.heap {r : List HP} {U : Nat → Prop} {H H' : Hp} (h : SatR r U H) (e : ∀ b, ¬ U b → H b = H' b) : SatR r U H' :=
  SatR.mono h fun b _ hb n => ⟨(e b n) ▸ hb, n⟩

/- What stays as it was: all blocks below 'base'. -/
structure Gl where
  base : Nat
  w0 : Nat → Option Obj
  io : Os × Array (Nat × ByteArray)

def hp (w : World) : Hp := fun b => w.heap[b]?

/-- the outside, and what was printed -/
def io (w : World) : Os × Array (Nat × ByteArray) := (w.os, w.output)
structure Old (G : Gl) (w : World) : Prop where
  io : Sx.io w = G.io
  old : ∀ b, b < G.base → w.heap[b]? = G.w0 b
structure Sat (G : Gl) (Ps : List HP) (w : World) : Prop where
  size : G.base ≤ w.heap.size
  old : Old G w
  sep : SatR Ps (fun b => b < G.base) (hp w)

section
variable {G : Gl} {Ps : List HP} {w : World}

theorem Sat.perm {Qs : List HP} (h : Sat G Ps w) (p : Ps.Perm Qs) : Sat G Qs w := ⟨h.size, h.old, h.sep.perm p⟩
theorem Sat.same {w' : World} (h : Sat G Ps w) (e : w'.heap = w.heap) (ei : io w' = io w := by rfl) : Sat G Ps w' := ⟨e ▸ h.size, ⟨ei.trans h.old.io, fun b hb => by rw [e]; exact h.old.old b hb⟩, by
  have : hp w' = hp w := by unfold hp; rw [e]
  rw [this]; exact h.sep⟩

theorem Sat.new (h : Sat G Ps w) (o : Obj) : Sat G (pts w.heap.size o :: Ps) { w with heap := w.heap.push o } := by
  refine ⟨by simp; have := h.size; omega, ⟨h.old.io, fun b hb => ?_⟩, ?_⟩
  · have := h.size
    rw [Array.getElem?_push_lt (by omega), ← h.old.old b hb, Array.getElem?_eq_getElem (by omega)]
  · have e : hp { w with heap := w.heap.push o } = upd (hp w) w.heap.size o := by
      funext b
      simp only [hp, upd]
      by_cases hb : b = w.heap.size
      · subst hb; simp
      · simp only [hb, if_false]
        rw [Array.getElem?_push]; simp [hb]
    rw [e]
    exact h.sep.new (by simp [hp]) (by have := h.size; omega)

theorem Sat.get {b : Nat} {o : Obj} (h : Sat G (pts b o :: Ps) w) : w.heap[b]? = some o := h.sep.get.1
theorem Sat.above {b : Nat} {o : Obj} (h : Sat G (pts b o :: Ps) w) : G.base ≤ b := Nat.le_of_not_lt h.sep.get.2

theorem Sat.put {b : Nat} {o o' : Obj} {w' : World} (h : Sat G (pts b o :: Ps) w) (e : w'.heap = w.heap.setIfInBounds b o') (ei : io w' = io w := by rfl) : Sat G (pts b o' :: Ps) w' := by
  have hb := h.get
  have ha := h.above
  have hlt : b < w.heap.size := by
    rcases Nat.lt_or_ge b w.heap.size with x | x
    · exact x
    · rw [Array.getElem?_eq_none x] at hb; cases hb
  refine ⟨by rw [e]; simpa using h.size, ⟨ei.trans h.old.io, fun c hc => by rw [e, Array.getElem?_setIfInBounds_ne (by omega)]; exact h.old.old c hc⟩, ?_⟩
  have e' : hp w' = upd (hp w) b o' := by
    funext c
    simp only [hp, upd, e]
    by_cases hc : c = b
    · subst hc; simp [hlt]
    · rw [Array.getElem?_setIfInBounds_ne (fun x => hc x.symm)]; simp [hc]
  rw [e']
  exact h.sep.put

theorem modify_eq_set (a : Array Obj) (b : Nat) (f : Obj → Obj) (o : Obj) (h : a[b]? = some o) : a.modify b f = a.setIfInBounds b (f o) := by
  apply Array.ext_getElem?
  intro i
  by_cases hi : b = i
  · subst hi
    have hlt : b < a.size := (Array.getElem?_eq_some_iff.1 h).1
    rw [Array.getElem?_modify, if_pos rfl, h, Array.getElem?_setIfInBounds_self_of_lt hlt]; rfl
  · rw [Array.getElem?_modify, if_neg hi, Array.getElem?_setIfInBounds_ne hi]

theorem Sat.setCell {b : Nat} {c : Array Value} {T : TypeId} {fz : Nat × Nat} {off : Nat} {v : Value}
    (h : Sat G (pts b (.cells c T fz) :: Ps) w) : Sat G (pts b (.cells (c.setIfInBounds off v) T fz) :: Ps) (w.setCell ⟨b, off, none⟩ v) := by
  refine h.put ?_ rfl
  simp only [World.setCell]
  rw [modify_eq_set _ _ _ _ h.get]
  simp
 end
end Sx
/- Symbolic values over logical blocks; operations that ask no memory, with a proof that the model's run agrees. -/
namespace Sx
open Go

inductive Lit where
  | int (k : IntKind) (n : Int)
  | bool (b : Bool)
  | str (s : ByteArray)
  | ptr (g : Nat)
  | nil
  | mref (o : Option Nat)
  | slref (a : Option Addr) (len cap : Nat)
def Lit.val : Lit → Value
  | .int k n => .int k n
  | .bool b => .bool b
  | .str s => .string s
  | .ptr g => .pointer (some ⟨g, 0, none⟩)
  | .nil => .pointer none
  | .mref o => .map o
  | .slref a len cap => .slice a len cap

inductive SV where
  | int (k : IntKind) (n : Int)
  | bool (b : Bool)
  | tt | ff
  | str (s : ByteArray)
  | ptr (id off : Nat)
  | nil
  | gptr (g off : Nat)
  | slice (id w lo len cap : Nat)
  | nilslice
  | vec (p : Bool) (id w lo len cap : Nat)
  | eptr (id w idx f : Nat)
  | map (id : Nat)
  | nilmap
  | fn (f : Fn) (first captured : List SV)
  | nilfn
  | iface (t : TypeId) (v : SV)
  | niliface
  | agg (l : List SV)
  | tuple (l : List SV)
  | raw (v : Value)

mutual
def SV.den (ρ : Nat → Nat) : SV → Value
  | .int k n => .int k n
  | .bool b => .bool b
  | .tt => .bool true
  | .ff => .bool false
  | .str s => .string s
  | .ptr id off => .pointer (some ⟨ρ id, off, none⟩)
  | .nil => .pointer none
  | .gptr g off => .pointer (some ⟨g, off, none⟩)
  | .slice id w lo len cap => .slice (some ⟨ρ id, lo * w, none⟩) len cap
  | .nilslice => .slice none 0 0
  | .vec p id w lo len cap => .slice (if p then some ⟨ρ id, lo * w, none⟩ else none) len cap
  | .eptr id w idx f => .pointer (some ⟨ρ id, idx * w + f, none⟩)
  | .map id => .map (some (ρ id))
  | .nilmap => .map none
  | .fn f a b => .func f (SV.denL ρ a).toArray (SV.denL ρ b).toArray
  | .nilfn => .nilFunc
  | .iface t v => .iface t (v.den ρ)
  | .niliface => .nilIface
  | .agg l => .agg (SV.denL ρ l).toArray
  | .tuple l => .tuple (SV.denL ρ l).toArray
  | .raw v => v
def SV.denL (ρ : Nat → Nat) : List SV → List Value
  | [] => []
  | v :: r => v.den ρ :: SV.denL ρ r
 end

mutual
/-- every logical block in it meets p -/
def SV.idOk (p : Nat → Bool) : SV → Bool
  | .ptr id _ => p id
  | .slice id _ _ _ _ => p id
  | .vec _ id _ _ _ _ => p id
  | .eptr id _ _ _ => p id
  | .map id => p id
  | .fn _ a b => SV.idOkL p a && SV.idOkL p b
  | .iface _ v => v.idOk p
  | .agg l => SV.idOkL p l
  | .tuple l => SV.idOkL p l
  | _ => true
def SV.idOkL (p : Nat → Bool) : List SV → Bool
  | [] => true
  | v :: r => v.idOk p && SV.idOkL p r
 end

mutual
def SV.ren (σ : Nat → Nat) : SV → SV
  | .ptr id off => .ptr (σ id) off
  | .slice id w lo len cap => .slice (σ id) w lo len cap
  | .vec p id w lo len cap => .vec p (σ id) w lo len cap
  | .eptr id w idx f => .eptr (σ id) w idx f
  | .map id => .map (σ id)
  | .fn f a b => .fn f (SV.renL σ a) (SV.renL σ b)
  | .iface t v => .iface t (v.ren σ)
  | .agg l => .agg (SV.renL σ l)
  | .tuple l => .tuple (SV.renL σ l)
  | .int k n => .int k n
  | .bool b => .bool b
  | .tt => .tt
  | .ff => .ff
  | .str s => .str s
  | .nil => .nil
  | .gptr g o => .gptr g o
  | .nilslice => .nilslice
  | .nilmap => .nilmap
  | .nilfn => .nilfn
  | .niliface => .niliface
  | .raw v => .raw v
def SV.renL (σ : Nat → Nat) : List SV → List SV
  | [] => []
  | v :: r => v.ren σ :: SV.renL σ r
 end

theorem SV.denL_eq (ρ : Nat → Nat) : ∀ l, SV.denL ρ l = l.map (SV.den ρ)
  | [] => by simp [SV.denL]
  | v :: r => by simp [SV.denL, SV.denL_eq ρ r]

mutual
theorem SV.den_congr {ρ ρ' : Nat → Nat} {p : Nat → Bool} (h : ∀ i, p i = true → ρ i = ρ' i) : ∀ v : SV, v.idOk p = true → v.den ρ = v.den ρ'
  | .ptr id _, e | .slice id _ _ _ _, e | .vec _ id _ _ _ _, e | .eptr id _ _ _, e | .map id, e => by simp only [SV.idOk] at e; simp [SV.den, h id e]
  | .fn f a b, e => by
    simp only [SV.idOk, Bool.and_eq_true] at e
    simp [SV.den, SV.denL_congr h a e.1, SV.denL_congr h b e.2]
  | .iface t v, e => by simp only [SV.idOk] at e; simp [SV.den, SV.den_congr h v e]
  | .agg l, e | .tuple l, e => by simp only [SV.idOk] at e; simp [SV.den, SV.denL_congr h l e]
  | .int .., _ | .bool _, _ | .tt, _ | .ff, _ | .str _, _ | .nil, _ | .gptr .., _ | .nilslice, _ | .nilmap, _ | .nilfn, _ | .niliface, _ | .raw _, _ => by simp [SV.den]
theorem SV.denL_congr {ρ ρ' : Nat → Nat} {p : Nat → Bool} (h : ∀ i, p i = true → ρ i = ρ' i) : ∀ l : List SV, SV.idOkL p l = true → SV.denL ρ l = SV.denL ρ' l
  | [], _ => by simp [SV.denL]
  | v :: r, e => by
    simp only [SV.idOkL, Bool.and_eq_true] at e
    simp [SV.denL, SV.den_congr h v e.1, SV.denL_congr h r e.2]
 end

mutual
theorem SV.den_ren {ρ σ : Nat → Nat} : ∀ v : SV, (v.ren σ).den ρ = v.den (fun i => ρ (σ i))
  | .fn f a b => by simp [SV.den, SV.ren, SV.denL_ren a, SV.denL_ren b]
  | .iface t v => by simp [SV.den, SV.ren, SV.den_ren v]
  | .agg l | .tuple l => by simp [SV.den, SV.ren, SV.denL_ren l]
  | .ptr .. | .slice .. | .vec .. | .eptr .. | .map _ | .int .. | .bool _ | .tt | .ff | .str _ | .nil | .gptr .. | .nilslice | .nilmap | .nilfn | .niliface | .raw _ => by simp [SV.den, SV.ren]
theorem SV.denL_ren {ρ σ : Nat → Nat} : ∀ l : List SV, SV.denL ρ (SV.renL σ l) = SV.denL (fun i => ρ (σ i)) l
  | [] => by simp [SV.denL, SV.renL]
  | v :: r => by simp [SV.denL, SV.renL, SV.den_ren v, SV.denL_ren r]
 end

/- Types, as far as they are asked. -/
inductive TD where
  | bool | int (k : IntKind) | str | ptr | slice (e : TypeId) | map (k e : TypeId) | func | iface
  | struct (fs : List (Nat × Nat))     -- of each field: its first cell, how many it has
  | array (n : Nat) (e : TypeId)
structure TI where
  d : TD
  size : Nat
  bytes : Nat
  zero : SV

/-- the cells of a value -/
def SV.cellsL : SV → Option (List SV)
  | .agg l => some l
  | .tuple _ | .raw _ => none
  | v => some [v]
theorem SV.cellsL_den {ρ : Nat → Nat} {v : SV} {l : List SV} (h : v.cellsL = some l) : (v.den ρ).cells.toList = SV.denL ρ l := by
  cases v <;> simp only [SV.cellsL, Option.some.injEq, reduceCtorEq] at h <;> subst h <;> simp [SV.den, SV.denL, Value.cells]

def TD.ok (P : Program) (t : TypeId) : TD → Prop
  | .bool => P.underlying t = some .bool
  | .int k => P.underlying t = some (.int k)
  | .str => P.underlying t = some .string
  | .ptr => ∃ e, P.underlying t = some (.pointer e)
  | .slice e => P.underlying t = some (.slice e)
  | .map k e => P.underlying t = some (.map k e)
  | .func => ∃ a b c, P.underlying t = some (.func a b c)
  | .iface => ∃ m, P.underlying t = some (.interface m)
  | .struct fs => ∃ f, P.underlying t = some (.struct f) ∧ f.toList.map (fun x => (x.offset, P.cellsOf x.type)) = fs ∧ (∀ x ∈ f.toList, (P.info? x.type).isSome = true)
  | .array n e => P.underlying t = some (.array n e)
structure TI.ok (P : Program) (t : TypeId) (x : TI) : Prop where
  info : ∃ i, P.info? t = some i ∧ i.size = x.size ∧ i.bytes = x.bytes ∧ i.zero = some (x.zero.den id)
  noid : x.zero.idOk (fun _ => false) = true
  desc : x.d.ok P t
def Tab := TypeId → Option TI
def Tab.ok (P : Program) (ty : Tab) : Prop := ∀ t x, ty t = some x → x.ok P t

def TD.isAgg : TD → Bool
  | .struct _ | .array _ _ => true
  | _ => false

section
variable {P : Program} {t : TypeId} {x : TI}
theorem TI.ok.run_typeInfo (h : x.ok P t) (w : World) : ∃ i, (typeInfo t).run P w = .ok i w ∧ i.size = x.size ∧ i.bytes = x.bytes ∧ i.zero = some (x.zero.den id) :=
  let ⟨i, hi, a, b, c⟩ := h.info; ⟨i, by simp [typeInfo, hi], a, b, c⟩
theorem TI.ok.run_sizeOf (h : x.ok P t) (w : World) : (Go.sizeOf t).run P w = .ok x.size w := by
  obtain ⟨i, e, a, _⟩ := h.run_typeInfo w
  simp [Go.sizeOf, e, a]
theorem TI.ok.zero_den (h : x.ok P t) (ρ : Nat → Nat) : x.zero.den id = x.zero.den ρ := SV.den_congr (by simp) x.zero h.noid
theorem TI.ok.run_zeroValue (h : x.ok P t) (ρ : Nat → Nat) (w : World) : (zeroValue t).run P w = .ok (x.zero.den ρ) w := by
  obtain ⟨i, e, _, _, c⟩ := h.run_typeInfo w
  rw [h.zero_den ρ] at c
  simp [zeroValue, e, c]
theorem TI.ok.und (h : x.ok P t) : ∃ d, P.underlying t = some d := by
  have d := h.desc
  cases e : x.d <;> simp only [e, TD.ok] at d
  case ptr => obtain ⟨_, d⟩ := d; exact ⟨_, d⟩
  case func => obtain ⟨_, _, _, d⟩ := d; exact ⟨_, d⟩
  case iface => obtain ⟨_, d⟩ := d; exact ⟨_, d⟩
  case struct => obtain ⟨_, d, _⟩ := d; exact ⟨_, d⟩
  all_goals exact ⟨_, d⟩
theorem TI.ok.und_not_iface (h : x.ok P t) (hd : x.d ≠ .iface) : ∃ d, P.underlying t = some d ∧ ∀ m, d ≠ .interface m := by
  have d := h.desc
  cases e : x.d <;> simp only [e, TD.ok] at d
  case ptr => obtain ⟨_, d⟩ := d; exact ⟨_, d, by simp⟩
  case func => obtain ⟨_, _, _, d⟩ := d; exact ⟨_, d, by simp⟩
  case iface => exact absurd e hd
  case struct => obtain ⟨_, d, _⟩ := d; exact ⟨_, d, by simp⟩
  all_goals exact ⟨_, d, by simp⟩
theorem TI.ok.run_isAgg (h : x.ok P t) (w : World) : (isAgg t).run P w = .ok x.d.isAgg w := by
  have d := h.desc
  cases e : x.d <;> simp only [e, TD.ok] at d <;> simp only [TD.isAgg]
  case ptr => obtain ⟨_, d⟩ := d; simp [isAgg, run_underlying d]
  case func => obtain ⟨_, _, _, d⟩ := d; simp [isAgg, run_underlying d]
  case iface => obtain ⟨_, d⟩ := d; simp [isAgg, run_underlying d]
  case struct => obtain ⟨_, d, _⟩ := d; simp [isAgg, run_underlying d]
  all_goals simp [isAgg, run_underlying d]
 end

/- Environments: what the temporaries hold. -/
/-- two orders that lead to the same state -/
theorem dup {p q : Prop} (h : p ∧ q) : p ∧ (p ∧ q) := ⟨h.1, h⟩
abbrev Env := List (Nat × SV)
def eget : Env → Nat → Option SV
  | [], _ => none
  | (s, v) :: r, t => if s == t then some v else eget r t
def eset : Env → Nat → SV → Env
  | [], t, v => [(t, v)]
  | (s, u) :: r, t, v => if s == t then (s, v) :: r else if Nat.ble s t then (s, u) :: eset r t v else (t, v) :: (s, u) :: r
def edel : Env → Nat → Env
  | [], _ => []
  | (s, u) :: r, t => if s == t then edel r t else (s, u) :: edel r t
def eall (p : Nat → Bool) : Env → Bool
  | [] => true
  | (_, v) :: r => v.idOk p && eall p r

theorem eget_eset (t : Nat) (v : SV) (s : Nat) : ∀ e : Env, eget (eset e t v) s = if t = s then some v else eget e s
  | [] => by
    by_cases h : t = s <;> simp [eset, eget, h]
  | (a, u) :: r => by
    by_cases h : a = t
    · subst h; by_cases hs : a = s <;> simp [eset, eget, hs]
    · have := eget_eset t v s r
      by_cases hb : Nat.ble a t = true
      · by_cases hs : a = s
        · subst hs; simp [eset, eget, h, Ne.symm h, hb]
        · simp [eset, eget, h, hb, hs, this]
      · by_cases hs : t = s
        · subst hs; simp [eset, eget, h, hb]
        · by_cases hs2 : a = s
          · subst hs2; simp [eset, eget, h, hb, hs]
          · simp [eset, eget, h, hb, hs, hs2]
theorem eget_edel (t s : Nat) : ∀ e : Env, eget (edel e t) s = if t = s then none else eget e s
  | [] => by by_cases h : t = s <;> simp [edel, eget]
  | (a, u) :: r => by
    have := eget_edel t s r
    by_cases h : a = t
    · subst h; by_cases hs : a = s <;> simp_all [edel, eget]
    · by_cases hs : a = s
      · subst hs; simp [edel, eget, h, Ne.symm h]
      · simp [edel, eget, h, hs, this]
theorem eall_get {p : Nat → Bool} : ∀ {e : Env} {t : Nat} {v : SV}, eall p e = true → eget e t = some v → v.idOk p = true
  | (s, u) :: r, t, v, h, g => by
    simp only [eall, Bool.and_eq_true] at h
    by_cases hs : s = t
    · simp [eget, hs] at g; subst g; exact h.1
    · simp [eget, hs] at g; exact eall_get h.2 g

def EnvOk (ρ : Nat → Nat) (e : Env) (a : Act) : Prop := ∀ t v, eget e t = some v → a.tmps.getD t undef = v.den ρ

theorem EnvOk.congr {ρ ρ' : Nat → Nat} {e : Env} {a : Act} {p : Nat → Bool} (h : EnvOk ρ e a) (hp : eall p e = true) (hr : ∀ i, p i = true → ρ i = ρ' i) : EnvOk ρ' e a :=
  fun t v g => (h t v g).trans (SV.den_congr hr v (eall_get hp g))
theorem EnvOk.put {ρ : Nat → Nat} {e : Env} {a : Act} {d : Nat} {v : SV} (h : EnvOk ρ e a) (hd : d < a.tmps.size) : EnvOk ρ (eset e d v) (a.put (some d) (v.den ρ)) := by
  intro t u g
  rw [eget_eset] at g
  by_cases ht : d = t
  · subst ht; simp at g; subst g; simp [Act.put, hd]
  · simp [ht] at g
    have := h t u g
    simpa [Act.put, Array.getElem?_setIfInBounds_ne ht] using this
theorem EnvOk.del {ρ : Nat → Nat} {e : Env} {a : Act} {d : Nat} {x : Value} (h : EnvOk ρ e a) : EnvOk ρ (edel e d) (a.put (some d) x) := by
  intro t u g
  rw [eget_edel] at g
  by_cases ht : d = t
  · simp [ht] at g
  · simp [ht] at g
    have := h t u g
    simpa [Act.put, Array.getElem?_setIfInBounds_ne ht] using this

def ofV : Value → Option SV
  | .int k n => some (.int k n)
  | .bool true => some .tt
  | .bool false => some .ff
  | .string s => some (.str s)
  | .pointer none => some .nil
  | .slice none 0 0 => some .nilslice
  | .map none => some .nilmap
  | .nilFunc => some .nilfn
  | .nilIface => some .niliface
  | _ => none
theorem ofV_den {ρ : Nat → Nat} {x : Value} {v : SV} (h : ofV x = some v) : x = v.den ρ := by
  unfold ofV at h
  split at h <;> simp only [Option.some.injEq, reduceCtorEq] at h <;> subst h <;> simp [SV.den]

def evO (e : Env) : Operand → Option SV
  | .tmp t => eget e t
  | .const v => ofV v
  | .global g => some (.gptr g 0)
  | .func f => some (.fn (.func f) [] [])
theorem evO_den {ρ : Nat → Nat} {e : Env} {a : Act} (h : EnvOk ρ e a) {x : Operand} {v : SV} (g : evO e x = some v) : a.eval x = v.den ρ := by
  cases x with
  | tmp t => exact h t v g
  | const c => exact ofV_den g
  | global n => simp only [evO, Option.some.injEq] at g; subst g; simp [Act.eval, SV.den]
  | func f => simp only [evO, Option.some.injEq] at g; subst g; simp [Act.eval, SV.den, SV.denL]
def evOs (e : Env) : List Operand → Option (List SV)
  | [] => some []
  | o :: r => match evO e o with
    | some v => match evOs e r with
      | some l => some (v :: l)
      | none => none
    | none => none
theorem evOs_den {ρ : Nat → Nat} {e : Env} {a : Act} (h : EnvOk ρ e a) : ∀ {xs : List Operand} {l : List SV}, evOs e xs = some l → xs.map a.eval = SV.denL ρ l
  | [], l, g => by simp only [evOs, Option.some.injEq] at g; subst g; simp [SV.denL]
  | x :: r, l, g => by
    simp only [evOs] at g
    cases h1 : evO e x with
    | none => simp [h1] at g
    | some v =>
      cases h2 : evOs e r with
      | none => simp [h1, h2] at g
      | some l' =>
        simp [h1, h2] at g; subst g
        simp [SV.denL, evO_den h h1, evOs_den h h2]
end Sx
/- Operations that ask no memory: what they give, symbolically, and that the model gives the same in every world. -/
namespace Sx
open Go

def bt (s : ByteArray) (i : Int) : Int := ((s.data.getD i.toNat 0).toNat : Nat)
def seq (x y : ByteArray) : Bool := x.toList == y.toList
def slt (x y : ByteArray) : Bool := Op.bytesLess x.toList y.toList
def subs (s : ByteArray) (l h : Int) : ByteArray := s.extract l.toNat h.toNat
def sloff (lo l m : Nat) : Nat := if m = l then lo else lo + l
def idiv (a b : Int) : Int := a.tdiv b
def imod (a b : Int) : Int := a.tmod b
def imax (a b : Int) : Int := if b > a then b else a
def imin (a b : Int) : Int := if b < a then b else a

inductive Ob where
  | inb (i n : Int)
  | le3 (l h m : Int)
  | cat (x y : ByteArray)
  | ne0 (y : Int)
  | nn (y : Int)
  | tru (b : Bool)
def Ob.P : Ob → Prop
  | .inb i n => 0 ≤ i ∧ i < n
  | .le3 l h m => 0 ≤ l ∧ l ≤ h ∧ h ≤ m
  | .cat x y => ((x.size + y.size : Nat) : Int) ≤ IntKind.i64.max
  | .ne0 y => y ≠ 0
  | .nn y => 0 ≤ y
  | .tru b => b = true
def obsP : List Ob → Prop
  | [] => True
  | o :: r => o.P ∧ obsP r

/-- What must not be unfolded while the walk is reckoned: handed in as a variable. -/
structure Bits where
  i : BinOp → IntKind → Int → Int → Int
  c : BinOp → Int → Int → Bool
  s : BinOp → ByteArray → ByteArray → Bool
  cat : ByteArray → ByteArray → ByteArray
  sub : ByteArray → Int → Int → ByteArray
  byte : ByteArray → Int → Int
  off : Nat → Int → Nat → Nat
  gap : Int → Int → Nat
  left : Nat → Int → Nat
  plus : Nat → Int → Nat
  len : ByteArray → Int
  enc : Int → ByteArray
def bitI (op : BinOp) (k : IntKind) (x y : Int) : Int :=
  match op with
  | .add => k.wrap (x + y)
  | .sub => k.wrap (x - y)
  | .mul => k.wrap (x * y)
  | .quo => k.wrap (idiv x y)
  | .rem => imod x y
  | .and => k.wrap (BitVec.ofInt k.bits x &&& BitVec.ofInt k.bits y).toNat
  | .or => k.wrap (BitVec.ofInt k.bits x ||| BitVec.ofInt k.bits y).toNat
  | .xor => k.wrap (BitVec.ofInt k.bits x ^^^ BitVec.ofInt k.bits y).toNat
  | .andNot => k.wrap (BitVec.ofInt k.bits x &&& ~~~ BitVec.ofInt k.bits y).toNat
  | .shl => k.wrap (x * 2 ^ (min y.toNat k.bits))
  | .shr => x.fdiv (2 ^ (min y.toNat k.bits))
  | .gtr => imax x y
  | .lss => imin x y
  | _ => 0
def bitC (op : BinOp) (x y : Int) : Bool :=
  match op with
  | .eql => x == y
  | .neq => x != y
  | .lss => decide (x < y)
  | .leq => decide (x ≤ y)
  | .gtr => decide (x > y)
  | .geq => decide (x ≥ y)
  | _ => false
def bitS (op : BinOp) (x y : ByteArray) : Bool :=
  match op with
  | .eql => seq x y
  | .neq => !seq x y
  | .lss => slt x y
  | .leq => slt x y || seq x y
  | .gtr => !(slt x y || seq x y)
  | .geq => !slt x y
  | _ => false
def bitsOf : Bits := ⟨bitI, bitC, bitS, fun x y => x ++ y, subs, bt, fun o l c => sloff o l.toNat c, fun h l => h.toNat - l.toNat, fun c l => c - l.toNat, fun o i => o + i.toNat, fun s => s.size, Utf8.encode⟩

def intBin (bits : Bits) (op : BinOp) (k : IntKind) (a b : Int) : Option (SV × List Ob) :=
  match op with
  | .add => some (.int k (bits.i .add k a b), [])
  | .sub => some (.int k (bits.i .sub k a b), [])
  | .mul => some (.int k (bits.i .mul k a b), [])
  | .quo => some (.int k (bits.i .quo k a b), [.ne0 b])
  | .rem => some (.int k (bits.i .rem k a b), [.ne0 b])
  | .and => some (.int k (bits.i .and k a b), [])
  | .or => some (.int k (bits.i .or k a b), [])
  | .xor => some (.int k (bits.i .xor k a b), [])
  | .andNot => some (.int k (bits.i .andNot k a b), [])
  | .eql => some (.bool (bits.c .eql a b), [])
  | .neq => some (.bool (bits.c .neq a b), [])
  | .lss => some (.bool (bits.c .lss a b), [])
  | .leq => some (.bool (bits.c .leq a b), [])
  | .gtr => some (.bool (bits.c .gtr a b), [])
  | .geq => some (.bool (bits.c .geq a b), [])
  | .shl => some (.int k (bits.i .shl k a b), [.nn b])
  | .shr => some (.int k (bits.i .shr k a b), [.nn b])
def kindEq : IntKind → IntKind → Bool
  | .i8, .i8 | .i16, .i16 | .i32, .i32 | .i64, .i64 | .u8, .u8 | .u16, .u16 | .u32, .u32 | .u64, .u64 => true
  | _, _ => false
def isSh : BinOp → Bool
  | .shl | .shr => true
  | _ => false
def strBin (bits : Bits) (op : BinOp) (x y : ByteArray) : Option (SV × List Ob) :=
  match op with
  | .add => some (.str (bits.cat x y), [.cat x y])
  | .eql => some (.bool (bits.s .eql x y), [])
  | .neq => some (.bool (bits.s .neq x y), [])
  | .lss => some (.bool (bits.s .lss x y), [])
  | .leq => some (.bool (bits.s .leq x y), [])
  | .gtr => some (.bool (bits.s .gtr x y), [])
  | .geq => some (.bool (bits.s .geq x y), [])
  | _ => none
def eqB (op : BinOp) (b : Bool) : Option (SV × List Ob) :=
  match op with
  | .eql => some (if b then .tt else .ff, [])
  | .neq => some (if b then .ff else .tt, [])
  | _ => none
def toB : SV → Option Bool
  | .tt => some true
  | .ff => some false
  | .bool b => some b
  | _ => none
def boolBin (op : BinOp) (a b : Bool) : Option (SV × List Ob) :=
  match op with
  | .eql => some (.bool (a == b), [])
  | .neq => some (.bool (!(a == b)), [])
  | _ => none
/-- is the type a pointer's, a slice's, .. -/
def isPtr : Option TI → Bool
  | some ⟨.ptr, _, _, _⟩ => true
  | _ => false
def isSlice : Option TI → Bool
  | some ⟨.slice _, _, _, _⟩ => true
  | _ => false
def isMapT : Option TI → Bool
  | some ⟨.map _ _, _, _, _⟩ => true
  | _ => false
def isFuncT : Option TI → Bool
  | some ⟨.func, _, _, _⟩ => true
  | _ => false
def isIfaceT : Option TI → Bool
  | some ⟨.iface, _, _, _⟩ => true
  | _ => false
def isBoolT : Option TI → Bool
  | some ⟨.bool, _, _, _⟩ => true
  | _ => false
def isStrT : Option TI → Bool
  | some ⟨.str, _, _, _⟩ => true
  | _ => false
def intT : Option TI → Option IntKind
  | some ⟨.int k, _, _, _⟩ => some k
  | _ => none

def isNilC : Operand → Bool
  | .const .nilIface => true
  | _ => false

/-- a thing held against nil: are they equal? -/
def nilEq (T : Option TI) (ox oy : Operand) (x y : SV) : Option Bool :=
  match x, y with
  | .ptr _ _, .nil | .gptr _ _, .nil | .eptr _ _ _ _, .nil => if isPtr T then some false else none
  | .nil, .nil => if isPtr T then some true else none
  | .slice _ _ _ _ _, .nilslice => if isSlice T then some false else none
  | .nilslice, .nilslice => if isSlice T then some true else none
  | .map _, .nilmap => if isMapT T then some false else none
  | .nilmap, .nilmap => if isMapT T then some true else none
  | .iface _ _, .niliface => if isIfaceT T then some false else none
  | .niliface, .niliface => if isIfaceT T && (isNilC ox || isNilC oy) then some true else none
  | .fn _ _ _, .nilfn => if isFuncT T then some false else none
  | .nilfn, .nilfn => if isFuncT T then some true else none
  | _, _ => none
def boolV (T : Option TI) (op : BinOp) (x y : SV) : Option (SV × List Ob) :=
  match toB x with
  | some a => match toB y with
    | some b => if isBoolT T then boolBin op a b else none
    | none => none
  | none => none
def binV (bits : Bits) (T : Option TI) (op : BinOp) (ox oy : Operand) (x y : SV) : Option (SV × List Ob) :=
  match x, y with
  | .int k a, .int k' b => if isSh op then intBin bits op k a b else if kindEq k k' then intBin bits op k a b else none
  | .str a, .str b => strBin bits op a b
  | x, y => match nilEq T ox oy x y with
    | some b => eqB op b
    | none => boolV T op x y

section
variable {P : Program} {bits : Bits} {ρ : Nat → Nat}

theorem kindEq_eq {k k' : IntKind} (h : kindEq k k' = true) : k = k' := by cases k <;> cases k' <;> first | rfl | (simp [kindEq] at h)

theorem intBin_run (hb : bits = bitsOf) {op : BinOp} {T : TypeId} {k k' : IntKind} {a b : Int} {v : SV} {obs : List Ob}
    (hk : isSh op = true ∨ k = k') (h : intBin bits op k a b = some (v, obs)) (ho : obsP obs) (w : World) :
    (binOp op T (.int k a) (.int k' b)).run P w = .ok (v.den ρ) w := by
  subst hb
  cases op <;> simp only [intBin, Option.some.injEq, Prod.mk.injEq] at h <;> obtain ⟨rfl, rfl⟩ := h <;>
    simp only [isSh, Bool.false_eq_true, false_or, true_or] at hk <;> (try subst hk) <;>
    simp [binOp, SV.den, Op.intArith, Op.intDiv, Op.intBits, Op.intCmp, Op.shift, bitsOf, bitI, bitC, idiv, imod]
  all_goals (simp only [obsP, Ob.P, and_true] at ho)
  all_goals (intro hh; omega)

theorem strBin_run (hb : bits = bitsOf) {op : BinOp} {T : TypeId} {a b : ByteArray} {v : SV} {obs : List Ob}
    (h : strBin bits op a b = some (v, obs)) (ho : obsP obs) (w : World) : (binOp op T (.string a) (.string b)).run P w = .ok (v.den ρ) w := by
  subst hb
  cases op <;> simp only [strBin, Option.some.injEq, Prod.mk.injEq, reduceCtorEq] at h <;> obtain ⟨rfl, rfl⟩ := h <;> simp [binOp, SV.den, Op.stringOp, bitsOf, bitS, seq, slt]
  simp only [obsP, Ob.P, and_true] at ho
  have e : IntKind.i64.max = 9223372036854775807 := by rfl
  rw [e] at ho
  omega

theorem isPtr_ok {ty : Tab} (h : ty.ok P) {T : TypeId} (e : isPtr (ty T) = true) : ∃ u, P.underlying T = some (.pointer u) := by
  unfold isPtr at e; split at e
  · rename_i hx; exact (h _ _ hx).desc
  · cases e
theorem isSlice_ok {ty : Tab} (h : ty.ok P) {T : TypeId} (e : isSlice (ty T) = true) : ∃ u, P.underlying T = some (.slice u) := by
  unfold isSlice at e; split at e
  · rename_i hx; exact ⟨_, (h _ _ hx).desc⟩
  · cases e
theorem isMapT_ok {ty : Tab} (h : ty.ok P) {T : TypeId} (e : isMapT (ty T) = true) : ∃ k u, P.underlying T = some (.map k u) := by
  unfold isMapT at e; split at e
  · rename_i hx; exact ⟨_, _, (h _ _ hx).desc⟩
  · cases e
theorem isFuncT_ok {ty : Tab} (h : ty.ok P) {T : TypeId} (e : isFuncT (ty T) = true) : ∃ a b c, P.underlying T = some (.func a b c) := by
  unfold isFuncT at e; split at e
  · rename_i hx; exact (h _ _ hx).desc
  · cases e
theorem isIfaceT_ok {ty : Tab} (h : ty.ok P) {T : TypeId} (e : isIfaceT (ty T) = true) : ∃ m, P.underlying T = some (.interface m) := by
  unfold isIfaceT at e; split at e
  · rename_i hx; exact (h _ _ hx).desc
  · cases e
theorem isBoolT_ok {ty : Tab} (h : ty.ok P) {T : TypeId} (e : isBoolT (ty T) = true) : P.underlying T = some .bool := by
  unfold isBoolT at e; split at e
  · rename_i hx; exact (h _ _ hx).desc
  · cases e
theorem isStrT_ok {ty : Tab} (h : ty.ok P) {T : TypeId} (e : isStrT (ty T) = true) : P.underlying T = some .string := by
  unfold isStrT at e; split at e
  · rename_i hx; exact (h _ _ hx).desc
  · cases e
theorem intT_ok {ty : Tab} (h : ty.ok P) {T : TypeId} {k : IntKind} (e : intT (ty T) = some k) : P.underlying T = some (.int k) := by
  unfold intT at e; split at e
  · rename_i hx; simp only [Option.some.injEq] at e; subst e; exact (h _ _ hx).desc
  · cases e

theorem eqB_run {T : TypeId} {op : BinOp} {b : Bool} {x y : Value} {v : SV} {obs : List Ob} (h : eqB op b = some (v, obs)) (w : World)
    (hx : (Op.equal T x y).run P w = .ok b w) (h1 : binOp .eql T x y = (do pure (.bool (← Op.equal T x y)))) (h2 : binOp .neq T x y = (do pure (.bool (!(← Op.equal T x y))))) :
    (binOp op T x y).run P w = .ok (v.den ρ) w := by
  cases op <;> simp only [eqB, Option.some.injEq, Prod.mk.injEq, reduceCtorEq] at h <;> obtain ⟨rfl, rfl⟩ := h
  · rw [h1]; cases b <;> simp [hx, SV.den]
  · rw [h2]; cases b <;> simp [hx, SV.den]

theorem equal_of {T : TypeId} {x y : Value} {w : World} {r : Result Bool} (h : ∀ d, (Op.equalIn (d + 1) T x y).run P w = r) : (Op.equal T x y).run P w = r := h 9999

theorem toB_den {v : SV} {b : Bool} (h : toB v = some b) : v.den ρ = .bool b := by
  cases v <;> simp [toB] at h <;> subst h <;> rfl

theorem nilEq_run {ty : Tab} (hty : ty.ok P) {op : BinOp} {T : TypeId} {ox oy : Operand} {x y : SV} {b : Bool} (h : nilEq (ty T) ox oy x y = some b) (w : World) :
    (Op.equal T (x.den ρ) (y.den ρ)).run P w = .ok b w ∧ (eqGuard op T ox oy (x.den ρ) (y.den ρ)).run P w = .ok () w ∧
    binOp .eql T (x.den ρ) (y.den ρ) = (do pure (.bool (← Op.equal T (x.den ρ) (y.den ρ)))) ∧ binOp .neq T (x.den ρ) (y.den ρ) = (do pure (.bool (!(← Op.equal T (x.den ρ) (y.den ρ))))) := by
  unfold nilEq at h
  split at h
  case h_13 => cases h
  all_goals (split at h)
  all_goals first | (simp only [reduceCtorEq] at h; done) | skip
  all_goals (simp only [Option.some.injEq] at h; subst h; simp only [SV.den])
  case h_1.isTrue hp | h_2.isTrue hp | h_3.isTrue hp | h_4.isTrue hp =>
    obtain ⟨u, hu⟩ := isPtr_ok hty hp
    exact ⟨equal_of (fun d => by simp [Op.equalIn, run_underlying hu]), by cases op <;> simp [eqGuard], rfl, rfl⟩
  case h_5.isTrue hp | h_6.isTrue hp =>
    obtain ⟨u, hu⟩ := isSlice_ok hty hp
    exact ⟨equal_of (fun d => by simp [Op.equalIn, run_underlying hu]), by cases op <;> simp [eqGuard], rfl, rfl⟩
  case h_7.isTrue hp | h_8.isTrue hp =>
    obtain ⟨k, u, hu⟩ := isMapT_ok hty hp
    exact ⟨equal_of (fun d => by simp [Op.equalIn, run_underlying hu]), by cases op <;> simp [eqGuard], rfl, rfl⟩
  case h_9.isTrue hp =>
    obtain ⟨m, hu⟩ := isIfaceT_ok hty hp
    exact ⟨equal_of (fun d => by simp [Op.equalIn, run_underlying hu]), by cases op <;> simp [eqGuard], rfl, rfl⟩
  case h_10.isTrue hp =>
    simp only [Bool.and_eq_true, Bool.or_eq_true] at hp
    obtain ⟨m, hu⟩ := isIfaceT_ok hty hp.1
    refine ⟨equal_of (fun d => by simp [Op.equalIn, run_underlying hu]), ?_, rfl, rfl⟩
    rcases hp.2 with hc | hc <;> unfold isNilC at hc <;> split at hc <;> first | (cases op <;> simp [eqGuard]; done) | cases hc
  case h_11.isTrue hp | h_12.isTrue hp =>
    obtain ⟨a, b, c, hu⟩ := isFuncT_ok hty hp
    exact ⟨equal_of (fun d => by simp [Op.equalIn, run_underlying hu]), by cases op <;> simp [eqGuard], rfl, rfl⟩

theorem boolV_run {ty : Tab} (hty : ty.ok P) {op : BinOp} {T : TypeId} {ox oy : Operand} {x y v : SV} {obs : List Ob}
    (h : boolV (ty T) op x y = some (v, obs)) (w : World) :
    (do eqGuard op T ox oy (x.den ρ) (y.den ρ); binOp op T (x.den ρ) (y.den ρ) : Sem Value).run P w = .ok (v.den ρ) w := by
  unfold boolV at h
  split at h
  · rename_i ha
    split at h
    · rename_i hb'
      split at h
      · rename_i hp
        have hu := isBoolT_ok hty hp
        rw [toB_den ha, toB_den hb']
        have hg : ∀ a b, (eqGuard op T ox oy (.bool a) (.bool b)).run P w = .ok () w := by intros; cases op <;> simp [eqGuard]
        simp only [Sem.run_bind, hg, Result.andThen_ok]
        cases op <;> simp only [boolBin, Option.some.injEq, Prod.mk.injEq, reduceCtorEq] at h <;> obtain ⟨rfl, rfl⟩ := h
        · rw [run_eql_bool w _ _ _ hu]; simp [SV.den]
        · rw [run_neq_bool w _ _ _ hu]; simp [SV.den]
      · cases h
    · cases h
  · cases h

theorem binV_run (hb : bits = bitsOf) {ty : Tab} (hty : ty.ok P) {op : BinOp} {T : TypeId} {ox oy : Operand} {x y v : SV} {obs : List Ob}
    (h : binV bits (ty T) op ox oy x y = some (v, obs)) (ho : obsP obs) (w : World) :
    (do eqGuard op T ox oy (x.den ρ) (y.den ρ); binOp op T (x.den ρ) (y.den ρ) : Sem Value).run P w = .ok (v.den ρ) w := by
  unfold binV at h
  split at h
  · rename_i k a k' b
    have : (eqGuard op T ox oy (SV.den ρ (.int k a)) (SV.den ρ (.int k' b))).run P w = .ok () w := by cases op <;> simp [eqGuard, SV.den]
    simp only [Sem.run_bind, this, Result.andThen_ok]
    simp only [SV.den]
    split at h
    · rename_i hs; exact intBin_run hb (.inl hs) h ho w
    · split at h
      · rename_i hk; exact intBin_run hb (.inr (kindEq_eq hk)) h ho w
      · cases h
  · rename_i a b
    have : (eqGuard op T ox oy (SV.den ρ (.str a)) (SV.den ρ (.str b))).run P w = .ok () w := by cases op <;> simp [eqGuard, SV.den]
    simp only [Sem.run_bind, this, Result.andThen_ok]
    exact strBin_run hb h ho w
  · split at h
    · rename_i b hn
      obtain ⟨h1, h2, h3, h4⟩ := nilEq_run (ρ := ρ) (op := op) hty hn w
      simp only [Sem.run_bind, h2, Result.andThen_ok]
      exact eqB_run h w h1 h3 h4
    · exact boolV_run hty h w
 end
end Sx
/- The other operations that ask no memory; all of them in one function. -/
namespace Sx
open Go

def convV (W : IntKind → Int → Int) (bits : Bits) (S D : Option TI) (x : SV) : Option SV :=
  match S with
  | none => none
  | some _ => match D, x with
    | some ⟨.int k, _, _, _⟩, .int _ n => some (.int k (W k n))
    | some ⟨.str, _, _, _⟩, .int _ n => some (.str (bits.enc n))
    | some ⟨.str, _, _, _⟩, .str s => some (.str s)
    | _, _ => none
def fieldV (T : Option TI) (x : SV) (f : Nat) : Option SV :=
  match T with
  | some ⟨.struct fs, _, _, _⟩ => match fs[f]? with
    | some (off, size) => if size == 0 then none else match x with
      | .ptr id o => some (.ptr id (o + off))
      | .gptr g o => some (.gptr g (o + off))
      | .eptr id w i o => some (.eptr id w i (o + off))
      | _ => none
    | none => none
  | _ => none
def chkV : SV → Option SV
  | .ptr id o => some (.ptr id o)
  | .gptr g o => some (.gptr g o)
  | .eptr id w i o => some (.eptr id w i o)
  | .fn (.func f) a b => some (.fn (.func f) a b)
  | .iface t v => some (.iface t v)
  | _ => none
def extV (x : SV) (i : Nat) : Option SV :=
  match x with
  | .tuple l => l[i]?
  | _ => none
def mkIface (T : Option TI) (t : TypeId) (x : SV) : Option SV :=
  match T with
  | some ⟨.iface, _, _, _⟩ => none
  | some _ => some (.iface t x)
  | none => none
def setRange (l : List SV) (off : Nat) (v : List SV) : List SV := l.take off ++ v ++ l.drop (off + v.length)
def fillS (fs : List (Nat × Nat)) (cells : List SV) : List (Nat × SV) → Option (List SV)
  | [] => some cells
  | (i, v) :: r => match fs[i]?, v.cellsL with
    | some (off, size), some vc => if vc.length == size && Nat.ble (off + vc.length) cells.length then fillS fs (setRange cells off vc) r else none
    | _, _ => none
def evPs (ev : Operand → Option SV) : List (Nat × Operand) → Option (List (Nat × SV))
  | [] => some []
  | (i, o) :: r => match ev o with
    | some v => match evPs ev r with
      | some l => some ((i, v) :: l)
      | none => none
    | none => none
def buildV (T : Option TI) (ps : List (Nat × SV)) : Option SV :=
  match T with
  | some ⟨.struct fs, _, _, .agg z⟩ => match fillS fs z ps with
    | some l => some (.agg l)
    | none => none
  | _ => none
def indexV (bits : Bits) (T : Option TI) (x i : SV) : Option (SV × List Ob) :=
  match x, i with
  | .str s, .int _ i => if isStrT T then some (.int .u8 (bits.byte s i), [.inb i (bits.len s)]) else none
  | _, _ => none
def sizeAt (ty : Tab) (T : Option TI) : Option Nat :=
  match T with
  | some ⟨.slice e, _, _, _⟩ => match ty e with
    | some t => some t.size
    | none => none
  | _ => none
def indexAddrV (bits : Bits) (ty : Tab) (T : Option TI) (x i : SV) : Option (SV × List Ob) :=
  match x, i with
  | .slice id w lo len _, .int _ i => match sizeAt ty T with
    | some n => if n == w then some (.eptr id w (bits.plus lo i) 0, [.inb i len]) else none
    | none => none
  | .vec p id w lo len _, .int _ i => match sizeAt ty T with
    | some n => if n == w then some (.eptr id w (bits.plus lo i) 0, [.inb i len, .tru p]) else none
    | none => none
  | _, _ => none
def optI (ev : Operand → Option SV) (d : Int) : Option Operand → Option Int
  | none => some d
  | some o => match ev o with
    | some (.int _ n) => some n
    | _ => none
def sliceV (bits : Bits) (ty : Tab) (T : Option TI) (ev : Operand → Option SV) (x : SV) (lo hi mx : Option Operand) : Option (SV × List Ob) :=
  match mx with
  | some _ => none
  | none => match x with
    | .str s => match optI ev 0 lo, optI ev (bits.len s) hi with
      | some l, some h => if isStrT T then some (.str (bits.sub s l h), [.le3 l h (bits.len s)]) else none
      | _, _ => none
    | .slice id w o len cap => match optI ev 0 lo, optI ev len hi, sizeAt ty T with
      | some l, some h, some n => if n == w then some (.slice id w (bits.off o l cap) (bits.gap h l) (bits.left cap l), [.le3 l h (match hi with | some _ => (cap : Int) | none => h)]) else none
      | _, _, _ => none
    | .vec p id w o len cap => match optI ev 0 lo, optI ev len hi, sizeAt ty T with
      | some l, some h, some n => if n == w then some (.vec p id w (bits.off o l cap) (bits.gap h l) (bits.left cap l), [.le3 l h (match hi with | some _ => (cap : Int) | none => h)]) else none
      | _, _, _ => none
    | .nilslice => match optI ev 0 lo, optI ev 0 hi, sizeAt ty T with
      | some l, some h, some _ => some (.nilslice, [.le3 l h 0])
      | _, _, _ => none
    | _ => none
def lenV (bits : Bits) (T : Option TI) : SV → Option SV
  | .str s => if isStrT T then some (.int .i64 (bits.len s)) else none
  | .slice _ _ _ len _ => if isSlice T then some (.int .i64 len) else none
  | .vec _ _ _ _ len _ => if isSlice T then some (.int .i64 len) else none
  | .nilslice => if isSlice T then some (.int .i64 0) else none
  | .nilmap => if isMapT T then some (.int .i64 0) else none
  | _ => none
def capV (T : Option TI) : SV → Option SV
  | .slice _ _ _ _ cap => if isSlice T then some (.int .i64 cap) else none
  | .vec _ _ _ _ _ cap => if isSlice T then some (.int .i64 cap) else none
  | .nilslice => if isSlice T then some (.int .i64 0) else none
  | _ => none
def bltV (bits : Bits) (ty : Tab) (b : Builtin) (ts : List TypeId) (xs : List SV) : Option SV :=
  match b, ts, xs with
  | .len, t :: _, [x] => lenV bits (ty t) x
  | .cap, t :: _, [x] => capV (ty t) x
  | .max, _, [.int k x, .int _ y] => some (.int k (bits.i .gtr k x y))
  | .min, _, [.int k x, .int _ y] => some (.int k (bits.i .lss k x y))
  | .min, _, [.int k x, .int _ y, .int _ z] => some (.int k (bits.i .lss k (bits.i .lss k x y) z))
  | _, _, _ => none
def natEq : Nat → Nat → Bool := Nat.beq
def assertV (T : Option TI) (A : TypeId) (ok : Bool) (x : SV) : Option SV :=
  match T with
  | none | some ⟨.iface, _, _, _⟩ => none
  | some a => match x with
    | .iface t v => if natEq t A then some (if ok then .tuple [v, .tt] else v) else if ok then some (.tuple [a.zero, .ff]) else none
    | .niliface => if ok then some (.tuple [a.zero, .ff]) else none
    | _ => none
def noOb (v : Option SV) : Option (SV × List Ob) :=
  match v with
  | some v => some (v, [])
  | none => none
def unV (W : IntKind → Int → Int) (bits : Bits) (op : UnOp) (x : SV) : Option SV :=
  match op, x with
  | .not, .tt => some .ff
  | .not, .ff => some .tt
  | .not, .bool b => some (.bool (!b))
  | .neg, .int k n => some (.int k (W k (0 - n)))
  | .xor, .int k n => some (.int k (bits.i .xor k (if k.signed then -1 else k.max) n))
  | _, _ => none
def pickV (ev : Operand → Option SV) (c a b : Operand) : Option SV :=
  match ev c with
  | some .tt => ev a
  | some .ff => ev b
  | _ => none

/-- What an operation gives that asks no memory; under which conditions. -/
def pureV (W : IntKind → Int → Int) (bits : Bits) (ty : Tab) (ev : Operand → Option SV) (evs : List Operand → Option (List SV)) (o : Op) : Option (SV × List Ob) :=
  match o with
  | .move x | .assign x => noOb (ev x)
  | .pick c a b => noOb (pickV ev c a b)
  | .nilCheck x => match ev x with
    | some v => noOb (chkV v)
    | none => none
  | .binOp op t x y _ => match ev x, ev y with
    | some a, some b => binV bits (ty t) op x y a b
    | _, _ => none
  | .unOp op _ x => match ev x with
    | some a => noOb (unV W bits op a)
    | none => none
  | .convert s d x => match ev x with
    | some a => noOb (convV W bits (ty s) (ty d) a)
    | none => none
  | .fieldAddr t x f => match ev x with
    | some a => noOb (fieldV (ty t) a f)
    | none => none
  | .extract x i => match ev x with
    | some a => noOb (extV a i)
    | none => none
  | .makeInterface t x => match ev x with
    | some a => noOb (mkIface (ty t) t a)
    | none => none
  | .makeFunc fn a b => match evs a.toList, evs b.toList with
    | some a, some b => noOb (some (.fn fn a b))
    | _, _ => none
  | .build t ps => match evPs ev ps.toList with
    | some l => noOb (buildV (ty t) l)
    | none => none
  | .index t x i => match ev x, ev i with
    | some a, some b => indexV bits (ty t) a b
    | _, _ => none
  | .indexAddr t x i => match ev x, ev i with
    | some a, some b => indexAddrV bits ty (ty t) a b
    | _, _ => none
  | .slice t x lo hi mx => match ev x with
    | some a => sliceV bits ty (ty t) ev a lo hi mx
    | none => none
  | .typeAssert x _ a ok => match ev x with
    | some v => noOb (assertV (ty a) a ok v)
    | none => none
  | .call ⟨.builtin b, xs, ts⟩ => match evs xs.toList with
    | some l => noOb (bltV bits ty b ts.toList l)
    | none => none
  | _ => none
end Sx
/- The model gives what 'pureV' says, in every world. -/
namespace Sx
open Go
section
variable {P : Program} {W : IntKind → Int → Int} {bits : Bits} {ρ : Nat → Nat} {ty : Tab}

theorem noOb_eq {v : Option SV} {u : SV} {obs : List Ob} (h : noOb v = some (u, obs)) : v = some u := by
  cases v <;> simp [noOb] at h
  rw [h.1]

theorem convV_run (hW : W = IntKind.wrap) (hb : bits = bitsOf) (hty : ty.ok P) {s d : TypeId} {x v : SV} (h : convV W bits (ty s) (ty d) x = some v) (w : World) :
    (convert s d (x.den ρ)).run P w = .ok (v.den ρ) w := by
  subst hW hb
  unfold convV at h
  split at h
  · cases h
  · rename_i S hs
    obtain ⟨us, hus⟩ := (hty _ _ hs).und
    split at h <;> first | (cases h; done) | skip
    · rename_i k _ _ _ k' n hd
      have hd := (hty _ _ hd).desc
      simp only [TD.ok] at hd
      simp only [Option.some.injEq] at h; subst h
      simp [convert, SV.den, run_underlying hus, run_underlying hd, Conv.intToInt]
    · rename_i hd
      have hd := (hty _ _ hd).desc
      simp only [TD.ok] at hd
      simp only [Option.some.injEq] at h; subst h
      simp [convert, SV.den, run_underlying hus, run_underlying hd, Conv.intToString]; rfl
    · rename_i hd
      have hd := (hty _ _ hd).desc
      simp only [TD.ok] at hd
      simp only [Option.some.injEq] at h; subst h
      simp [convert, SV.den, run_underlying hus, run_underlying hd]

theorem addr_add (b o n : Nat) : (Addr.mk b o none).add n = ⟨b, o + n, none⟩ := by
  unfold Addr.add; by_cases h : n = 0 <;> simp [h]

theorem fieldV_run (hty : ty.ok P) {t : TypeId} {f : Nat} {x v : SV} (h : fieldV (ty t) x f = some v) (w : World) :
    (Instr.fieldAt t (x.den ρ) f).run P w = .ok (v.den ρ) w := by
  unfold fieldV at h
  split at h
  · rename_i fs _ _ _ ht
    obtain ⟨fl, hu, hf, hi⟩ := (hty _ _ ht).desc
    split at h
    · rename_i off size hfs
      split at h
      · cases h
      · rename_i hz
        have hfl : ∃ fd, fl[f]? = some fd ∧ fd.offset = off ∧ P.cellsOf fd.type = size ∧ (P.info? fd.type).isSome = true := by
          rw [← hf, List.getElem?_map] at hfs
          cases e : fl.toList[f]? with
          | none => simp [e] at hfs
          | some fd =>
            simp only [e, Option.map_some, Option.some.injEq, Prod.mk.injEq] at hfs
            exact ⟨fd, by simpa using e, hfs.1, hfs.2, hi fd (List.mem_of_getElem? e)⟩
        obtain ⟨fd, h1, h2, h3, h4⟩ := hfl
        obtain ⟨i, h4⟩ := Option.isSome_iff_exists.1 h4
        have h5 : i.size ≠ 0 := by
          have : P.cellsOf fd.type = i.size := by simp [Program.cellsOf, h4]
          rw [← this, h3]; simpa using hz
        split at h <;> first | (cases h; done) | skip
        all_goals
          simp only [Option.some.injEq] at h; subst h
          simp [Instr.fieldAt, SV.den, run_underlying hu, h1, Instr.sureAddr, fieldPlace, Go.sizeOf, typeInfo, h4, h5, addr_add, h2, Nat.add_assoc]
    · cases h
  · cases h

theorem chkV_run {x v : SV} (h : chkV x = some v) {o : Oper} {ev : Operand → Value} {q : Operand} (ho : o.op = .nilCheck q) (hq : ev q = x.den ρ) (w : World) :
    (execOp ev o).run P w = .ok (.value (v.den ρ)) w := by
  simp only [execOp, ho, hq]
  cases x with
  | fn f a b =>
    cases f with
    | func f => simp only [chkV, Option.some.injEq] at h; subst h; simp [SV.den]
    | _ => simp [chkV] at h
  | _ => first | (simp [chkV] at h; done) | (simp only [chkV, Option.some.injEq] at h; subst h; simp [SV.den])

theorem denL_get (l : List SV) (i : Nat) : (SV.denL ρ l)[i]? = (l[i]?).map (SV.den ρ) := by
  rw [SV.denL_eq]; simp

theorem extV_run {x v : SV} {i : Nat} (h : extV x i = some v) (w : World) : (Instr.extract (x.den ρ) i).run P w = .ok (v.den ρ) w := by
  cases x <;> simp only [extV, reduceCtorEq] at h
  simp [Instr.extract, SV.den, denL_get, h]

theorem mkIface_run (hty : ty.ok P) {t : TypeId} {x v : SV} (h : mkIface (ty t) t x = some v) (w : World) : (Instr.makeInterface t (x.den ρ)).run P w = .ok (v.den ρ) w := by
  unfold mkIface at h
  split at h
  · cases h
  · rename_i T hn ht
    obtain ⟨d, hu, hd⟩ := (hty _ _ ht).und_not_iface (by
      intro e; obtain ⟨d, a, b, c⟩ := T; simp only at e; subst e; exact hn _ _ _ rfl)
    simp only [Option.some.injEq] at h; subst h
    cases d <;> first | (simp [Instr.makeInterface, run_underlying hu, SV.den]; done) | exact absurd rfl (hd _)
  · cases h

theorem indexV_run (hb : bits = bitsOf) (hty : ty.ok P) {t : TypeId} {x i v : SV} {obs : List Ob} (h : indexV bits (ty t) x i = some (v, obs)) (ho : obsP obs) (w : World) :
    (Instr.index t (x.den ρ) (i.den ρ)).run P w = .ok (v.den ρ) w := by
  subst hb
  unfold indexV at h
  split at h
  · rename_i s k n
    split at h
    · rename_i hs
      have hu := isStrT_ok hty hs
      simp only [Option.some.injEq, Prod.mk.injEq] at h
      obtain ⟨rfl, rfl⟩ := h
      simp only [obsP, Ob.P, and_true] at ho
      obtain ⟨h0, h1⟩ := ho
      have h1 : n < (s.size : Int) := h1
      have hlt : n.toNat < s.size := by omega
      have e : (if 0 ≤ n then s[n.toNat]? else none) = some s[n.toNat] := by rw [if_pos h0, getElem?_pos s n.toNat hlt]
      have e2 : s.data.getD n.toNat 0 = s[n.toNat] := by
        have : n.toNat < s.data.size := hlt
        rw [Array.getD_eq_getD_getElem?, Array.getElem?_eq_getElem this]; rfl
      simp [Instr.index, SV.den, asIntOf, run_underlying hu, e, bitsOf, bt, e2]
    · cases h
  · cases h

theorem sizeAt_ok (hty : ty.ok P) {t : TypeId} {n : Nat} (h : sizeAt ty (ty t) = some n) : ∃ e, P.underlying t = some (.slice e) ∧ ∀ w, (Go.sizeOf e).run P w = .ok n w := by
  unfold sizeAt at h
  split at h
  · rename_i e _ _ _ ht
    split at h
    · rename_i te hte
      simp only [Option.some.injEq] at h; subst h
      exact ⟨e, (hty _ _ ht).desc, fun w => (hty _ _ hte).run_sizeOf w⟩
    · cases h
  · cases h

theorem indexAddrV_run (hb : bits = bitsOf) (hty : ty.ok P) {t : TypeId} {x i v : SV} {obs : List Ob} (h : indexAddrV bits ty (ty t) x i = some (v, obs)) (ho : obsP obs) (w : World) :
    (Instr.indexAt t (x.den ρ) (i.den ρ)).run P w = .ok (v.den ρ) w := by
  subst hb
  unfold indexAddrV at h
  split at h
  · rename_i id wd lo len cap k n
    split at h
    · rename_i m hm
      obtain ⟨e, hu, hz⟩ := sizeAt_ok hty hm
      split at h
      · rename_i hw
        simp only [beq_iff_eq] at hw
        subst hw
        simp only [Option.some.injEq, Prod.mk.injEq] at h
        obtain ⟨rfl, rfl⟩ := h
        simp only [obsP, Ob.P, and_true] at ho
        simp [Instr.indexAt, SV.den, asIntOf, run_underlying hu, ho.1, ho.2, hz, bitsOf, addr_add, Nat.add_mul]
      · cases h
    · cases h
  · rename_i p id wd lo len cap k n
    split at h
    · rename_i m hm
      obtain ⟨e, hu, hz⟩ := sizeAt_ok hty hm
      split at h
      · rename_i hw
        simp only [beq_iff_eq] at hw
        subst hw
        simp only [Option.some.injEq, Prod.mk.injEq] at h
        obtain ⟨rfl, rfl⟩ := h
        simp only [obsP, Ob.P, and_true] at ho
        obtain ⟨⟨h0, h1⟩, rfl⟩ := ho
        simp [Instr.indexAt, SV.den, asIntOf, run_underlying hu, h0, h1, hz, bitsOf, addr_add, Nat.add_mul]
      · cases h
    · cases h
  · cases h

theorem optI_run {ev : Operand → Option SV} {ρe : Operand → Value} (hev : ∀ x v, ev x = some v → ρe x = v.den ρ) {d : Int} {q : Option Operand} {n : Int} (h : optI ev d q = some n) :
    match q with
    | none => n = d
    | some o => ∃ k, ρe o = .int k n := by
  cases q with
  | none => simpa [optI] using h.symm
  | some o =>
    simp only [optI] at h
    split at h
    · rename_i k m hm
      simp only [Option.some.injEq] at h; subst h
      exact ⟨k, hev _ _ hm⟩
    · cases h

theorem bound_run {k : IntKind} {n : Int} {y : Nat} {c : BoundsCode} (h0 : 0 ≤ n) (h1 : n ≤ y) (w : World) : (Instr.sliceBound (.int k n) y c).run P w = .ok n.toNat w := by
  simp [Instr.sliceBound, asIntOf, h0, h1]

theorem bounds_run {ev : Operand → Option SV} {ρe : Operand → Value} (hev : ∀ x v, ev x = some v → ρe x = v.den ρ) {isS : Bool} {len cap : Nat} {lo hi : Option Operand} {l h : Int}
    (hl : optI ev 0 lo = some l) (hh : optI ev len hi = some h) (h0 : 0 ≤ l) (h1 : l ≤ h) (h2 : hi.isSome = true → h ≤ cap) (w : World) :
    (Instr.sliceBounds isS len cap (lo.map ρe) (hi.map ρe) none).run P w = .ok (l.toNat, h.toNat, cap) w := by
  have el := optI_run hev hl
  have eh := optI_run hev hh
  cases lo with
  | none =>
    simp only at el; subst el
    cases hi with
    | none => simp only at eh; subst eh; simp [Instr.sliceBounds]
    | some hi =>
      obtain ⟨k, eh⟩ := eh
      simp only [Instr.sliceBounds, Option.map, eh, Sem.run_bind, Sem.run_pure, Result.andThen_ok, bound_run (by omega : (0 : Int) ≤ h) (h2 rfl)]
      rfl
  | some lo =>
    obtain ⟨kl, el⟩ := el
    cases hi with
    | none =>
      simp only at eh; subst eh
      simp only [Instr.sliceBounds, Option.map, el, Sem.run_bind, Sem.run_pure, Result.andThen_ok, bound_run h0 (by simpa using h1), Option.isSome]
      simp
    | some hi =>
      obtain ⟨k, eh⟩ := eh
      have h3 : l ≤ (h.toNat : Int) := by omega
      simp only [Instr.sliceBounds, Option.map, el, eh, Sem.run_bind, Sem.run_pure, Result.andThen_ok, bound_run (by omega : (0 : Int) ≤ h) (h2 rfl), bound_run h0 h3]

theorem sliceV_run (hbt : bits = bitsOf) (hty : ty.ok P) {ev : Operand → Option SV} {ρe : Operand → Value} (hev : ∀ x v, ev x = some v → ρe x = v.den ρ) {t : TypeId} {x v : SV} {lo hi mx : Option Operand} {obs : List Ob}
    (h : sliceV bits ty (ty t) ev x lo hi mx = some (v, obs)) (ho : obsP obs) (w : World) :
    (Instr.sliceAt t (x.den ρ) (lo.map ρe) (hi.map ρe) (mx.map ρe)).run P w = .ok (v.den ρ) w := by
  subst hbt
  unfold sliceV at h
  split at h
  · cases h
  · split at h
    · rename_i s
      split at h
      · rename_i l r hl hr
        split at h
        · rename_i hs
          have hu := isStrT_ok hty hs
          simp only [Option.some.injEq, Prod.mk.injEq] at h
          obtain ⟨rfl, rfl⟩ := h
          simp only [obsP, Ob.P, and_true] at ho
          have hb := bounds_run (P := P) (isS := false) (cap := s.size) hev hl hr ho.1 ho.2.1 (fun _ => ho.2.2) w
          simp [Instr.sliceAt, Instr.slice, SV.den, run_underlying hu, hb, bitsOf, subs]
        · cases h
      · cases h
    · rename_i id wd o len cap
      split at h
      · rename_i l r n hl hr hn
        obtain ⟨e, hu, hz⟩ := sizeAt_ok hty hn
        split at h
        · rename_i hw
          simp only [beq_iff_eq] at hw; subst hw
          simp only [Option.some.injEq, Prod.mk.injEq] at h
          obtain ⟨rfl, rfl⟩ := h
          simp only [obsP, Ob.P, and_true] at ho
          have hb := bounds_run (P := P) (isS := true) (cap := cap) hev hl hr ho.1 ho.2.1 (by
            intro hs; cases hi with
            | none => cases hs
            | some q => simpa using ho.2.2) w
          simp [Instr.sliceAt, Instr.slice, SV.den, run_underlying hu, hb, hz, bitsOf, sloff]
          by_cases hc : cap = l.toNat
          · simp [hc]
          · simp [hc, addr_add, Nat.add_mul]
        · cases h
      · cases h
    · rename_i p id wd o len cap
      split at h
      · rename_i l r n hl hr hn
        obtain ⟨e, hu, hz⟩ := sizeAt_ok hty hn
        split at h
        · rename_i hw
          simp only [beq_iff_eq] at hw; subst hw
          simp only [Option.some.injEq, Prod.mk.injEq] at h
          obtain ⟨rfl, rfl⟩ := h
          simp only [obsP, Ob.P, and_true] at ho
          have hb := bounds_run (P := P) (isS := true) (cap := cap) hev hl hr ho.1 ho.2.1 (by
            intro hs; cases hi with
            | none => cases hs
            | some q => simpa using ho.2.2) w
          simp [Instr.sliceAt, Instr.slice, SV.den, run_underlying hu, hb, hz, bitsOf, sloff]
          cases p
          · simp
          · by_cases hc : cap = l.toNat
            · simp [hc]
            · simp [hc, addr_add, Nat.add_mul]
        · cases h
      · cases h
    · split at h
      · rename_i l r n hl hr hn
        obtain ⟨e, hu, hz⟩ := sizeAt_ok hty hn
        simp only [Option.some.injEq, Prod.mk.injEq] at h
        obtain ⟨rfl, rfl⟩ := h
        simp only [obsP, Ob.P, and_true] at ho
        have hb := bounds_run (P := P) (isS := true) (len := 0) (cap := 0) hev hl hr ho.1 ho.2.1 (fun _ => by simpa using ho.2.2) w
        have h1 : l.toNat = 0 := by omega
        have h2 : r.toNat = 0 := by omega
        simp [Instr.sliceAt, Instr.slice, SV.den, run_underlying hu, hb, hz, h1, h2]
      · cases h
    · cases h

theorem lenV_run (hb : bits = bitsOf) (hty : ty.ok P) {t : TypeId} {ts : Array TypeId} (hts : ts[0]? = some t) {rt : TypeId} {x v : SV} (h : lenV bits (ty t) x = some v) (w : World) :
    (Builtin.len_ ts rt #[x.den ρ]).run P w = .ok (v.den ρ) w := by
  subst hb
  unfold lenV at h
  split at h <;> first | (cases h; done) | skip
  · split at h
    · rename_i hs
      have hu := isStrT_ok hty hs
      simp only [Option.some.injEq] at h; subst h
      simp [Builtin.len_, hts, SV.den, run_underlying hu, goInt, bitsOf]
    · cases h
  · split at h
    · rename_i hs
      obtain ⟨u, hu⟩ := isSlice_ok hty hs
      simp only [Option.some.injEq] at h; subst h
      simp [Builtin.len_, hts, SV.den, run_underlying hu, goInt]
    · cases h
  · split at h
    · rename_i hs
      obtain ⟨u, hu⟩ := isSlice_ok hty hs
      simp only [Option.some.injEq] at h; subst h
      simp [Builtin.len_, hts, SV.den, run_underlying hu, goInt]
    · cases h
  · split at h
    · rename_i hs
      obtain ⟨u, hu⟩ := isSlice_ok hty hs
      simp only [Option.some.injEq] at h; subst h
      simp [Builtin.len_, hts, SV.den, run_underlying hu, goInt]
    · cases h
  · split at h
    · rename_i hs
      obtain ⟨k, u, hu⟩ := isMapT_ok hty hs
      simp only [Option.some.injEq] at h; subst h
      simp [Builtin.len_, hts, SV.den, run_underlying hu, goInt]
    · cases h

theorem capV_run (hty : ty.ok P) {t : TypeId} {ts : Array TypeId} (hts : ts[0]? = some t) {rt : TypeId} {x v : SV} (h : capV (ty t) x = some v) (w : World) :
    (Builtin.cap_ ts rt #[x.den ρ]).run P w = .ok (v.den ρ) w := by
  unfold capV at h
  split at h <;> first | (cases h; done) | skip
  · split at h
    · rename_i hs
      obtain ⟨u, hu⟩ := isSlice_ok hty hs
      simp only [Option.some.injEq] at h; subst h
      simp [Builtin.cap_, hts, SV.den, run_underlying hu, goInt]
    · cases h
  · split at h
    · rename_i hs
      obtain ⟨u, hu⟩ := isSlice_ok hty hs
      simp only [Option.some.injEq] at h; subst h
      simp [Builtin.cap_, hts, SV.den, run_underlying hu, goInt]
    · cases h
  · split at h
    · rename_i hs
      obtain ⟨u, hu⟩ := isSlice_ok hty hs
      simp only [Option.some.injEq] at h; subst h
      simp [Builtin.cap_, hts, SV.den, run_underlying hu, goInt]
    · cases h

theorem bltV_run (hb : bits = bitsOf) (hty : ty.ok P) {b : Builtin} {ts : Array TypeId} {rt : TypeId} {cs : Array Bool} {xs : List SV} {v : SV} (h : bltV bits ty b ts.toList xs = some v) (w : World) :
    (builtin b ts rt cs (SV.denL ρ xs).toArray).run P w = .ok (.value (v.den ρ)) w := by
  subst hb
  unfold bltV at h
  split at h <;> first | (cases h; done) | skip
  · rename_i t r x ht
    have hts : ts[0]? = some t := by rw [← Array.getElem?_toList, ht]; rfl
    simp only [builtin, SV.denL, Sem.run_bind, lenV_run rfl hty hts h w, Result.andThen_ok, Sem.run_pure]
  · rename_i t r x ht
    have hts : ts[0]? = some t := by rw [← Array.getElem?_toList, ht]; rfl
    simp only [builtin, SV.denL, Sem.run_bind, capV_run hty hts h w, Result.andThen_ok, Sem.run_pure]
  · simp only [Option.some.injEq] at h; subst h
    simp [builtin, SV.denL, SV.den, bitsOf, bitI, imax, run_max_int2]
  · simp only [Option.some.injEq] at h; subst h
    simp [builtin, SV.denL, SV.den, bitsOf, bitI, imin, run_min_int2]
  · simp only [Option.some.injEq] at h; subst h
    simp [builtin, SV.denL, SV.den, bitsOf, bitI, imin, Builtin.min_, Builtin.min2]

theorem unV_run (hW : W = IntKind.wrap) (hb : bits = bitsOf) {op : UnOp} {x v : SV} (h : unV W bits op x = some v) (w : World) : (Op.unary op (x.den ρ)).run P w = .ok (v.den ρ) w := by
  subst hW; subst hb
  unfold unV at h
  split at h <;> first | (cases h; done) | skip
  all_goals simp only [Option.some.injEq] at h; subst h
  all_goals simp [Op.unary, SV.den, Op.intArith, Op.intBits, bitsOf, bitI]

theorem assertV_run (hty : ty.ok P) {t a : TypeId} {ok : Bool} {x v : SV} (h : assertV (ty a) a ok x = some v) (w : World) : (Instr.typeAssert (x.den ρ) t a ok).run P w = .ok (v.den ρ) w := by
  unfold assertV at h
  split at h <;> first | (cases h; done) | skip
  rename_i A hn hA
  have hA' := hty _ _ hA
  obtain ⟨d, hu, hd⟩ := hA'.und_not_iface (by
      intro e; obtain ⟨d, a, b, c⟩ := A; simp only at e; subst e; exact hn _ _ _ rfl)
  have hz := hA'.run_zeroValue ρ w
  split at h
  · rename_i u x
    split at h
    · rename_i hua
      have hua : u = a := Nat.eq_of_beq_eq_true hua
      subst hua
      simp only [Option.some.injEq] at h; subst h
      cases d <;> first | exact absurd rfl (hd _) | skip
      all_goals cases ok <;> simp [Instr.typeAssert, SV.den, SV.denL, run_underlying hu]
    · rename_i hua
      have hua : u ≠ a := fun e => hua (by subst e; exact Nat.beq_refl _)
      split at h
      · rename_i hok; subst hok
        simp only [Option.some.injEq] at h; subst h
        cases d <;> first | exact absurd rfl (hd _) | skip
        all_goals simp [Instr.typeAssert, SV.den, SV.denL, run_underlying hu, hua, hz]
      · cases h
  · split at h
    · rename_i hok; subst hok
      simp only [Option.some.injEq] at h; subst h
      cases d <;> first | exact absurd rfl (hd _) | skip
      all_goals simp [Instr.typeAssert, SV.den, SV.denL, run_underlying hu, hz]
    · cases h
  · cases h

theorem set_range (cs vs : List Value) (off : Nat) : ∀ (c : Array Value), c.toList = cs → off + vs.length ≤ cs.length →
    ((vs.toArray.zipIdx.foldl (fun a (x, j) => a.setIfInBounds (off + j) x) c).toList = cs.take off ++ vs ++ cs.drop (off + vs.length)) := by
  intro c hc hl
  rw [← Array.foldl_toList]
  simp only [Array.toList_zipIdx]
  have key : ∀ (vs : List Value) (k : Nat) (c : Array Value), off + k + vs.length ≤ c.toList.length →
      ((vs.zipIdx k).foldl (fun a (x, j) => a.setIfInBounds (off + j) x) c).toList = c.toList.take (off + k) ++ vs ++ c.toList.drop (off + k + vs.length) := by
    intro vs
    induction vs with
    | nil => intro k c h; simp
    | cons v r ih =>
      intro k c h
      simp only [List.length_cons] at h
      simp only [List.zipIdx_cons, List.foldl_cons]
      rw [ih (k + 1) _ (by simp at h ⊢; omega)]
      have h1 : (c.setIfInBounds (off + k) v).toList = c.toList.set (off + k) v := by simp
      rw [h1]
      have h2 : off + k < c.toList.length := by omega
      rw [show off + (k + 1) = off + k + 1 by omega, List.take_succ_eq_append_getElem (by simpa using h2)]
      rw [List.take_set_of_le (Nat.le_refl _)]
      simp only [List.getElem_set_self]
      rw [List.drop_set_of_lt (by omega)]
      simp only [List.length_cons, List.append_assoc, List.cons_append, List.nil_append]
      congr 4
      omega
  have := key vs 0 c (by rw [hc]; simpa using hl)
  rw [hc] at this
  simpa using this

theorem fillS_run {fs : List (Nat × Nat)} : ∀ {ps : List (Nat × SV)} {cells l : List SV} {c : Array Value}, fillS fs cells ps = some l → c.toList = SV.denL ρ cells →
    ∃ d, Instr.fill (fun i => fs[i]?) c (ps.map fun p => (p.1, p.2.den ρ)) = some d ∧ d.toList = SV.denL ρ l
  | [], cells, l, c, h, hc => by
    simp only [fillS, Option.some.injEq] at h; subst h
    exact ⟨c, by simp [Instr.fill], hc⟩
  | (i, v) :: r, cells, l, c, h, hc => by
    simp only [fillS] at h
    split at h
    · rename_i off size vc hf hv
      split at h
      · rename_i hb
        simp only [Bool.and_eq_true, beq_iff_eq] at hb
        have hb2 := Nat.le_of_ble_eq_true hb.2
        have hcells := SV.cellsL_den (ρ := ρ) hv
        have hlen : (SV.den ρ v).cells.size = vc.length := by
          rw [← Array.length_toList, hcells, SV.denL_eq, List.length_map]
        have hclen : c.size = cells.length := by rw [← Array.length_toList, hc, SV.denL_eq, List.length_map]
        have hset : (((SV.den ρ v).cells.zipIdx.foldl (fun cs (x, j) => cs.setIfInBounds (off + j) x) c)).toList = SV.denL ρ (setRange cells off vc) := by
          have h1 := set_range (SV.denL ρ cells) (SV.denL ρ vc) off c hc (by simp [SV.denL_eq]; omega)
          have h2 : (SV.den ρ v).cells = (SV.denL ρ vc).toArray := by rw [← hcells]
          rw [h2, h1]
          simp [setRange, SV.denL_eq]
        obtain ⟨d, h3, h4⟩ := fillS_run h hset
        refine ⟨d, ?_, h4⟩
        simp only [List.map_cons, Instr.fill, hf]
        rw [if_neg (by simp [hlen, hclen, hb.1]; omega)]
        exact h3
      · cases h
    · cases h

theorem evPs_run {ev : Operand → Option SV} {ρe : Operand → Value} (hev : ∀ x v, ev x = some v → ρe x = v.den ρ) : ∀ {ps : List (Nat × Operand)} {l : List (Nat × SV)}, evPs ev ps = some l →
    ps.map (fun p => (p.1, ρe p.2)) = l.map (fun p => (p.1, p.2.den ρ))
  | [], l, h => by simp only [evPs, Option.some.injEq] at h; subst h; simp
  | (i, o) :: r, l, h => by
    simp only [evPs] at h
    split at h
    · rename_i v hv
      split at h
      · rename_i l' hl
        simp only [Option.some.injEq] at h; subst h
        simp [hev _ _ hv, evPs_run hev hl]
      · cases h
    · cases h

theorem mapM_sizes {P : Program} {w : World} : ∀ (l : List Field), (∀ x ∈ l, (P.info? x.type).isSome = true) →
    (l.mapM (fun f => do pure (f.offset, ← Go.sizeOf f.type) : Field → Sem (Nat × Nat))).run P w = .ok (l.map fun f => (f.offset, P.cellsOf f.type)) w
  | [], _ => by simp
  | f :: r, h => by
    obtain ⟨i, hi⟩ := Option.isSome_iff_exists.1 (h f (by simp))
    have ih := mapM_sizes (P := P) (w := w) r (fun x hx => h x (by simp [hx]))
    rw [List.mapM_cons]
    simp only [Sem.run_bind, Go.sizeOf, typeInfo, run_program, Result.andThen_ok, hi, Sem.run_pure]
    simp only [Go.sizeOf, typeInfo] at ih
    simp only [ih, Result.andThen_ok]
    simp [Program.cellsOf, hi]

theorem buildV_run (hty : ty.ok P) {t : TypeId} {ps : List (Nat × SV)} {v : SV} (h : buildV (ty t) ps = some v) (w : World) :
    (Instr.build t (ps.map fun p => (p.1, p.2.den ρ)).toArray).run P w = .ok (v.den ρ) w := by
  unfold buildV at h
  split at h
  · rename_i fs sz by_ z ht
    have hT := hty _ _ ht
    obtain ⟨fl, hu, hf, hi⟩ := hT.desc
    split at h
    · rename_i l hl
      simp only [Option.some.injEq] at h; subst h
      have hz := hT.run_zeroValue ρ w
      obtain ⟨d, h1, h2⟩ := fillS_run (ρ := ρ) (c := (SV.denL ρ z).toArray) hl (by simp)
      have h3 := mapM_sizes (P := P) (w := w) fl.toList hi
      rw [hf] at h3
      have h4 : (fl.mapM (fun f => do pure (f.offset, ← Go.sizeOf f.type) : Field → Sem (Nat × Nat))).run P w = .ok fs.toArray w := by
        rw [Array.mapM_eq_mapM_toList, Sem.run_map, h3]
        rfl
      have h5 : (fun i : Nat => fs.toArray[i]?) = (fun i : Nat => fs[i]?) := by funext i; simp
      simp only [Instr.build, Sem.run_bind, hz, Result.andThen_ok, SV.den, Value.cells, run_underlying hu, h4, h5, h1]
      simp [← h2]
    · cases h
  · cases h

theorem pickV_run {ev : Operand → Option SV} {ρe : Operand → Value} (hev : ∀ x v, ev x = some v → ρe x = v.den ρ) {c a b : Operand} {v : SV} (h : pickV ev c a b = some v) (w : World) :
    (do pure (Next.value (if ← asBool (ρe c) then ρe a else ρe b)) : Sem Next).run P w = .ok (.value (v.den ρ)) w := by
  unfold pickV at h
  split at h
  · rename_i hc
    simp [hev _ _ hc, SV.den, asBool, hev _ _ h]
  · rename_i hc
    simp [hev _ _ hc, SV.den, asBool, hev _ _ h]
  · cases h

/-- what is asked of an evaluation of operands -/
structure EvOk (ρ : Nat → Nat) (ev : Operand → Option SV) (evs : List Operand → Option (List SV)) (ρe : Operand → Value) : Prop where
  one : ∀ x v, ev x = some v → ρe x = v.den ρ
  all : ∀ xs l, evs xs = some l → xs.map ρe = SV.denL ρ l

theorem EvOk.arr {ev : Operand → Option SV} {evs : List Operand → Option (List SV)} {ρe : Operand → Value} (h : EvOk ρ ev evs ρe) {xs : Array Operand} {l : List SV} (g : evs xs.toList = some l) :
    xs.map ρe = (SV.denL ρ l).toArray := by
  rw [← h.all _ _ g]; apply Array.ext'; simp

theorem pureV_run (hW : W = IntKind.wrap) (hb : bits = bitsOf) (hty : ty.ok P) {ev : Operand → Option SV} {evs : List Operand → Option (List SV)} {ρe : Operand → Value}
    (hev : EvOk ρ ev evs ρe) {o : Oper} {v : SV} {obs : List Ob} (h : pureV W bits ty ev evs o.op = some (v, obs)) (ho : obsP obs) (w : World) :
    (execOp ρe o).run P w = .ok (.value (v.den ρ)) w := by
  obtain ⟨dst, op, type, pos, after, guard⟩ := o
  simp only at h
  unfold pureV at h
  split at h
  · simp [execOp, hev.one _ _ (noOb_eq h)]
  · simp [execOp, hev.one _ _ (noOb_eq h)]
  · simpa [execOp] using pickV_run hev.one (noOb_eq h) w
  · split at h
    · rename_i hx; exact chkV_run (noOb_eq h) rfl (hev.one _ _ hx) w
    · cases h
  · split at h
    · rename_i hx hy
      have := binV_run (ρ := ρ) hb hty h ho w
      simp only [execOp, hev.one _ _ hx, hev.one _ _ hy, Sem.run_bind] at this ⊢
      simp only [this, Result.andThen_ok, Sem.run_pure]
    · cases h
  · split at h
    · rename_i hx
      simp only [execOp, hev.one _ _ hx, Sem.run_bind, unV_run hW hb (noOb_eq h), Result.andThen_ok, Sem.run_pure]
    · cases h
  · split at h
    · rename_i hx
      simp only [execOp, hev.one _ _ hx, Sem.run_bind, convV_run hW hb hty (noOb_eq h), Result.andThen_ok, Sem.run_pure]
    · cases h
  · split at h
    · rename_i hx
      simp only [execOp, hev.one _ _ hx, Sem.run_bind, fieldV_run hty (noOb_eq h), Result.andThen_ok, Sem.run_pure]
    · cases h
  · split at h
    · rename_i hx
      simp only [execOp, hev.one _ _ hx, Sem.run_bind, extV_run (noOb_eq h), Result.andThen_ok, Sem.run_pure]
    · cases h
  · split at h
    · rename_i hx
      simp only [execOp, hev.one _ _ hx, Sem.run_bind, mkIface_run hty (noOb_eq h), Result.andThen_ok, Sem.run_pure]
    · cases h
  · split at h
    · rename_i ha hb'
      have := noOb_eq h
      simp only [Option.some.injEq] at this
      subst this
      simp [execOp, hev.arr ha, hev.arr hb', Instr.makeFunc, SV.den]
    · cases h
  · split at h
    · rename_i ps _ l hl
      have h1 := evPs_run hev.one hl
      have h2 : (ps.map fun p => (p.1, ρe p.2)) = (l.map fun p => (p.1, p.2.den ρ)).toArray := by
        rw [← h1]; apply Array.ext'; simp
      have h3 := buildV_run (ρ := ρ) hty (noOb_eq h) w
      simp only [execOp]
      have h4 : (ps.map fun x => match x with | (i, x) => (i, ρe x)) = (l.map fun p => (p.1, p.2.den ρ)).toArray := by rw [← h2]
      simp only [h4, Sem.run_bind, h3, Result.andThen_ok, Sem.run_pure]
    · cases h
  · split at h
    · rename_i hx hy
      simp only [execOp, hev.one _ _ hx, hev.one _ _ hy, Sem.run_bind, indexV_run hb hty h ho, Result.andThen_ok, Sem.run_pure]
    · cases h
  · split at h
    · rename_i hx hy
      simp only [execOp, hev.one _ _ hx, hev.one _ _ hy, Sem.run_bind, indexAddrV_run hb hty h ho, Result.andThen_ok, Sem.run_pure]
    · cases h
  · split at h
    · rename_i hx
      simp only [execOp, hev.one _ _ hx, Sem.run_bind, sliceV_run hb hty hev.one h ho, Result.andThen_ok, Sem.run_pure]
    · cases h
  · split at h
    · rename_i hx
      simp only [execOp, hev.one _ _ hx, Sem.run_bind, assertV_run hty (noOb_eq h), Result.andThen_ok, Sem.run_pure]
    · cases h
  · split at h
    · rename_i b xs ts _ l hl
      have := bltV_run (P := P) (ρ := ρ) (rt := type) (cs := xs.map fun | .const _ => true | _ => false) hb hty (noOb_eq h) w
      simp only [execOp, resolve, hev.arr hl, Sem.run_bind, Sem.run_pure, Result.andThen_ok, invoke]
      exact this
    · cases h
  · cases h
 end
end Sx
/- Chunks of memory, in logical blocks; loads, stores, new blocks. -/
namespace Sx
open Go

inductive Chunk (Pd : Type) : Type 1 where
  | cells (id : Nat) (T : TypeId) (vs : List SV)
  | arr {α : Type} (p wr : Bool) (id : Nat) (T : TypeId) (enc : α → List Lit) (xs : List α)
  | map (id : Nat) (es : List (Lit × Lit))
  | abs (p : Pd) (ids : List Nat)
  | at_ (id g : Nat)
  | obj (id : Nat) (o : Obj)
  | own (id : Nat) (A : HP)

section
variable {Pd : Type} (I : Pd → List Nat → HP)

def notFrozen (fz : Nat × Nat) (n : Nat) : Prop := ∀ i, i < n → (fz.1 ≤ i && i < fz.2) = false
def arrCells {α : Type} (enc : α → List Lit) (xs : List α) : Array Value := ((xs.flatMap enc).map Lit.val).toArray
def mapOf (es : List (Lit × Lit)) (e : Array MapEntry × Nat) : Prop := e.1.toList.map (fun x => (x.key, x.val)) = es.map (fun x => (x.1.val, x.2.val)) ∧ MapKept.Stamped e.1 e.2

def Chunk.den (ρ : Nat → Nat) : Chunk Pd → HP
  | .cells id T vs => pts (ρ id) (.cells (SV.denL ρ vs).toArray T (0, 0))
  | .arr p wr id T enc xs => fun h => p = true → exP (fun fz : Nat × Nat => fun h => (wr = true → notFrozen fz (arrCells enc xs).size) ∧ pts (ρ id) (.cells (arrCells enc xs) T fz) h) h
  | .map id es => exP fun x : Array MapEntry × Nat => fun h => mapOf es x ∧ pts (ρ id) (.map x.1 x.2) h
  | .abs p ids => I p (ids.map ρ)
  | .at_ id g => fun _ => ρ id = g
  | .obj id o => pts (ρ id) o
  | .own _ A => A

def idsOk (p : Nat → Bool) : List Nat → Bool
  | [] => true
  | i :: r => p i && idsOk p r
def Chunk.idOk (p : Nat → Bool) : Chunk Pd → Bool
  | .cells id _ vs => p id && SV.idOkL p vs
  | .arr _ _ id _ _ _ => p id
  | .map id _ => p id
  | .abs _ ids => idsOk p ids
  | .at_ id _ => p id
  | .obj id _ => p id
  | .own _ _ => true
def call (p : Nat → Bool) : List (Chunk Pd) → Bool
  | [] => true
  | c :: r => c.idOk p && call p r
def idsRen (σ : Nat → Nat) : List Nat → List Nat
  | [] => []
  | i :: r => σ i :: idsRen σ r
def Chunk.ren (σ : Nat → Nat) : Chunk Pd → Chunk Pd
  | .cells id T vs => .cells (σ id) T (SV.renL σ vs)
  | .arr p wr id T enc xs => .arr p wr (σ id) T enc xs
  | .map id es => .map (σ id) es
  | .abs p ids => .abs p (idsRen σ ids)
  | .at_ id g => .at_ (σ id) g
  | .obj id o => .obj (σ id) o
  | .own i A => .own i A
def csRen (σ : Nat → Nat) : List (Chunk Pd) → List (Chunk Pd)
  | [] => []
  | c :: r => c.ren σ :: csRen σ r
def Chunk.id : Chunk Pd → Nat
  | .cells id _ _ => id
  | .arr _ _ id _ _ _ => id
  | .map id _ => id
  | .abs _ ids => ids.headD 0
  | .at_ id _ => id + 2000
  | .obj id _ => id
  | .own i _ => i + 3000

theorem idsOk_congr {ρ ρ' : Nat → Nat} {p : Nat → Bool} (h : ∀ i, p i = true → ρ i = ρ' i) : ∀ ids, idsOk p ids = true → ids.map ρ = ids.map ρ'
  | [], _ => rfl
  | i :: r, e => by
    simp only [idsOk, Bool.and_eq_true] at e
    simp only [List.map_cons]
    rw [h i e.1, idsOk_congr h r e.2]
theorem Chunk.den_congr {ρ ρ' : Nat → Nat} {p : Nat → Bool} (h : ∀ i, p i = true → ρ i = ρ' i) (c : Chunk Pd) (e : c.idOk p = true) : c.den I ρ = c.den I ρ' := by
  cases c with
  | cells id T vs =>
    simp only [Chunk.idOk, Bool.and_eq_true] at e
    simp only [Chunk.den, h id e.1, SV.denL_congr h vs e.2]
  | arr q wr id T enc xs => simp only [Chunk.idOk] at e; simp only [Chunk.den, h id e]
  | map id es => simp only [Chunk.idOk] at e; simp only [Chunk.den, h id e]
  | abs p ids => simp only [Chunk.idOk] at e; simp only [Chunk.den, idsOk_congr h ids e]
  | at_ id g => simp only [Chunk.idOk] at e; simp only [Chunk.den, h id e]
  | obj id o => simp only [Chunk.idOk] at e; simp only [Chunk.den, h id e]
  | own i A => rfl
theorem cs_congr {ρ ρ' : Nat → Nat} {p : Nat → Bool} (h : ∀ i, p i = true → ρ i = ρ' i) : ∀ cs : List (Chunk Pd), call p cs = true → cs.map (Chunk.den I ρ) = cs.map (Chunk.den I ρ')
  | [], _ => rfl
  | c :: r, e => by
    simp only [call, Bool.and_eq_true] at e
    simp only [List.map_cons, Chunk.den_congr I h c e.1, cs_congr h r e.2]

theorem idsRen_den {ρ σ : Nat → Nat} : ∀ ids, (idsRen σ ids).map ρ = ids.map (fun i => ρ (σ i))
  | [] => rfl
  | i :: r => by simp only [idsRen, List.map_cons, idsRen_den r]
theorem Chunk.den_ren {ρ σ : Nat → Nat} (c : Chunk Pd) : (c.ren σ).den I ρ = c.den I (fun i => ρ (σ i)) := by
  cases c with
  | cells id T vs => simp only [Chunk.ren, Chunk.den, SV.denL_ren]
  | arr q wr id T enc xs => rfl
  | map id es => rfl
  | abs p ids => simp only [Chunk.ren, Chunk.den, idsRen_den]
  | at_ id g => rfl
  | obj id o => rfl
  | own i A => rfl
theorem csRen_den {ρ σ : Nat → Nat} : ∀ cs : List (Chunk Pd), (csRen σ cs).map (Chunk.den I ρ) = cs.map (Chunk.den I (fun i => ρ (σ i)))
  | [] => rfl
  | c :: r => by simp only [csRen, List.map_cons, Chunk.den_ren, csRen_den r]

/-- The memory of a walk: the chunks, and a frame. -/
def SatC (G : Gl) (ρ : Nat → Nat) (cs : List (Chunk Pd)) (F : HP) (w : World) : Prop := Sat G (cs.map (Chunk.den I ρ) ++ [F]) w

variable {I} {G : Gl} {ρ : Nat → Nat} {cs : List (Chunk Pd)} {F : HP} {w : World}

theorem SatR.mem {A : HP} : ∀ {Ps : List HP} {U : Nat → Prop} {H : Hp}, A ∈ Ps → SatR Ps U H → ∃ h, A h ∧ ∀ b o, h b = some o → H b = some o
  | B :: r, U, H, hm, ⟨h1, q, s, t⟩ => by
    rcases List.mem_cons.1 hm with e | e
    · subst e; exact ⟨h1, q, fun b o x => (s b o x).1⟩
    · exact SatR.mem e t

theorem SatC.mem {c : Chunk Pd} (h : SatC I G ρ cs F w) (hc : c ∈ cs) : ∃ g, c.den I ρ g ∧ ∀ b o, g b = some o → w.heap[b]? = some o :=
  SatR.mem (List.mem_append_left _ (List.mem_map.2 ⟨c, hc, rfl⟩)) h.sep

def cget : List (Chunk Pd) → Nat → Option (TypeId × List SV)
  | [], _ => none
  | .cells i T vs :: r, id => if natEq i id then some (T, vs) else cget r id
  | _ :: r, id => cget r id
def cput : List (Chunk Pd) → Nat → List SV → List (Chunk Pd)
  | [], _, _ => []
  | .cells i T vs :: r, id, us => if natEq i id then .cells i T us :: r else .cells i T vs :: cput r id us
  | c :: r, id, us => c :: cput r id us

theorem natEq_iff {a b : Nat} : natEq a b = true ↔ a = b := ⟨Nat.eq_of_beq_eq_true, fun e => by subst e; exact Nat.beq_refl _⟩

theorem cget_split : ∀ {cs : List (Chunk Pd)} {id : Nat} {T : TypeId} {vs : List SV}, cget cs id = some (T, vs) →
    ∃ l1 l2, cs = l1 ++ .cells id T vs :: l2 ∧ ∀ us, cput cs id us = l1 ++ .cells id T us :: l2
  | .cells i T' vs' :: r, id, T, vs, h => by
    simp only [cget] at h
    split at h
    · rename_i e
      have e := natEq_iff.1 e
      subst e
      simp only [Option.some.injEq, Prod.mk.injEq] at h
      obtain ⟨rfl, rfl⟩ := h
      exact ⟨[], r, rfl, fun us => by simp [cput, natEq_iff.2 rfl]⟩
    · rename_i e
      obtain ⟨l1, l2, h1, h2⟩ := cget_split h
      exact ⟨.cells i T' vs' :: l1, l2, by simp [h1], fun us => by simp [cput, e, h2]⟩
  | .arr q wr i T' enc xs :: r, id, T, vs, h => by
    obtain ⟨l1, l2, h1, h2⟩ := cget_split (cs := r) (by simpa [cget] using h)
    exact ⟨_ :: l1, l2, by rw [h1]; rfl, fun us => by simp [cput, h2]⟩
  | .map i es :: r, id, T, vs, h => by
    obtain ⟨l1, l2, h1, h2⟩ := cget_split (cs := r) (by simpa [cget] using h)
    exact ⟨_ :: l1, l2, by rw [h1]; rfl, fun us => by simp [cput, h2]⟩
  | .abs p ids :: r, id, T, vs, h => by
    obtain ⟨l1, l2, h1, h2⟩ := cget_split (cs := r) (by simpa [cget] using h)
    exact ⟨_ :: l1, l2, by rw [h1]; rfl, fun us => by simp [cput, h2]⟩
  | .at_ i g :: r, id, T, vs, h => by
    obtain ⟨l1, l2, h1, h2⟩ := cget_split (cs := r) (by simpa [cget] using h)
    exact ⟨_ :: l1, l2, by rw [h1]; rfl, fun us => by simp [cput, h2]⟩
  | .obj i o :: r, id, T, vs, h => by
    obtain ⟨l1, l2, h1, h2⟩ := cget_split (cs := r) (by simpa [cget] using h)
    exact ⟨_ :: l1, l2, by rw [h1]; rfl, fun us => by simp [cput, h2]⟩
  | .own i A :: r, id, T, vs, h => by
    obtain ⟨l1, l2, h1, h2⟩ := cget_split (cs := r) (by simpa [cget] using h)
    exact ⟨_ :: l1, l2, by rw [h1]; rfl, fun us => by simp [cput, h2]⟩

theorem SatC.perm {cs' : List (Chunk Pd)} (h : SatC I G ρ cs F w) (p : cs.Perm cs') : SatC I G ρ cs' F w :=
  Sat.perm h ((p.map _).append_right _)
theorem perm_mid {α : Type _} (l1 l2 : List α) (c : α) : (l1 ++ c :: l2).Perm (c :: (l1 ++ l2)) := List.perm_middle

theorem SatC.cell {id : Nat} {T : TypeId} {vs : List SV} (h : SatC I G ρ cs F w) (e : cget cs id = some (T, vs)) :
    w.heap[ρ id]? = some (.cells (SV.denL ρ vs).toArray T (0, 0)) := by
  obtain ⟨l1, l2, h1, _⟩ := cget_split e
  obtain ⟨g, hg, hs⟩ := h.mem (c := .cells id T vs) (by rw [h1]; simp)
  exact hs _ _ hg.1

theorem SatC.putw {id : Nat} {T : TypeId} {vs us : List SV} {w' : World} (h : SatC I G ρ cs F w) (e : cget cs id = some (T, vs))
    (hw : w'.heap = w.heap.setIfInBounds (ρ id) (.cells (SV.denL ρ us).toArray T (0, 0))) (ei : io w' = io w := by rfl) : SatC I G ρ (cput cs id us) F w' := by
  obtain ⟨l1, l2, h1, h2⟩ := cget_split e
  rw [h2 us]
  have h3 : SatC I G ρ (.cells id T vs :: (l1 ++ l2)) F w := h.perm (by rw [h1]; exact perm_mid _ _ _)
  have h4 : SatC I G ρ (.cells id T us :: (l1 ++ l2)) F w' := Sat.put (o := .cells (SV.denL ρ vs).toArray T (0, 0)) h3 hw ei
  exact h4.perm (perm_mid _ _ _).symm

theorem SatC.newCells {id : Nat} {T : TypeId} {vs : List SV} (h : SatC I G ρ cs F w) (hid : ρ id = w.heap.size) :
    SatC I G ρ (.cells id T vs :: cs) F { w with heap := w.heap.push (.cells (SV.denL ρ vs).toArray T (0, 0)) } := by
  have := Sat.new h (.cells (SV.denL ρ vs).toArray T (0, 0))
  simp only [SatC, List.map_cons, Chunk.den, hid]
  exact this
theorem SatC.newMap {id : Nat} (h : SatC I G ρ cs F w) (hid : ρ id = w.heap.size) : SatC I G ρ (.map id [] :: cs) F { w with heap := w.heap.push (.map #[] 0) } := by
  have := Sat.new h (.map #[] 0)
  obtain ⟨a, b, h1, p, s, t⟩ := this
  refine ⟨a, b, h1, ?_, s, t⟩
  simp only [Chunk.den, hid]
  exact ⟨(#[], 0), ⟨rfl, MapKept.stamped_empty 0⟩, p⟩
theorem SatC.congr {ρ' : Nat → Nat} {p : Nat → Bool} (h : SatC I G ρ cs F w) (hp : call p cs = true) (hr : ∀ i, p i = true → ρ i = ρ' i) : SatC I G ρ' cs F w := by
  unfold SatC; rw [← cs_congr I hr cs hp]; exact h
theorem SatC.same {w' : World} (h : SatC I G ρ cs F w) (e : w'.heap = w.heap) (ei : io w' = io w := by rfl) : SatC I G ρ cs F w' := Sat.same h e ei
 end

/- Reading and writing cells. -/
theorem loadCellsFrom_run {P : Program} {w : World} {b : Nat} {c : Array Value} {T : TypeId} {fz : Nat × Nat} (h : w.heap[b]? = some (.cells c T fz)) :
    ∀ (n : Nat) (off i : Nat) (acc : Array Value), off + i + n ≤ c.size →
      (loadCellsFrom ⟨b, off, none⟩ i n acc).run P w = .ok (acc ++ c.extract (off + i) (off + i + n)) w
  | 0, off, i, acc, hl => by
    simp [loadCellsFrom]; omega
  | n + 1, off, i, acc, hl => by
    have hlt : off + i < c.size := by omega
    have hc : w.cell? ⟨b, off + i, none⟩ = some c[off + i] := by simp [World.cell?, h, hlt]
    have ih := loadCellsFrom_run (P := P) h n off (i + 1) (acc.push c[off + i]) (by omega)
    simp only [loadCellsFrom, addr_add, Sem.run_bind]
    have hl : (load ⟨b, off + i, none⟩).run P w = .ok c[off + i] w := by simp [load, Sem.run, hc]
    rw [hl, Result.andThen_ok, ih]
    congr 1
    apply Array.ext'
    simp only [Array.toList_append, Array.toList_push, Array.toList_extract, List.append_assoc]
    congr 1
    have e1 : (c.toList.extract (off + i) (off + i + (n + 1))) = c[off + i] :: c.toList.extract (off + (i + 1)) (off + (i + 1) + n) := by
      simp only [List.extract_eq_take_drop]
      rw [show off + i + (n + 1) - (off + i) = n + 1 by omega, show off + (i + 1) + n - (off + (i + 1)) = n by omega]
      rw [List.drop_eq_getElem_cons (by simpa using hlt)]
      simp [Nat.add_assoc]
    rw [e1]; rfl

theorem storeCells_run {P : Program} {b : Nat} {T : TypeId} {fz : Nat × Nat} :
    ∀ (vs : List Value) (off i : Nat) (c : Array Value) (w : World), w.heap[b]? = some (.cells c T fz) → off + i + vs.length ≤ c.size →
      (∀ v ∈ vs, v.oneCell' = true) → (∀ j, j < vs.length → (fz.1 ≤ off + i + j && off + i + j < fz.2) = false) →
      ∃ w', (storeCells ⟨b, off, none⟩ vs i).run P w = .ok () w' ∧
        w'.heap = w.heap.setIfInBounds b (.cells (c.toList.take (off + i) ++ vs ++ c.toList.drop (off + i + vs.length)).toArray T fz) ∧ io w' = io w
  | [], off, i, c, w, h, _, _, _ => by
    refine ⟨w, by simp [storeCells], ?_, rfl⟩
    have e : (c.toList.take (off + i) ++ [] ++ c.toList.drop (off + i + ([] : List Value).length)).toArray = c := by simp
    rw [e]
    apply Array.ext_getElem?
    intro k
    by_cases hk : b = k
    · subst hk; rw [Array.getElem?_setIfInBounds_self_of_lt (Array.getElem?_eq_some_iff.1 h).1, h]
    · rw [Array.getElem?_setIfInBounds_ne hk]
  | v :: r, off, i, c, w, h, hl, h1, hf => by
    simp only [List.length_cons] at hl
    have hlt : off + i < c.size := by omega
    have hc : w.cell? ⟨b, off + i, none⟩ = some c[off + i] := by simp [World.cell?, h, hlt]
    have hfr : w.frozen? ⟨b, off + i, none⟩ = false := by simpa [World.frozen?, h] using hf 0 (by simp)
    have hst : (store ⟨b, off + i, none⟩ v).run P w = .ok () (w.setCell ⟨b, off + i, none⟩ v) := by
      unfold store
      have := run_store P w ⟨b, off + i, none⟩ v .plain (h1 v (by simp))
      simpa [store, hc, hfr] using this
    have hw1 : (w.setCell ⟨b, off + i, none⟩ v).heap = w.heap.setIfInBounds b (.cells (c.setIfInBounds (off + i) v) T fz) := by
      simp only [World.setCell]; rw [modify_eq_set _ _ _ _ h]; simp
    have hlt' : b < w.heap.size := (Array.getElem?_eq_some_iff.1 h).1
    have h' : (w.setCell ⟨b, off + i, none⟩ v).heap[b]? = some (.cells (c.setIfInBounds (off + i) v) T fz) := by
      rw [hw1]; simp [hlt']
    obtain ⟨w', h3, h4, h5⟩ := storeCells_run (P := P) r off (i + 1) _ _ h' (by simp; omega) (fun u hu => h1 u (by simp [hu])) (fun j hj => by
      have := hf (j + 1) (by simp; omega)
      rw [show off + (i + 1) + j = off + i + (j + 1) by omega]; exact this)
    refine ⟨w', by simp only [storeCells, addr_add, Sem.run_bind, hst, Result.andThen_ok, h3], ?_, h5.trans rfl⟩
    rw [h4, hw1]
    have e : (c.setIfInBounds (off + i) v).toList = c.toList.set (off + i) v := by simp
    rw [e, show off + (i + 1) = off + i + 1 by omega, List.take_succ_eq_append_getElem (by simpa using hlt), List.take_set_of_le (Nat.le_refl _), List.getElem_set_self, List.drop_set_of_lt (by omega)]
    rw [Array.setIfInBounds_setIfInBounds]
    congr 3
    simp only [List.length_cons, List.append_assoc, List.cons_append, List.nil_append]
    rw [show off + i + 1 + r.length = off + i + (r.length + 1) by omega]

/- Operations on memory. -/
def SV.one : SV → Bool
  | .agg _ | .tuple _ | .raw _ => false
  | _ => true
def oneL : List SV → Bool
  | [] => true
  | v :: r => v.one && oneL r
def notId (fr : Nat) (i : Nat) : Bool := !natEq i fr
section
variable {Pd : Type}
def loadM (cs : List (Chunk Pd)) (T : Option TI) (x : SV) : Option SV :=
  match T, x with
  | some t, .ptr id off => match cget cs id with
    | some (_, vs) => if t.d.isAgg then (if Nat.ble (off + t.size) vs.length then some (.agg ((vs.drop off).take t.size)) else none) else vs[off]?
    | none => none
  | _, _ => none
def storeM (cs : List (Chunk Pd)) (T : Option TI) (x v : SV) : Option (List (Chunk Pd)) :=
  match T, x with
  | some t, .ptr id off => match v.cellsL, cget cs id with
    | some vc, some (_, vs) => if vc.length == t.size && Nat.ble (off + vc.length) vs.length && oneL vc then some (cput cs id (setRange vs off vc)) else none
    | _, _ => none
  | _, _ => none
def allocM (cs : List (Chunk Pd)) (fr : Nat) (t : TypeId) (T : Option TI) : Option (SV × List (Chunk Pd)) :=
  match T with
  | some x => match x.zero.cellsL with
    | some z => some (.ptr fr 0, .cells fr t z :: cs)
    | none => none
  | none => none
def boxM (cs : List (Chunk Pd)) (fr : Nat) (t : TypeId) (v : SV) : Option (SV × List (Chunk Pd)) :=
  match v.cellsL with
  | some vc => if SV.idOkL (notId fr) vc then some (.ptr fr 0, .cells fr t vc :: cs) else none
  | none => none
def catS (size : Nat) : Nat → List (Nat × SV) → Option (List SV)
  | _, [] => some []
  | k, (i, v) :: r => match v.cellsL with
    | some vc => if natEq i k && natEq vc.length size then (match catS size (k + 1) r with
      | some l => some (vc ++ l)
      | none => none) else none
    | none => none
def buildSliceM (ty : Tab) (cs : List (Chunk Pd)) (fr : Nat) (T : Option TI) (len : Nat) (ps : List (Nat × SV)) : Option (SV × List (Chunk Pd)) :=
  match T with
  | some ⟨.slice e, _, _, _⟩ => match ty e with
    | some te => match catS te.size 0 ps with
      | some l => if natEq ps.length len && Nat.ble 1 te.size && Nat.ble (len * te.size) 16777216 && SV.idOkL (notId fr) l && natEq len 0 == false then some (.slice fr te.size 0 len len, .cells fr e l :: cs) else none
      | none => none
    | none => none
  | _ => none
def memV (ty : Tab) (ev : Operand → Option SV) (cs : List (Chunk Pd)) (fr : Nat) (o : Op) : Option (SV × List (Chunk Pd)) :=
  match o with
  | .load t x => match ev x with
    | some a => match loadM cs (ty t) a with
      | some v => some (v, cs)
      | none => none
    | none => none
  | .store t x y => match ev x, ev y with
    | some a, some v => match storeM cs (ty t) a v with
      | some cs' => some (.tuple [], cs')
      | none => none
    | _, _ => none
  | .alloc t => allocM cs fr t (ty t)
  | .box t x => match ev x with
    | some v => boxM cs fr t v
    | none => none
  | .buildSlice t n ps => match evPs ev ps.toList with
    | some l => buildSliceM ty cs fr (ty t) n l
    | none => none
  | .makeMap _ none => some (.map fr, .map fr [] :: cs)
  | _ => none
 end

section
variable {Pd : Type} {I : Pd → List Nat → HP} {P : Program} {G : Gl} {ρ : Nat → Nat} {cs cs' : List (Chunk Pd)} {F : HP} {w : World} {ty : Tab}

theorem one_den {v : SV} (h : v.one = true) : (v.den ρ).oneCell' = true := by cases v <;> simp [SV.one] at h <;> simp [SV.den, Value.oneCell']
theorem oneL_den : ∀ {l : List SV}, oneL l = true → ∀ x ∈ SV.denL ρ l, x.oneCell' = true
  | [], _, x, hx => by simp [SV.denL] at hx
  | v :: r, h, x, hx => by
    simp only [oneL, Bool.and_eq_true] at h
    simp only [SV.denL, List.mem_cons] at hx
    rcases hx with rfl | hx
    · exact one_den h.1
    · exact oneL_den h.2 x hx

theorem loadM_run (hty : ty.ok P) (hs : SatC I G ρ cs F w) {t : TypeId} {x v : SV} (h : loadM cs (ty t) x = some v) : (Instr.loadAt t (x.den ρ)).run P w = .ok (v.den ρ) w := by
  unfold loadM at h
  split at h
  · rename_i tt id off ht
    split at h
    · rename_i T vs hg
      have hb := hs.cell hg
      have ha := (hty _ _ ht).run_isAgg w
      have hz := (hty _ _ ht).run_sizeOf w
      split at h
      · rename_i hagg
        split at h
        · rename_i hl
          have hl := Nat.le_of_ble_eq_true hl
          simp only [Option.some.injEq] at h; subst h
          have := loadCellsFrom_run (P := P) hb tt.size off 0 #[] (by simp [SV.denL_eq]; omega)
          simp only [Instr.loadAt, SV.den, Instr.sureAddr, Sem.run_bind, Sem.run_pure, Result.andThen_ok, loadVar, ha, hagg, if_true, hz, loadCells, this]
          simp [SV.denL_eq, List.extract_eq_take_drop, List.map_drop, List.map_take]
        · cases h
      · rename_i hagg
        have hc : w.cell? ⟨ρ id, off, none⟩ = some (v.den ρ) := by simp [World.cell?, hb, denL_get, h]
        simp [Instr.loadAt, SV.den, Instr.sureAddr, loadVar, ha, hagg, load, Sem.run, hc]
    · cases h
  · cases h

theorem storeM_run (hty : ty.ok P) (hs : SatC I G ρ cs F w) {t : TypeId} {x v : SV} (h : storeM cs (ty t) x v = some cs') :
    ∃ w', (Instr.storeAt t (x.den ρ) (v.den ρ)).run P w = .ok () w' ∧ SatC I G ρ cs' F w' := by
  unfold storeM at h
  split at h
  · rename_i tt id off ht
    split at h
    · rename_i vc T vs hv hg
      split at h
      · rename_i hc
        simp only [Bool.and_eq_true, beq_iff_eq] at hc
        obtain ⟨⟨h1, h2⟩, h3⟩ := hc
        have h2 := Nat.le_of_ble_eq_true h2
        simp only [Option.some.injEq] at h; subst h
        have hb := hs.cell hg
        have hz := (hty _ _ ht).run_sizeOf w
        have hcells := SV.cellsL_den (ρ := ρ) hv
        have hlen : (SV.den ρ v).cells.size = vc.length := by rw [← Array.length_toList, hcells, SV.denL_eq, List.length_map]
        obtain ⟨w', h4, h5, h6⟩ := storeCells_run (P := P) (SV.denL ρ vc) off 0 _ w hb (by simp [SV.denL_eq]; omega) (oneL_den h3) (by intro j _; simp)
        refine ⟨w', ?_, hs.putw hg ?_ h6⟩
        · simp only [Instr.storeAt, SV.den, Instr.sureAddr, Sem.run_bind, Sem.run_pure, Result.andThen_ok, storeVar, hz, hlen, h1, ne_eq, not_true, if_false, hcells]
          simpa using h4
        · rw [h5]
          simp [setRange, SV.denL_eq]
      · cases h
    · cases h
  · cases h

def upd1 (ρ : Nat → Nat) (k b : Nat) : Nat → Nat := fun i => if i = k then b else ρ i
theorem upd1_ne {k b i : Nat} (h : i ≠ k) : upd1 ρ k b i = ρ i := by simp [upd1, h]
theorem notId_ne {fr i : Nat} (h : notId fr i = true) : i ≠ fr := by
  intro e; subst e; simp [notId, natEq_iff.2 rfl] at h

theorem catS_run {size : Nat} (hsz : 1 ≤ size) : ∀ {ps : List (Nat × SV)} {k : Nat} {l : List SV} {c : Array Value}, catS size k ps = some l → c.size = (k + ps.length) * size →
    Instr.fill (fun i => some (i * size, size)) c (ps.map fun p => (p.1, p.2.den ρ)) = some (c.toList.take (k * size) ++ SV.denL ρ l).toArray
  | [], k, l, c, h, hc => by
    simp only [catS, Option.some.injEq] at h; subst h
    have : c.toList.take (k * size) = c.toList := List.take_of_length_le (by simp [hc])
    simp [Instr.fill, SV.denL, this]
  | (i, v) :: r, k, l, c, h, hc => by
    simp only [catS] at h
    split at h
    · rename_i vc hv
      split at h
      · rename_i hb
        simp only [Bool.and_eq_true] at hb
        have h1 := natEq_iff.1 hb.1
        have h2 := natEq_iff.1 hb.2
        subst h1
        split at h
        · rename_i l' hl
          simp only [Option.some.injEq] at h; subst h
          have hcells := SV.cellsL_den (ρ := ρ) hv
          have hlen : (SV.den ρ v).cells.size = vc.length := by rw [← Array.length_toList, hcells, SV.denL_eq, List.length_map]
          have hlen2 : (SV.denL ρ vc).length = size := by rw [SV.denL_eq, List.length_map, h2]
          simp only [List.length_cons] at hc
          have hroom : i * size + size ≤ c.size := by
            rw [hc, show i * size + size = (i + 1) * size by rw [Nat.add_mul]; omega]
            exact Nat.mul_le_mul_right _ (by omega)
          have h3 : (SV.den ρ v).cells = (SV.denL ρ vc).toArray := by rw [← hcells]
          have hset := set_range c.toList (SV.denL ρ vc) (i * size) c rfl (by rw [hlen2]; simpa using hroom)
          have hset' : ((SV.denL ρ vc).toArray.zipIdx.foldl (fun a (x, j) => a.setIfInBounds (i * size + j) x) c) = (c.toList.take (i * size) ++ SV.denL ρ vc ++ c.toList.drop (i * size + (SV.denL ρ vc).length)).toArray := by
            apply Array.ext'; rw [hset]
          simp only [List.map_cons, Instr.fill, hlen, h2]
          rw [if_neg (by simp; omega), h3, hset']
          have hall : (i + 1 + r.length) * size = c.size := by rw [hc]; congr 1; omega
          rw [catS_run hsz hl (by
            simp only [List.size_toArray, List.length_append, List.length_take, List.length_drop, Array.length_toList, hlen2]
            rw [Nat.min_eq_left (by omega)]; omega)]
          congr 2
          have e1 : (i + 1) * size = i * size + size := by rw [Nat.add_mul]; omega
          simp only [SV.denL_eq] at hlen2 ⊢
          rw [List.toList_toArray, e1]
          have e2 : (c.toList.take (i * size)).length = i * size := by simp; omega
          rw [List.take_append_of_le_length (by simp only [List.length_append, e2, hlen2]; omega)]
          rw [List.take_of_length_le (by simp only [List.length_append, e2, hlen2]; omega)]
          simp
        · cases h
      · cases h
    · cases h

theorem memV_run (hty : ty.ok P) {ev : Operand → Option SV} {evs : List Operand → Option (List SV)} {ρe : Operand → Value} (hev : EvOk ρ ev evs ρe)
    {o : Oper} {v : SV} {fr : Nat} (h : memV ty ev cs fr o.op = some (v, cs')) (hs : SatC I G ρ cs F w) (hfr : call (notId fr) cs = true) :
    ∃ w' ρ' nx, (execOp ρe o).run P w = .ok nx w' ∧ (nx = .value (v.den ρ') ∨ (nx = .skip ∧ v = .tuple [])) ∧ (∀ i, i ≠ fr → ρ' i = ρ i) ∧ SatC I G ρ' cs' F w' := by
  obtain ⟨dst, op, type, pos, after, guard⟩ := o
  simp only at h
  have hs1 : ∀ b, SatC I G (upd1 ρ fr b) cs F w := fun b => hs.congr hfr fun i hi => (upd1_ne (notId_ne hi)).symm
  unfold memV at h
  split at h
  · split at h
    · rename_i ha
      split at h
      · rename_i v' hl
        simp only [Option.some.injEq, Prod.mk.injEq] at h
        obtain ⟨rfl, rfl⟩ := h
        refine ⟨w, ρ, _, ?_, .inl rfl, fun _ _ => rfl, hs⟩
        simp only [execOp, hev.one _ _ ha, Sem.run_bind, loadM_run hty hs hl, Result.andThen_ok, Sem.run_pure]
      · cases h
    · cases h
  · split at h
    · rename_i ha hb
      split at h
      · rename_i c2 hl
        simp only [Option.some.injEq, Prod.mk.injEq] at h
        obtain ⟨rfl, rfl⟩ := h
        obtain ⟨w', h1, h2⟩ := storeM_run hty hs hl
        refine ⟨w', ρ, _, ?_, .inr ⟨rfl, rfl⟩, fun _ _ => rfl, h2⟩
        simp only [execOp, hev.one _ _ ha, hev.one _ _ hb, Sem.run_bind, h1, Result.andThen_ok, Sem.run_pure]
      · cases h
    · cases h
  · rename_i t
    unfold allocM at h
    split at h
    · rename_i x hx
      split at h
      · rename_i z hz
        simp only [Option.some.injEq, Prod.mk.injEq] at h
        obtain ⟨rfl, rfl⟩ := h
        have h1 := (hty _ _ hx).run_zeroValue (upd1 ρ fr w.heap.size) w
        have h2 := SV.cellsL_den (ρ := upd1 ρ fr w.heap.size) hz
        refine ⟨_, upd1 ρ fr w.heap.size, _, ?_, .inl rfl, fun i hi => upd1_ne hi, SatC.newCells (hs1 _) (by simp [upd1])⟩
        have h3 : (SV.den (upd1 ρ fr w.heap.size) x.zero).cells = (SV.denL (upd1 ρ fr w.heap.size) z).toArray := by rw [← h2]
        simp [execOp, Instr.alloc, h1, newVar, newRow, h3, SV.den, upd1]
      · cases h
    · cases h
  · split at h
    · rename_i t _ _ u hu
      unfold boxM at h
      split at h
      · rename_i vc hv
        split at h
        · rename_i hid
          simp only [Option.some.injEq, Prod.mk.injEq] at h
          obtain ⟨rfl, rfl⟩ := h
          have h0 : SV.denL (upd1 ρ fr w.heap.size) vc = SV.denL ρ vc := (SV.denL_congr (fun i hi => (upd1_ne (notId_ne hi)).symm) vc hid).symm
          have h2 := SV.cellsL_den (ρ := ρ) hv
          have h3 : (SV.den ρ u).cells = (SV.denL (upd1 ρ fr w.heap.size) vc).toArray := by rw [h0, ← h2]
          refine ⟨_, upd1 ρ fr w.heap.size, _, ?_, .inl rfl, fun i hi => upd1_ne hi, SatC.newCells (hs1 _) (by simp [upd1])⟩
          simp [execOp, Instr.box, hev.one _ _ hu, newVar, newRow, h3, SV.den, upd1]
        · cases h
      · cases h
    · cases h
  · split at h
    · rename_i t n ps _ l hl
      unfold buildSliceM at h
      split at h
      · rename_i e _ _ _ ht
        split at h
        · rename_i te hte
          split at h
          · rename_i l' hl'
            split at h
            · rename_i hc
              simp only [Bool.and_eq_true, beq_iff_eq] at hc
              obtain ⟨⟨⟨⟨hn, h1⟩, h2⟩, hid⟩, hn0⟩ := hc
              have hn := natEq_iff.1 hn
              have h1 := Nat.le_of_ble_eq_true h1
              have h2 := Nat.le_of_ble_eq_true h2
              simp only [Option.some.injEq, Prod.mk.injEq] at h
              obtain ⟨rfl, rfl⟩ := h
              have hd := (hty _ _ ht).desc
              simp only [TD.ok] at hd
              have hz := (hty _ _ hte).run_sizeOf w
              have hz0 := (hty _ _ hte).run_zeroValue ρ w
              have hps := evPs_run hev.one hl
              have h0 : SV.denL (upd1 ρ fr w.heap.size) l' = SV.denL ρ l' := (SV.denL_congr (fun i hi => (upd1_ne (notId_ne hi)).symm) l' hid).symm
              have hnz : ¬ n * te.size = 0 := by
                have : n ≠ 0 := fun e => by subst e; simp [natEq] at hn0
                intro e; rcases Nat.mul_eq_zero.1 e with e | e <;> omega
              have hfill : ∀ c : Array Value, c.size = n * te.size → Instr.fill (fun i => some (i * te.size, te.size)) c (l.map fun p => (p.1, p.2.den ρ)) = some (SV.denL ρ l').toArray := by
                intro c hc
                have := catS_run (ρ := ρ) h1 hl' (c := c) (by rw [hc, hn]; simp)
                simpa using this
              refine ⟨_, upd1 ρ fr w.heap.size, _, ?_, .inl rfl, fun i hi => upd1_ne hi, SatC.newCells (hs1 _) (by simp [upd1])⟩
              have h4 : (ps.map fun x => match x with | (i, x) => (i, ρe x)).toList = (l.map fun p => (p.1, p.2.den ρ)) := by rw [← hps]; simp
              simp only [execOp, Instr.buildSlice, Sem.run_bind, run_underlying hd, Result.andThen_ok, hz, Sem.run_ite]
              rw [if_neg (by simpa using h2), if_neg hnz]
              simp only [hz0, Result.andThen_ok, Sem.run_pure]
              rw [h4, hfill _ (by simp)]
              simp [newRow, h0, SV.den, upd1]
            · cases h
          · cases h
        · cases h
      · cases h
    · cases h
  · simp only [Option.some.injEq, Prod.mk.injEq] at h
    obtain ⟨rfl, rfl⟩ := h
    refine ⟨_, upd1 ρ fr w.heap.size, _, ?_, .inl rfl, fun i hi => upd1_ne hi, SatC.newMap (hs1 _) (by simp [upd1])⟩
    simp [execOp, Instr.makeMap, SV.den, upd1]
  · cases h
 end
end Sx
