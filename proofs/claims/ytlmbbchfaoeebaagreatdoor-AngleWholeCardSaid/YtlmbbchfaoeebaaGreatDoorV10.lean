/-
  Part of a proof.
-/
import Derived.Test.YtlmbbchfaoeebaaGreatDoorV08
import Derived.Test.YtlmbbchfaoeebaaGreatDoorV09
import Derived.Test.YtlmbbchfaoeebaaGreatDoorV07
set_option linter.unusedVariables false
set_option linter.unusedSimpArgs false
/- row.Row.Word, Name, Quoted: the walks. -/
namespace Hx
open Go Sx Go.Proofs
set_option maxRecDepth 100000
set_option maxHeartbeats 4000000
set_option linter.unusedVariables false
set_option linter.unusedSimpArgs false
variable {GOk : Gl → Prop}
/-- a word, letter by letter: where it ends; is it there? -/
def wordGo (s : ByteArray) : List UInt8 → Nat → Nat × Bool
  | [], k => (k, true)
  | b :: r, k => if isB s k (b.toNat : Nat) then wordGo s r (k + 1) else (k, false)
theorem word_spec (s w : ByteArray) (a : Nat) (tv : Value) (hs : s.size < 4611686018427387904) (hw : w.size < 4611686018427387904) : Triple (BB Ip GOk) 186 1 1 [.ptr 0 0, .str w] [rowc 0 s a tv]
    (fun K => ∀ k ok, (k, ok) = wordGo s w.data.toList a → (ok = true → K (.ret (.tuple [])) [rowc 0 s k tv]) ∧ (ok = false → K (.pan (flt 2 (Int.ofNat k))) [rowc 0 s k tv])) := by
  refine triple_of BB_ok (tb := ty) rfl (n0 := 1) (fun _ : Unit => _) pl186 Tryz.call186 Tryz.func186 rfl (by kernel_rfl) (Nat.le_of_ble_eq_true rfl) (by decide) rfl pre_none ?_
  rintro G hG K hK W bi bc bs bk bu bb bo bg bl bp bn be Ncond Nob Nop Nloop Nscope hN Nfin hf _ _
  cbv
  refine op_ hN (str_bytes ty_ok rfl rfl rfl rfl rfl rfl rfl ?_)
  intro m cap xs hm hcap hmc hxs
  cbv
  refine loopN_ hN (loop_ hN ty_ok mixed (ι := Nat × Nat) (fun y => ⟨[(0, .ptr 0 0), (7, .vec true 1 1 0 m cap), (8, .int .i64 (Int.ofNat m)), (9, .int .i64 (Int.ofNat y.1))], [.arr true true 1 5 encB xs, rowc 0 s y.2 tv], 2⟩) (fun y => y.1 ≤ m ∧ wordGo s (w.data.toList.drop y.1) y.2 = wordGo s w.data.toList a) (fun y => m - y.1) (Leads.idx (0, a) [1] ⟨Nat.zero_le _, rfl⟩ ⟨⟨rfl, rfl, rfl, rfl, trivial⟩, rfl, Nat.le_of_ble_eq_true rfl⟩) ?_)
  rintro ⟨k, j⟩ ⟨hk1, hk3⟩ Nnext hn _
  simp only at hk1 hk3
  cbv
  refine cond_ hN (fun h3 => ?_) (fun h3 => ?_)
  · cbv
    have h3' : k < m := by rw [clt hN] at h3; simpa using h3
    refine ob_ hN ⟨⟨by simp, by simpa using h3'⟩, rfl, trivial⟩ ?_
    cbv
    refine op_ hN (load_byte ty_ok rfl rfl rfl rfl (by rw [plus0 hN]; omega) ?_)
    intro x b hx hb
    rw [plus0 hN] at hx
    have hdrop := drop_byte hxs h3' (by omega) hx
    have hgo : wordGo s w.data.toList a = if isB s j b then wordGo s (w.data.toList.drop (k + 1)) (j + 1) else (j, false) := by
      rw [← hk3, hdrop, hb]; rfl
    cbv
    refine op_ hN (call_ (must_spec s j tv b hs) hG [0] rfl rfl rfl rfl rfl ?_)
    refine ⟨fun hi => ?_, fun hi => ?_⟩
    · cbv
      have hlt : j < s.size := by simp [isB] at hi; exact hi.1
      refine hn _ (Leads.nxt (k + 1, j + 1) [1] ⟨h3', ?_⟩ (by simp only; omega) ⟨⟨rfl, rfl, rfl, ?_, trivial⟩, rfl, Nat.le_of_ble_eq_true rfl⟩)
      · rw [hgo, if_pos hi]
      · exact congrArg (fun z => some (SV.int .i64 z)) (inext hN (by omega))
    · cbv
      refine hf _ _ (fin_ [] rfl rfl ((hK j false ?_).2 rfl))
      rw [hgo, if_neg (by rw [hi]; decide)]
  · cbv
    refine hf _ _ (fin_ [] rfl rfl ((hK j true ?_).1 rfl))
    rw [clt hN] at h3
    simp only [decide_eq_true_eq, decide_eq_false_iff_not, Int.ofNat_eq_natCast, gt_iff_lt, ge_iff_le, Bool.not_eq_true', Bool.not_eq_false', Int.not_lt, Int.not_le] at h3
    have : k = m := by omega
    rw [← hk3, this, List.drop_eq_nil_of_le (by rw [hm]; exact Nat.le_refl _)]; rfl
/-- a quoted text's bytes from k on: where it ends, which error, what it says -/
def quotGo (s : ByteArray) (q : Qt) (k : Nat) : Nat × Int × Qt :=
  if h : k < s.size then
    match qtStep q ((s.data[k]'h).toNat : Nat) with
    | ((over, e), q') => if e ≠ 0 then (k, e, q') else if over then (k + 1, 0, q') else quotGo s q' (k + 1)
  else (k, 2, q)
 termination_by s.size - k
def qt0 : Qt := ⟨[], false, 0, 0, false⟩
/-- a quoted text: where it ends, which error, what it says -/
def quotR (s : ByteArray) (a : Nat) : Nat × Int × List UInt8 := if isB s a 34 then ((quotGo s qt0 (a + 1)).1, (quotGo s qt0 (a + 1)).2.1, (quotGo s qt0 (a + 1)).2.2.bytes) else (a, 2, [])
theorem qt_step_spec' {GOk : Gl → Prop} (q : Qt) (b : Int) (x : UInt8) (hb : b = (x.toNat : Nat)) : Triple (BB Ip GOk) 188 1 1 [.ptr 0 0, .int .u8 b] [.abs (.qt q) [0]]
    (fun K => ∀ r e q', ((r, e), q') = qtStep q b → K (.ret (.tuple [.bool r, .int .i64 e])) [.abs (.qt q') [0]]) := by subst hb; exact qt_step_spec q x
theorem quoted_spec (s : ByteArray) (a : Nat) (tv : Value) (hs : s.size < 4611686018427387904) : Triple (BB Ip GOk) 183 1 1 [.ptr 0 0] [rowc 0 s a tv]
    (fun K => ∀ k e l, (k, e, l) = quotR s a → (e = 0 → ∀ t : ByteArray, t.data.toList = l → K (.ret (.str t)) [rowc 0 s k tv]) ∧ (e ≠ 0 → K (.pan (flt e (Int.ofNat k))) [rowc 0 s k tv])) := by
  refine triple_of BB_ok (tb := ty) rfl (n0 := 1) (fun _ : Unit => _) pl183 Tryz.call183 Tryz.func183 rfl (by kernel_rfl) (Nat.le_of_ble_eq_true rfl) (by decide) rfl pre_none ?_
  rintro G hG K hK W bi bc bs bk bu bb bo bg bl bp bn be Ncond Nob Nop Nloop Nscope hN Nfin hf _ _
  cbv
  refine op_ hN (call_ (must_spec s a tv 34 hs) hG [0] rfl rfl rfl rfl rfl ?_)
  refine ⟨fun hi => ?_, fun hi => ?_⟩
  · cbv
    refine op_ hN (inline_ BB_ok (tb := ty) rfl pl187 Tryz.call187 Tryz.func187 rfl (by kernel_rfl) (Nat.le_of_ble_eq_true rfl) ?_)
    intro W2 bi2 bc2 bs2 bk2 bu2 bb2 bo2 bg2 bl2 bp2 bn2 be2 Ncond2 Nob2 Nop2 Nloop2 Nscope2 hN2
    cbv
    clear hN2
    refine loopN_ hN (loop_ hN ty_ok mixed (ι := Nat × Qt) (fun y => ⟨[(0, .ptr 0 0), (3, .ptr 1 0)], [rowc 0 s y.1 tv, .abs (.qt y.2) [1]], 2⟩) (fun y => y.1 ≤ s.size ∧ quotGo s y.2 y.1 = quotGo s qt0 (a + 1)) (fun y => s.size - y.1) ?_ ?_)
    · refine leads_noArr true 2 3 5 encB [] rfl ?_
      refine leads_cput 1 [.vec false 2 1 0 0 0, .bool false, .int .i64 (Int.ofNat 0), .int .i64 0, .bool false] rfl (fun _ => rfl) ?_
      refine leads_close rfl (.qt qt0) [1] [2] _ ⟨false, 0, 0, 0, [], ⟨fun _ => rfl, Nat.le_refl _, Nat.le_refl _, rfl⟩, ⟨Nat.zero_le _, Nat.zero_le _⟩, rfl⟩ rfl ?_
      exact Leads.idx (a + 1, qt0) [1] ⟨by simp [isB] at hi; exact hi.1, rfl⟩ ⟨⟨rfl, rfl, trivial⟩, rfl, Nat.le_of_ble_eq_true rfl⟩
    rintro ⟨k, q⟩ ⟨hk1, hk2⟩ Nnext hn _
    simp only at hk1 hk2
    cbv
    refine op_ hN (call_ (more_spec s k tv) hG [0] rfl rfl rfl rfl rfl ?_)
    intro m hm
    cases m with
    | false =>
      cbv
      refine cond_ hN (fun h => by simp at h) (fun _ => ?_)
      cbv
      refine op_ hN (call_ (bad_spec s k tv) hG [0] rfl rfl rfl rfl rfl ?_)
      cbv
      refine hf _ _ (fin_ [] rfl rfl ((hK k 2 q.bytes ?_).2 (by decide)))
      simp only [quotR]; rw [if_pos hi, ← hk2, quotGo, dif_neg (by simpa using hm.symm)]
    | true =>
      have hlt : k < s.size := by simpa using hm.symm
      have hob : obsP [.inb (Int.ofNat k) (bn s)] := ⟨⟨by simp, by rw [len_eq hN]; simp; exact hlt⟩, trivial⟩
      have hbb : bb s (Int.ofNat k) = (((s.data[k]'hlt).toNat : Nat) : Int) := by
        rw [bb_ hN]; simp only [bt, Int.ofNat_eq_natCast, Int.toNat_natCast]
        rw [Array.getD_eq_getD_getElem?, Array.getElem?_eq_getElem hlt]; rfl
      have hadd : bi .add .i64 (Int.ofNat k) 1 = Int.ofNat (k + 1) := inext hN (by omega)
      have hgo : quotGo s qt0 (a + 1) = match qtStep q (bb s (Int.ofNat k)) with
        | ((over, e), q') => if e ≠ 0 then (k, e, q') else if over then (k + 1, 0, q') else quotGo s q' (k + 1) := by
        rw [← hk2, quotGo, dif_pos hlt, hbb]
      cbv
      refine cond_ hN (fun _ => ?_) (fun h => by simp at h)
      cbv
      repeat' (first | refine And.intro ?_ ?_ | exact True.intro | (refine ob_ hN hob ?_; try cbv))
      all_goals
        refine op_ hN (call_ (qt_step_spec' q (bb s (Int.ofNat k)) _ hbb) hG [1] rfl rfl rfl rfl rfl ?_)
        intro r e q' hq
        rw [← hq] at hgo
        simp only at hgo
        cbv
        refine cond_ hN (fun h1 => ?_) (fun h1 => ?_)
        · cbv
          refine op_ hN (call_ (fail_spec e (Int.ofNat k)) hG [] rfl rfl rfl rfl rfl ?_)
          cbv
          rw [cne hN] at h1; simp at h1
          refine hf _ _ (fin_ [] rfl rfl ((hK k e q'.bytes ?_).2 h1))
          simp only [quotR]; rw [if_pos hi, hgo, if_pos h1]
        · rw [cne hN] at h1; simp at h1
          subst h1
          simp only [ne_eq, not_true_eq_false, if_false] at hgo
          cbv
          simp only [hadd]
          refine cond_ hN (fun h2 => ?_) (fun h2 => ?_)
          · cbv
            refine op_ hN (call_ (qt_text_spec q') hG [1] rfl rfl rfl rfl rfl ?_)
            intro t ht
            cbv
            refine hf _ _ (fin_ [] rfl rfl ((hK (k + 1) 0 q'.bytes ?_).1 rfl t ht))
            simp only [quotR]; rw [if_pos hi, hgo, if_pos h2]
          · cbv
            refine hn _ (Leads.nxt (k + 1, q') [1] ⟨hlt, ?_⟩ (by simp only; omega) ⟨⟨rfl, rfl, trivial⟩, rfl, Nat.le_of_ble_eq_true rfl⟩)
            rw [hgo, if_neg (by rw [h2]; decide)]
  · cbv
    refine hf _ _ (fin_ [] rfl rfl ((hK a 2 [] ?_).2 (by decide)))
    simp only [quotR]; rw [if_neg (by rw [hi]; decide)]
end Hx
/- The monad of a machine and the decoder that it tells; what is read on a row. -/
namespace Hx
open Go Sx Go.Proofs
set_option maxRecDepth 100000
set_option maxHeartbeats 4000000
set_option linter.unusedVariables false
set_option linter.unusedSimpArgs false
variable {GOk : Gl → Prop}
inductive Res (α : Type) where
  | ok (a : α)
  | err (e at_ : Int)
  | ovf
/-- the machine, and the decoder that it tells -/
structure OS (M : Type) where
  m : M
  c : Core
/-- what must hold behind a call -/
def PostR {M α : Type} (enc : α → SV) (cs : OS M → List (Chunk Pd)) (K : Out → List (Chunk Pd) → Prop) : Res α × OS M → Prop
  | (.ok a, s) => K (.ret (enc a)) (cs s)
  | (.err e at_, s) => K (.pan (flt e at_)) (cs s)
  | (.ovf, _) => False
abbrev OM (M α : Type) := OS M → Res α × OS M
def OM.bind {M α β : Type} (x : OM M α) (f : α → OM M β) : OM M β := fun s => match x s with
  | (.ok a, s') => f a s'
  | (.err e a, s') => (.err e a, s')
  | (.ovf, s') => (.ovf, s')
def OM.ret {M α : Type} (a : α) : OM M α := fun s => (.ok a, s)
def OM.fail {M α : Type} (e a : Int) : OM M α := fun s => (.err e a, s)
def ev0 (k : Int) : Ev := ⟨k, ⟨#[]⟩, ⟨#[]⟩⟩
theorem okE0 (k : Int) (h : k ≠ 10) (h2 : k ≠ 11) : okE (ev0 k) := ⟨Nat.le_of_ble_eq_true rfl, Nat.le_of_ble_eq_true rfl, fun _ => Nat.le_of_ble_eq_true rfl, trivial⟩
/- on a row: where it goes on -/
def bytesOf (l : List UInt8) : ByteArray := ⟨l.toArray⟩
def mustM {M : Type} (t : ByteArray) (b : Int) (a : Nat) : OM M Nat := fun s => if isB t a b then (.ok (a + 1), s) else (.err 2 (Int.ofNat a), s)
/-- a key: quoted, or a name (with points?) -/
def keyM {M : Type} (p : Bool) (t : ByteArray) (a : Nat) : OM M (Nat × ByteArray) := fun s =>
  if isB t a 34 then (if (quotR t a).2.1 = 0 then (.ok ((quotR t a).1, bytesOf (quotR t a).2.2), s) else (.err (quotR t a).2.1 (Int.ofNat (quotR t a).1), s))
  else (if (nameGo t a p a).2 = 0 then (.ok ((nameGo t a p a).1, subs t (Int.ofNat a) (Int.ofNat (nameGo t a p a).1)), s) else (.err (nameGo t a p a).2 (Int.ofNat (nameGo t a p a).1), s))
section
/- a number's normal form is told apart -/
variable (numRead : ByteArray → ByteArray × Int)
def numLoop (t : ByteArray) (f : Nat) (k : Nat) : Nat × Int :=
  if k < t.size then (if mayBegin (subs t (Int.ofNat f) (Int.ofNat (k + 1))) then (if k - f ≥ 30 then (k, 4) else numLoop t f (k + 1)) else (k, 0)) else (k, 0)
 termination_by t.size - k
def numberR (t : ByteArray) (a : Nat) : Nat × Int × ByteArray :=
  if (numLoop t a a).2 ≠ 0 then ((numLoop t a a).1, (numLoop t a a).2, ⟨#[]⟩)
  else if mayIs (subs t (Int.ofNat a) (Int.ofNat (numLoop t a a).1)) then ((numLoop t a a).1, (numRead (subs t (Int.ofNat a) (Int.ofNat (numLoop t a a).1))).2, (numRead (subs t (Int.ofNat a) (Int.ofNat (numLoop t a a).1))).1)
  else ((numLoop t a a).1, 2, ⟨#[]⟩)
def wNull : ByteArray := ⟨#[110, 117, 108, 108]⟩
def wTrue : ByteArray := ⟨#[116, 114, 117, 101]⟩
def wFalse : ByteArray := ⟨#[102, 97, 108, 115, 101]⟩
/-- a scalar: none, or where it ends, which error, what it says -/
def scalarR (t : ByteArray) (a : Nat) (null : Bool) : Option (Nat × Int × Ev) :=
  if a < t.size then
    (if bt t (Int.ofNat a) = 34 then some ((quotR t a).1, (quotR t a).2.1, ⟨4, bytesOf (quotR t a).2.2, ⟨#[]⟩⟩)
     else if bt t (Int.ofNat a) = 45 ∨ (bt t (Int.ofNat a) ≥ 48 ∧ bt t (Int.ofNat a) ≤ 57) then some ((numberR numRead t a).1, (numberR numRead t a).2.1, ⟨3, (numberR numRead t a).2.2, ⟨#[]⟩⟩)
     else if bt t (Int.ofNat a) = 110 ∧ null = true then some ((wordGo t wNull.data.toList a).1, if (wordGo t wNull.data.toList a).2 then 0 else 2, ev0 1)
     else if bt t (Int.ofNat a) = 116 then some ((wordGo t wTrue.data.toList a).1, if (wordGo t wTrue.data.toList a).2 then 0 else 2, ⟨2, wTrue, ⟨#[]⟩⟩)
     else if bt t (Int.ofNat a) = 102 then some ((wordGo t wFalse.data.toList a).1, if (wordGo t wFalse.data.toList a).2 then 0 else 2, ⟨2, wFalse, ⟨#[]⟩⟩)
     else none)
  else none
/-- a scalar: is there one? and it is told -/
def scalM {M : Type} (says : Ev → Int → OM M Unit) (t : ByteArray) (a : Nat) (nl : Bool) : OM M (Option Nat) :=
  match scalarR numRead t a nl with
  | none => OM.ret none
  | some (k, e, x) => if e ≠ 0 then OM.fail e (Int.ofNat k) else OM.bind (says x (Int.ofNat k - 1)) fun _ => OM.ret (some k)
 end
/- a machine that tells its decoder, in memory -/
abbrev oc {M : Type} (pd : M → Bool → Pd) (tv td : Nat) (s : OS M) : List (Chunk Pd) := [.abs (pd s.m true) [0, 1], .abs (.core s.c tv td) [1, 0]]
def SaysOk (GOk : Gl → Prop) {M : Type} (pd : M → Bool → Pd) (tv td fs : Nat) (says : Ev → Int → OM M Unit) : Prop :=
  ∀ (s : OS M) (x : Ev) (at_ : Int), okE x → Triple (BB Ip GOk) fs 2 2 [.ptr 0 0, .agg [.int .i64 x.kind, .str x.text, .str x.val], .int .i64 at_] (oc pd tv td s) (fun K => PostR (fun _ => .tuple []) (oc pd tv td) K (says x at_ s))
/-- what a row tells to -/
def tellV (fs g : Nat) : Value := .func (.func fs) #[.pointer (some ⟨g, 0, none⟩)] #[]
abbrev rc {M : Type} (pd : M → Bool → Pd) (tv td fs : Nat) (s : OS M) (t : ByteArray) (a g : Nat) : List (Chunk Pd) := [.abs (pd s.m true) [0, 1], .abs (.core s.c tv td) [1, 0], rowc 2 t a (tellV fs g), .at_ 0 g]
structure ReadOk (GOk : Gl → Prop) (numRead : ByteArray → ByteArray × Int) : Prop where
  read : ∀ x : ByteArray, x.size < 1000000 → Triple (BB Ip GOk) 36 0 0 [.str x] [] (fun K => ∀ r e, (r, e) = numRead x → K (.ret (.tuple [.str r, .int .i64 e])) [])
  size : ∀ x, (numRead x).1.size < 1099511627776
end Hx
/- What a checker keeps; events that can all be taken. -/
namespace Hx
open Go Sx Go.Proofs
set_option maxRecDepth 100000
set_option maxHeartbeats 4000000
set_option linter.unusedVariables false
set_option linter.unusedSimpArgs false
variable {GOk : Gl → Prop}
section
variable {right : Ev → Bool}
/-- a checker goes through events, which all may be -/
def stepsC (right : Ev → Bool) : Chk → List Ev → Option Chk
  | c, [] => some c
  | c, x :: r => if (chkStep right c x).1 = 0 then stepsC right (chkStep right c x).2 r else none
theorem stepsC_snoc {x : Ev} : ∀ {l : List Ev} {c c1 : Chk}, stepsC right c l = some c1 → (chkStep right c1 x).1 = 0 → stepsC right c (l ++ [x]) = some (chkStep right c1 x).2
  | [], c, c1, h, hx => by
    simp only [stepsC, Option.some.injEq] at h; subst h
    simp only [List.nil_append, stepsC]; rw [if_pos hx]
  | y :: r, c, c1, h, hx => by
    simp only [stepsC, List.cons_append] at h ⊢
    split at h
    · rename_i hy; rw [if_pos hy]; exact stepsC_snoc h hx
    · exact nomatch h
/-- what is told: right events, not too many -/
def QOk (l : List Ev) : Prop := (∀ x ∈ l, okE x) ∧ l.length ≤ 4294967296
def dOf (k : Int) : Nat := if k57a k then 1 else 0
def eOf (k : Int) : Nat := if k1234 k || k57a k || k == 8 || k == 11 then 0 else 1
theorem chkStep_dep (c : Chk) (x : Ev) (h : (chkStep right c x).1 = 0) : (chkStep right c x).2.opens.length + eOf x.kind = c.opens.length + dOf x.kind ∧ (c.over = true → (chkStep right c x).2.over = true) ∧
    (k57a x.kind = true → c.opens = [] → (chkStep right c x).2.over = true) := by
  have hs : (chkStands c x).opens.length = c.opens.length := by unfold chkStands; split <;> simp [*]
  have ho : c.over = true → (chkStands c x).over = true := by unfold chkStands; split <;> simp
  have ho2 : c.opens = [] → (chkStands c x).over = true := by intro h; unfold chkStands; rw [h]
  revert h
  unfold chkStep
  split
  · intro h; simp at h
  · split
    · rename_i h1
      have h2 : k57a x.kind = false := by
        simp only [k1234, Bool.or_eq_true, beq_iff_eq] at h1
        rcases h1 with h | h | h | h <;> rw [h] <;> rfl
      split
      · intro h; simp at h
      · intro _
        refine ⟨?_, ho, fun h => by rw [h2] at h; cases h⟩
        rw [show eOf x.kind = 0 by unfold eOf; rw [h1]; rfl, show dOf x.kind = 0 by unfold dOf; rw [h2]; rfl, hs]
    · rename_i h1
      have h1 : k1234 x.kind = false := by simpa using h1
      split
      · rename_i h2
        split
        · intro h; simp at h
        · split
          · intro h; simp at h
          · intro _
            refine ⟨?_, fun h => ho h, fun _ h => ho2 h⟩
            rw [show eOf x.kind = 0 by unfold eOf; rw [h1, h2]; rfl, show dOf x.kind = 1 by unfold dOf; rw [h2]; rfl]
            simp only [chkOpen, List.length_cons, hs]
      · rename_i h2
        have h2 : k57a x.kind = false := by simpa using h2
        have hd : dOf x.kind = 0 := by unfold dOf; rw [h2]; rfl
        split
        · intro h; simp at h
        · rename_i o r hc
          split
          · rename_i h8
            split
            · intro h; simp at h
            · intro _
              refine ⟨?_, id, fun h => by rw [h2] at h; cases h⟩
              rw [hd, show eOf x.kind = 0 by unfold eOf; rw [h1, h2, h8]; rfl, hc]; rfl
          · rename_i h8
            split
            · rename_i h11
              split
              · intro h; simp at h
              · intro _
                refine ⟨?_, id, fun h => by rw [h2] at h; cases h⟩
                rw [hd, show eOf x.kind = 0 by unfold eOf; rw [h1, h2, h11]; simp, hc]; rfl
            · rename_i h11
              split
              · intro h; simp at h
              · intro _
                refine ⟨?_, id, fun h => by rw [h2] at h; cases h⟩
                have h8 : (x.kind == 8) = false := by simpa using h8
                have h11 : (x.kind == 11) = false := by simpa using h11
                rw [hd, show eOf x.kind = 1 by unfold eOf; rw [h1, h2, h8, h11]; rfl, hc]; rfl
theorem chkStep_e (c : Chk) (x : Ev) : 0 ≤ (chkStep right c x).1 := by
  have hnm : ∀ o : Opn, 0 ≤ (opnNamed o x).1 := by intro o; unfold opnNamed; split <;> (try split) <;> simp
  unfold chkStep
  split
  · simp
  · split
    · split <;> simp
    · split
      · split
        · simp
        · split <;> simp
      · split
        · simp
        · split
          · split
            · simp
            · exact hnm _
          · split
            · split
              · simp
              · exact hnm _
            · split <;> simp
def chkDone (c : Chk) : Bool := c.over && c.opens.isEmpty
def wholeGo (right : Ev → Bool) : Chk → List Ev → Nat → Nat × Int
  | c, [], i => (i, if chkDone c then 0 else 19)
  | c, x :: r, i => if (chkStep right c x).1 ≠ 0 then (i, (chkStep right c x).1) else wholeGo right (chkStep right c x).2 r (i + 1)
theorem whole_law : ∀ (l : List Ev) (c c1 : Chk) (i : Nat), stepsC right c l = some c1 → wholeGo right c l i = (i + l.length, if chkDone c1 then 0 else 19)
  | [], c, c1, i, h => by simp only [stepsC, Option.some.injEq] at h; subst h; rfl
  | x :: r, c, c1, i, h => by
    simp only [stepsC] at h
    split at h
    · rename_i hx
      simp only [wholeGo]; rw [if_neg (by simpa using hx), whole_law r _ c1 _ h]
      simp only [List.length_cons]; rw [show i + 1 + r.length = i + (r.length + 1) by omega]
    · exact nomatch h
 end
end Hx
/- Quoted texts: positions and lengths. -/
namespace Hx
open Go Sx Go.Proofs
set_option maxRecDepth 100000
set_option maxHeartbeats 4000000
set_option linter.unusedVariables false
set_option linter.unusedSimpArgs false
variable {GOk : Gl → Prop}
theorem qtAdd_le (q : Qt) (l : List UInt8) (h : q.bytes.length ≤ 48) : (qtAdd q l).2.bytes.length ≤ 48 := by
  unfold qtAdd; split
  · exact h
  · simp only [List.length_append]; omega
theorem qtDigit_le (q : Qt) (b : Int) (h : q.bytes.length ≤ 48) : (qtDigit q b).2.bytes.length ≤ 48 := by
  unfold qtDigit; split
  · exact h
  · split
    · exact h
    · split
      · exact h
      · exact qtAdd_le _ _ h
theorem qtStep_le (q : Qt) (b : Int) (h : q.bytes.length ≤ 48) : (qtStep q b).2.bytes.length ≤ 48 := by
  unfold qtStep; split
  · exact h
  · split
    · exact qtDigit_le q b h
    · split
      · split
        · exact h
        · split
          · exact h
          · exact qtAdd_le _ _ h
      · split
        · exact h
        · split
          · exact h
          · split
            · exact h
            · exact qtAdd_le _ _ h
theorem quotGo_le (s : ByteArray) : ∀ (n : Nat) (q : Qt) (k : Nat), s.size - k ≤ n → q.bytes.length ≤ 48 → (quotGo s q k).2.2.bytes.length ≤ 48 := by
  intro n
  induction n with
  | zero => intro q k hn h; rw [quotGo, dif_neg (by omega)]; exact h
  | succ n ih =>
    intro q k hn h
    rw [quotGo]
    split
    · rename_i hlt
      have hs := qtStep_le q ((s.data[k]'hlt).toNat : Nat) h
      generalize qtStep q ((s.data[k]'hlt).toNat : Nat) = y at hs ⊢
      obtain ⟨⟨over, e⟩, q'⟩ := y
      simp only at hs ⊢
      split
      · exact hs
      · split
        · exact hs
        · exact ih q' (k + 1) (by omega) hs
    · exact h
theorem quotGo_pos (s : ByteArray) : ∀ (n : Nat) (q : Qt) (k : Nat), s.size - k ≤ n → k ≤ s.size → (quotGo s q k).1 ≤ s.size := by
  intro n
  induction n with
  | zero => intro q k hn h; rw [quotGo, dif_neg (by omega)]; exact h
  | succ n ih =>
    intro q k hn h
    rw [quotGo]
    split
    · rename_i hlt
      generalize qtStep q ((s.data[k]'hlt).toNat : Nat) = y
      obtain ⟨⟨over, e⟩, q'⟩ := y
      simp only
      split
      · exact h
      · split
        · exact hlt
        · exact ih q' (k + 1) (by omega) hlt
    · exact h
theorem quotR_pos (s : ByteArray) (a : Nat) (h : a ≤ s.size) : (quotR s a).1 ≤ s.size := by
  unfold quotR; split
  · rename_i hi; exact quotGo_pos s _ qt0 (a + 1) (Nat.le_refl _) (isB_lt hi)
  · exact h
theorem quotR_le (s : ByteArray) (a : Nat) : (quotR s a).2.2.length ≤ 48 := by
  unfold quotR; split
  · exact quotGo_le s _ qt0 (a + 1) (Nat.le_refl _) (Nat.zero_le _)
  · exact Nat.zero_le _
theorem bytes_eq {t : ByteArray} {l : List UInt8} (h : t.data.toList = l) : t = bytesOf l := by
  subst h; cases t; rfl
theorem okE8 (s : ByteArray) (h : s.size < 1099511627776) : okE ⟨8, s, ⟨#[]⟩⟩ := ⟨h, Nat.le_of_ble_eq_true rfl, by simp, by simp⟩
end Hx
/- strings.HasPrefix, TrimLeft; row.Cut. -/
namespace Hx
open Go Sx Go.Proofs
set_option maxRecDepth 100000
set_option maxHeartbeats 4000000
set_option linter.unusedVariables false
set_option linter.unusedSimpArgs false
variable {GOk : Gl → Prop}
theorem has_prefix_spec (s p : ByteArray) : Triple (BB Ip GOk) 222 0 0 [.str s, .str p] [] (fun K => ∀ d, d = Lib.hasPrefix s.data.toList p.data.toList → K (.ret (.bool d)) []) := by
  refine triple_lib (.ret (.bool (Lib.hasPrefix s.data.toList p.data.toList))) (fun K h => h _ rfl) Tryz.call222 fun G hG ρ w _ _ => (Tryz.strings_HasPrefix s p w).mono ?_
  rintro e w' ⟨rfl, rfl⟩
  exact ⟨rfl, Nat.le_refl _, fun _ _ => rfl, rfl⟩
theorem trim_left_spec (s : ByteArray) : Triple (BB Ip GOk) 60 0 0 [.str s, .str ⟨#[32]⟩] [] (fun K => ∀ d : ByteArray, d.data.toList = Lib.trimLeftB s.data.toList 32 → K (.ret (.str d)) []) := by
  refine triple_lib (.ret (.str ⟨(Lib.trimLeftB s.data.toList 32).toArray⟩)) (fun K h => h _ rfl) Tryz.call60 fun G hG ρ w _ _ => (Tryz.strings_TrimLeft_one s 32 (by decide) w).mono ?_
  rintro e w' ⟨rfl, rfl⟩
  exact ⟨rfl, Nat.le_refl _, fun _ _ => rfl, rfl⟩
/-- how many blanks a line begins with; does it say something? -/
def cutR (t : ByteArray) : Nat × Bool := (blanks t 0, decide (blanks t 0 < t.size) && decide (bt t (Int.ofNat (blanks t 0)) ≠ 35))
theorem bt_get (s : ByteArray) (k : Nat) (h : k < s.data.toList.length) : bt s (Int.ofNat k) = ((s.data.toList[k]'h).toNat : Nat) := by
  have h2 : k < s.data.size := by simpa using h
  have h3 : k < s.size := h2
  simp [bt, Array.getD, h3]
theorem blanks_drop (s : ByteArray) : ∀ n k, s.size - k ≤ n → Lib.trimLeftB (s.data.toList.drop k) 32 = s.data.toList.drop (blanks s k) := by
  intro n
  induction n with
  | zero =>
    intro k hk
    have h1 : s.data.toList.length ≤ k := by rw [← Lib.size_eq]; omega
    have h2 : isB s k 32 = false := by cases hb : isB s k 32 with
      | false => rfl
      | true => have := isB_lt hb; omega
    rw [blanks, if_neg (by rw [h2]; decide), List.drop_eq_nil_of_le h1]; rfl
  | succ n ih =>
    intro k hk
    by_cases hlt : k < s.size
    · have hl : k < s.data.toList.length := by rw [← Lib.size_eq]; exact hlt
      rw [List.drop_eq_getElem_cons hl]
      unfold Lib.trimLeftB
      rw [List.dropWhile_cons]
      have hb := bt_get s k hl
      have hcons := List.drop_eq_getElem_cons hl
      generalize s.data.toList[k]'hl = x at hb hcons ⊢
      by_cases hx : x = 32
      · subst hx
        have h2 : isB s k 32 = true := by simp only [isB, hlt, hb]; decide
        rw [blanks, if_pos h2, if_pos (by decide)]
        exact ih (k + 1) (by omega)
      · have h2 : isB s k 32 = false := by
          simp only [isB, hb, Bool.and_eq_false_iff, decide_eq_false_iff_not]
          right
          intro h3
          exact hx (UInt8.toNat_inj.1 (by have : x.toNat = 32 := by exact_mod_cast h3
                                          rw [this]; rfl))
        have h3 : blanks s k = k := by rw [blanks, if_neg (by rw [h2]; decide)]
        have h4 : ¬ (x == 32) = true := by simpa using hx
        rw [h3, if_neg h4, hcons]
    · have h1 : s.data.toList.length ≤ k := by rw [← Lib.size_eq]; omega
      have h2 : isB s k 32 = false := by cases hb : isB s k 32 with
        | false => rfl
        | true => have := isB_lt hb; omega
      rw [blanks, if_neg (by rw [h2]; decide), List.drop_eq_nil_of_le h1]; rfl
theorem cut_spec (s : ByteArray) (hs : s.size < 1000000) : Triple (BB Ip GOk) 162 0 0 [.str s] [] (fun K => ∀ k b, (k, b) = cutR s → K (.ret (.tuple [.int .i64 (Int.ofNat k), .bool b])) []) := by
  refine triple_of BB_ok (tb := ty) rfl (n0 := 0) (fun _ : Unit => _) pl162 Tryz.call162 Tryz.func162 rfl (by kernel_rfl) (Nat.le_of_ble_eq_true rfl) (by decide) rfl pre_none ?_
  rintro G hG K hK W bi bc bs bk bu bb bo bg bl bp bn be Ncond Nob Nop Nloop Nscope hN Nfin hf _ _
  cbv
  refine op_ hN (call_ (trim_left_spec s) hG [] rfl rfl rfl rfl rfl ?_)
  intro d hd
  have h0 := blanks_drop s _ 0 (Nat.le_refl _)
  rw [List.drop_zero, ← hd] at h0
  have hbl := blanks_le s 0 (Nat.zero_le _)
  obtain ⟨k, hk⟩ : ∃ k, k = blanks s 0 := ⟨_, rfl⟩
  rw [← hk] at h0 hbl
  have hsz : d.size = s.size - k := by rw [Lib.size_eq, h0, List.length_drop, ← Lib.size_eq]
  have hcut : cutR s = (k, decide (k < s.size) && decide (bt s (Int.ofNat k) ≠ 35)) := by rw [cutR, ← hk]
  rw [hcut] at hK
  clear hcut
  have hb : k < s.size → bt d 0 = bt s (Int.ofNat k) := by
    intro h
    have h1 : k < s.data.toList.length := by rw [← Lib.size_eq]; exact h
    have h2 : 0 < d.data.toList.length := by rw [← Lib.size_eq]; omega
    rw [bt_get s k h1]
    rw [show (0 : Int) = Int.ofNat 0 from rfl, bt_get d 0 h2]
    simp only [h0, List.getElem_drop, Nat.add_zero]
  have hsub : bi .sub .i64 (Int.ofNat s.size) (Int.ofNat d.size) = Int.ofNat k := by rw [isub hN (by simp; omega) (by simp; omega)]; simp; omega
  have hsub2 : bi .sub .i64 (bn s) (bn d) = Int.ofNat k := by rw [len_eq hN, len_eq hN]; exact hsub
  have he : d = { data := { toList := [] } } ↔ d.size = 0 := by
    constructor
    · rintro rfl; rfl
    · intro h; cases d; simp only [ByteArray.mk.injEq]; exact Array.eq_empty_of_size_eq_zero h
  have hbb : bb d 0 = bt d 0 := by rw [bb_ hN]
  cbv
  refine cond_ hN (fun h => ?_) (fun h => ?_)
  · rw [sne_eq hN] at h
    have hlt : k < s.size := by
      refine Nat.lt_of_not_le fun hle => ?_
      have h0 : d.size = 0 := by omega
      rw [he.2 h0] at h
      exact nomatch h
    cbv
    refine ob_ hN ?_ ?_
    · exact ⟨⟨by simp, by rw [len_eq hN]; simp; omega⟩, trivial⟩
    cbv
    simp only [hsub2]
    exact hf _ _ (fin_ [] rfl rfl (hK k _ (by rw [hbb, hb hlt, cne hN]; simp [hlt])))
  · rw [sne_eq hN] at h
    have hnl : ¬ k < s.size := by have := he.1 (by simpa using h); omega
    cbv
    simp only [hsub2]
    exact hf _ _ (fin_as (.tuple [.int .i64 (Int.ofNat k), .bool false]) (fun _ => rfl) (fin_ [] rfl rfl (hK k false (by rw [decide_eq_false hnl]; rfl))))
end Hx
/- events.Check.Step, by what is known of the events that may be. -/
namespace Hx
open Go Sx Go.Proofs
set_option maxRecDepth 100000
set_option maxHeartbeats 4000000
set_option linter.unusedVariables false
set_option linter.unusedSimpArgs false
variable {GOk : Gl → Prop}
/-- which events are right -/
def RgtOk (GOk : Gl → Prop) (right : Ev → Bool) : Prop :=
  ∀ x, okE x → Triple (BB Ip GOk) 21 0 0 [.agg [.int .i64 x.kind, .str x.text, .str x.val]] [] (fun K => ∀ b, b = right x → K (.ret (.bool b)) [])
variable {right : Ev → Bool}
theorem step_spec' (hb : RgtOk GOk right) (c : Chk) (x : Ev) (hx : okE x) : Triple (BB Ip GOk) 15 1 1 [.ptr 0 0, .agg [.int .i64 x.kind, .str x.text, .str x.val]] [.abs (.chk c) [0]]
      (fun K => ∀ e c', (e, c') = chkStep right c x → K (.ret (.int .i64 e)) [.abs (.chk c') [0]]) := by
  cases h : c.opens with
  | nil => exact step_none right c x (hb x hx) h
  | cons o r => exact step_some right c x (hb x hx) o r h
end Hx
