/-
  Part of a proof.
-/
import Derived.Test.YtlmbbchfaoeebaaGreatDoorW08
import Derived.Test.YtlmbbchfaoeebaaGreatDoorW26
import Derived.Test.YtlmbbchfaoeebaaGreatDoorW07
set_option linter.unusedVariables false
set_option linter.unusedSimpArgs false
/- row.Row.Word, Name, Quoted: the walks. -/
namespace Hx
open Go Sx Go.Proofs
set_option maxRecDepth 100000
set_option maxHeartbeats 4000000
set_option linter.unusedVariables false
set_option linter.unusedSimpArgs false
variable {GOk : Gl → Prop}
/-- a word, letter by letter: where it ends; is it there? -/
def wordGo (s : ByteArray) : List UInt8 → Nat → Nat × Bool
  | [], k => (k, true)
  | b :: r, k => if isB s k (b.toNat : Nat) then wordGo s r (k + 1) else (k, false)
theorem word_spec (s w : ByteArray) (a : Nat) (tv : Value) (hs : s.size < 4611686018427387904) (hw : w.size < 4611686018427387904) : Triple (BB Ip GOk) 186 1 1 [.ptr 0 0, .str w] [rowc 0 s a tv]
    (fun K => ∀ k ok, (k, ok) = wordGo s w.data.toList a → (ok = true → K (.ret (.tuple [])) [rowc 0 s k tv]) ∧ (ok = false → K (.pan (flt 2 (Int.ofNat k))) [rowc 0 s k tv])) := by
  refine triple_of BB_ok (tb := ty) rfl (n0 := 1) (fun _ : Unit => _) pl186 Tryz.call186 Tryz.func186 rfl (by kernel_rfl) (Nat.le_of_ble_eq_true rfl) (by decide) rfl pre_none ?_
  rintro G hG K hK W bi bc bs bk bu bb bo bg bl bp bn be Ncond Nob Nop Nloop Nscope hN Nfin hf _ _
  cbv
  refine op_ hN (str_bytes ty_ok rfl rfl rfl rfl rfl rfl rfl ?_)
  intro m cap xs hm hcap hmc hxs
  cbv
  refine loopN_ hN (loop_ hN ty_ok mixed (ι := Nat × Nat) (fun y => ⟨[(0, .ptr 0 0), (7, .vec true 1 1 0 m cap), (8, .int .i64 (Int.ofNat m)), (9, .int .i64 (Int.ofNat y.1))], [.arr true true 1 5 encB xs, rowc 0 s y.2 tv], 2⟩) (fun y => y.1 ≤ m ∧ wordGo s (w.data.toList.drop y.1) y.2 = wordGo s w.data.toList a) (fun y => m - y.1) (Leads.idx (0, a) [1] ⟨Nat.zero_le _, rfl⟩ ⟨⟨rfl, rfl, rfl, rfl, trivial⟩, rfl, Nat.le_of_ble_eq_true rfl⟩) ?_)
  rintro ⟨k, j⟩ ⟨hk1, hk3⟩ Nnext hn _
  simp only at hk1 hk3
  cbv
  refine cond_ hN (fun h3 => ?_) (fun h3 => ?_)
  · cbv
    have h3' : k < m := by rw [clt hN] at h3; simpa using h3
    refine ob_ hN ⟨⟨by simp, by simpa using h3'⟩, rfl, trivial⟩ ?_
    cbv
    refine op_ hN (load_byte ty_ok rfl rfl rfl rfl (by rw [plus0 hN]; omega) ?_)
    intro x b hx hb
    rw [plus0 hN] at hx
    have hdrop := drop_byte hxs h3' (by omega) hx
    have hgo : wordGo s w.data.toList a = if isB s j b then wordGo s (w.data.toList.drop (k + 1)) (j + 1) else (j, false) := by
      rw [← hk3, hdrop, hb]; rfl
    cbv
    refine op_ hN (call_ (must_spec s j tv b hs) hG [0] rfl rfl rfl rfl rfl ?_)
    refine ⟨fun hi => ?_, fun hi => ?_⟩
    · cbv
      have hlt : j < s.size := by simp [isB] at hi; exact hi.1
      refine hn _ (Leads.nxt (k + 1, j + 1) [1] ⟨h3', ?_⟩ (by simp only; omega) ⟨⟨rfl, rfl, rfl, ?_, trivial⟩, rfl, Nat.le_of_ble_eq_true rfl⟩)
      · rw [hgo, if_pos hi]
      · exact congrArg (fun z => some (SV.int .i64 z)) (inext hN (by omega))
    · cbv
      refine hf _ _ (fin_ [] rfl rfl ((hK j false ?_).2 rfl))
      rw [hgo, if_neg (by rw [hi]; decide)]
  · cbv
    refine hf _ _ (fin_ [] rfl rfl ((hK j true ?_).1 rfl))
    rw [clt hN] at h3
    simp only [decide_eq_true_eq, decide_eq_false_iff_not, Int.ofNat_eq_natCast, gt_iff_lt, ge_iff_le, Bool.not_eq_true', Bool.not_eq_false', Int.not_lt, Int.not_le] at h3
    have : k = m := by omega
    rw [← hk3, this, List.drop_eq_nil_of_le (by rw [hm]; exact Nat.le_refl _)]; rfl
/-- a quoted text's bytes from k on: where it ends, which error, what it says -/
def quotGo (s : ByteArray) (q : Qt) (k : Nat) : Nat × Int × Qt :=
  if h : k < s.size then
    match qtStep q ((s.data[k]'h).toNat : Nat) with
    | ((over, e), q') => if e ≠ 0 then (k, e, q') else if over then (k + 1, 0, q') else quotGo s q' (k + 1)
  else (k, 2, q)
 termination_by s.size - k
def qt0 : Qt := ⟨[], false, 0, 0, false⟩
/-- a quoted text: where it ends, which error, what it says -/
def quotR (s : ByteArray) (a : Nat) : Nat × Int × List UInt8 := if isB s a 34 then ((quotGo s qt0 (a + 1)).1, (quotGo s qt0 (a + 1)).2.1, (quotGo s qt0 (a + 1)).2.2.bytes) else (a, 2, [])
theorem qt_step_spec' {GOk : Gl → Prop} (q : Qt) (b : Int) (x : UInt8) (hb : b = (x.toNat : Nat)) : Triple (BB Ip GOk) 188 1 1 [.ptr 0 0, .int .u8 b] [.abs (.qt q) [0]]
    (fun K => ∀ r e q', ((r, e), q') = qtStep q b → K (.ret (.tuple [.bool r, .int .i64 e])) [.abs (.qt q') [0]]) := by subst hb; exact qt_step_spec q x
theorem quoted_spec (s : ByteArray) (a : Nat) (tv : Value) (hs : s.size < 4611686018427387904) : Triple (BB Ip GOk) 183 1 1 [.ptr 0 0] [rowc 0 s a tv]
    (fun K => ∀ k e l, (k, e, l) = quotR s a → (e = 0 → ∀ t : ByteArray, t.data.toList = l → K (.ret (.str t)) [rowc 0 s k tv]) ∧ (e ≠ 0 → K (.pan (flt e (Int.ofNat k))) [rowc 0 s k tv])) := by
  refine triple_of BB_ok (tb := ty) rfl (n0 := 1) (fun _ : Unit => _) pl183 Tryz.call183 Tryz.func183 rfl (by kernel_rfl) (Nat.le_of_ble_eq_true rfl) (by decide) rfl pre_none ?_
  rintro G hG K hK W bi bc bs bk bu bb bo bg bl bp bn be Ncond Nob Nop Nloop Nscope hN Nfin hf _ _
  cbv
  refine op_ hN (call_ (must_spec s a tv 34 hs) hG [0] rfl rfl rfl rfl rfl ?_)
  refine ⟨fun hi => ?_, fun hi => ?_⟩
  · cbv
    refine op_ hN (inline_ BB_ok (tb := ty) rfl pl187 Tryz.call187 Tryz.func187 rfl (by kernel_rfl) (Nat.le_of_ble_eq_true rfl) ?_)
    intro W2 bi2 bc2 bs2 bk2 bu2 bb2 bo2 bg2 bl2 bp2 bn2 be2 Ncond2 Nob2 Nop2 Nloop2 Nscope2 hN2
    cbv
    clear hN2
    refine loopN_ hN (loop_ hN ty_ok mixed (ι := Nat × Qt) (fun y => ⟨[(0, .ptr 0 0), (3, .ptr 1 0)], [rowc 0 s y.1 tv, .abs (.qt y.2) [1]], 2⟩) (fun y => y.1 ≤ s.size ∧ quotGo s y.2 y.1 = quotGo s qt0 (a + 1)) (fun y => s.size - y.1) ?_ ?_)
    · refine leads_noArr true 2 3 5 encB [] rfl ?_
      refine leads_cput 1 [.vec false 2 1 0 0 0, .bool false, .int .i64 (Int.ofNat 0), .int .i64 0, .bool false] rfl (fun _ => rfl) ?_
      refine leads_close rfl (.qt qt0) [1] [2] _ ⟨false, 0, 0, 0, [], ⟨fun _ => rfl, Nat.le_refl _, Nat.le_refl _, rfl⟩, ⟨Nat.zero_le _, Nat.zero_le _⟩, rfl⟩ rfl ?_
      exact Leads.idx (a + 1, qt0) [1] ⟨by simp [isB] at hi; exact hi.1, rfl⟩ ⟨⟨rfl, rfl, trivial⟩, rfl, Nat.le_of_ble_eq_true rfl⟩
    rintro ⟨k, q⟩ ⟨hk1, hk2⟩ Nnext hn _
    simp only at hk1 hk2
    cbv
    refine op_ hN (call_ (more_spec s k tv) hG [0] rfl rfl rfl rfl rfl ?_)
    intro m hm
    cases m with
    | false =>
      cbv
      refine cond_ hN (fun h => by simp at h) (fun _ => ?_)
      cbv
      refine op_ hN (call_ (bad_spec s k tv) hG [0] rfl rfl rfl rfl rfl ?_)
      cbv
      refine hf _ _ (fin_ [] rfl rfl ((hK k 2 q.bytes ?_).2 (by decide)))
      simp only [quotR]; rw [if_pos hi, ← hk2, quotGo, dif_neg (by simpa using hm.symm)]
    | true =>
      have hlt : k < s.size := by simpa using hm.symm
      have hob : obsP [.inb (Int.ofNat k) (bn s)] := ⟨⟨by simp, by rw [len_eq hN]; simp; exact hlt⟩, trivial⟩
      have hbb : bb s (Int.ofNat k) = (((s.data[k]'hlt).toNat : Nat) : Int) := by
        rw [bb_ hN]; simp only [bt, Int.ofNat_eq_natCast, Int.toNat_natCast]
        rw [Array.getD_eq_getD_getElem?, Array.getElem?_eq_getElem hlt]; rfl
      have hadd : bi .add .i64 (Int.ofNat k) 1 = Int.ofNat (k + 1) := inext hN (by omega)
      have hgo : quotGo s qt0 (a + 1) = match qtStep q (bb s (Int.ofNat k)) with
        | ((over, e), q') => if e ≠ 0 then (k, e, q') else if over then (k + 1, 0, q') else quotGo s q' (k + 1) := by
        rw [← hk2, quotGo, dif_pos hlt, hbb]
      cbv
      refine cond_ hN (fun _ => ?_) (fun h => by simp at h)
      cbv
      repeat' (first | refine And.intro ?_ ?_ | exact True.intro | (refine ob_ hN hob ?_; try cbv))
      all_goals
        refine op_ hN (call_ (qt_step_spec' q (bb s (Int.ofNat k)) _ hbb) hG [1] rfl rfl rfl rfl rfl ?_)
        intro r e q' hq
        rw [← hq] at hgo
        simp only at hgo
        cbv
        refine cond_ hN (fun h1 => ?_) (fun h1 => ?_)
        · cbv
          refine op_ hN (call_ (fail_spec e (Int.ofNat k)) hG [] rfl rfl rfl rfl rfl ?_)
          cbv
          rw [cne hN] at h1; simp at h1
          refine hf _ _ (fin_ [] rfl rfl ((hK k e q'.bytes ?_).2 h1))
          simp only [quotR]; rw [if_pos hi, hgo, if_pos h1]
        · rw [cne hN] at h1; simp at h1
          subst h1
          simp only [ne_eq, not_true_eq_false, if_false] at hgo
          cbv
          simp only [hadd]
          refine cond_ hN (fun h2 => ?_) (fun h2 => ?_)
          · cbv
            refine op_ hN (call_ (qt_text_spec q') hG [1] rfl rfl rfl rfl rfl ?_)
            intro t ht
            cbv
            refine hf _ _ (fin_ [] rfl rfl ((hK (k + 1) 0 q'.bytes ?_).1 rfl t ht))
            simp only [quotR]; rw [if_pos hi, hgo, if_pos h2]
          · cbv
            refine hn _ (Leads.nxt (k + 1, q') [1] ⟨hlt, ?_⟩ (by simp only; omega) ⟨⟨rfl, rfl, trivial⟩, rfl, Nat.le_of_ble_eq_true rfl⟩)
            rw [hgo, if_neg (by rw [h2]; decide)]
  · cbv
    refine hf _ _ (fin_ [] rfl rfl ((hK a 2 [] ?_).2 (by decide)))
    simp only [quotR]; rw [if_neg (by rw [hi]; decide)]
end Hx
/- The monad of a machine and the decoder that it tells; what is read on a row. -/
namespace Hx
open Go Sx Go.Proofs
set_option maxRecDepth 100000
set_option maxHeartbeats 4000000
set_option linter.unusedVariables false
set_option linter.unusedSimpArgs false
variable {GOk : Gl → Prop}
inductive Res (α : Type) where
  | ok (a : α)
  | err (e at_ : Int)
  | ovf
/-- the machine, and the decoder that it tells -/
structure OS (M : Type) where
  m : M
  c : Core
/-- what must hold behind a call -/
def PostR {M α : Type} (enc : α → SV) (cs : OS M → List (Chunk Pd)) (K : Out → List (Chunk Pd) → Prop) : Res α × OS M → Prop
  | (.ok a, s) => K (.ret (enc a)) (cs s)
  | (.err e at_, s) => K (.pan (flt e at_)) (cs s)
  | (.ovf, _) => False
abbrev OM (M α : Type) := OS M → Res α × OS M
def OM.bind {M α β : Type} (x : OM M α) (f : α → OM M β) : OM M β := fun s => match x s with
  | (.ok a, s') => f a s'
  | (.err e a, s') => (.err e a, s')
  | (.ovf, s') => (.ovf, s')
def OM.ret {M α : Type} (a : α) : OM M α := fun s => (.ok a, s)
def OM.fail {M α : Type} (e a : Int) : OM M α := fun s => (.err e a, s)
def ev0 (k : Int) : Ev := ⟨k, ⟨#[]⟩, ⟨#[]⟩⟩
theorem okE0 (k : Int) (h : k ≠ 10) (h2 : k ≠ 11) : okE (ev0 k) := ⟨Nat.le_of_ble_eq_true rfl, Nat.le_of_ble_eq_true rfl, h, h2⟩
/- on a row: where it goes on -/
def bytesOf (l : List UInt8) : ByteArray := ⟨l.toArray⟩
def mustM {M : Type} (t : ByteArray) (b : Int) (a : Nat) : OM M Nat := fun s => if isB t a b then (.ok (a + 1), s) else (.err 2 (Int.ofNat a), s)
/-- a key: quoted, or a name (with points?) -/
def keyM {M : Type} (p : Bool) (t : ByteArray) (a : Nat) : OM M (Nat × ByteArray) := fun s =>
  if isB t a 34 then (if (quotR t a).2.1 = 0 then (.ok ((quotR t a).1, bytesOf (quotR t a).2.2), s) else (.err (quotR t a).2.1 (Int.ofNat (quotR t a).1), s))
  else (if (nameGo t a p a).2 = 0 then (.ok ((nameGo t a p a).1, subs t (Int.ofNat a) (Int.ofNat (nameGo t a p a).1)), s) else (.err (nameGo t a p a).2 (Int.ofNat (nameGo t a p a).1), s))
section
/- a number's normal form is told apart -/
variable (numRead : ByteArray → ByteArray × Int)
def numLoop (t : ByteArray) (f : Nat) (k : Nat) : Nat × Int :=
  if k < t.size then (if mayBegin (subs t (Int.ofNat f) (Int.ofNat (k + 1))) then (if k - f ≥ 30 then (k, 4) else numLoop t f (k + 1)) else (k, 0)) else (k, 0)
 termination_by t.size - k
def numberR (t : ByteArray) (a : Nat) : Nat × Int × ByteArray :=
  if (numLoop t a a).2 ≠ 0 then ((numLoop t a a).1, (numLoop t a a).2, ⟨#[]⟩)
  else if mayIs (subs t (Int.ofNat a) (Int.ofNat (numLoop t a a).1)) then ((numLoop t a a).1, (numRead (subs t (Int.ofNat a) (Int.ofNat (numLoop t a a).1))).2, (numRead (subs t (Int.ofNat a) (Int.ofNat (numLoop t a a).1))).1)
  else ((numLoop t a a).1, 2, ⟨#[]⟩)
def wNull : ByteArray := ⟨#[110, 117, 108, 108]⟩
def wTrue : ByteArray := ⟨#[116, 114, 117, 101]⟩
def wFalse : ByteArray := ⟨#[102, 97, 108, 115, 101]⟩
/-- a scalar: none, or where it ends, which error, what it says -/
def scalarR (t : ByteArray) (a : Nat) (null : Bool) : Option (Nat × Int × Ev) :=
  if a < t.size then
    (if bt t (Int.ofNat a) = 34 then some ((quotR t a).1, (quotR t a).2.1, ⟨4, bytesOf (quotR t a).2.2, ⟨#[]⟩⟩)
     else if bt t (Int.ofNat a) = 45 ∨ (bt t (Int.ofNat a) ≥ 48 ∧ bt t (Int.ofNat a) ≤ 57) then some ((numberR numRead t a).1, (numberR numRead t a).2.1, ⟨3, (numberR numRead t a).2.2, ⟨#[]⟩⟩)
     else if bt t (Int.ofNat a) = 110 ∧ null = true then some ((wordGo t wNull.data.toList a).1, if (wordGo t wNull.data.toList a).2 then 0 else 2, ev0 1)
     else if bt t (Int.ofNat a) = 116 then some ((wordGo t wTrue.data.toList a).1, if (wordGo t wTrue.data.toList a).2 then 0 else 2, ⟨2, wTrue, ⟨#[]⟩⟩)
     else if bt t (Int.ofNat a) = 102 then some ((wordGo t wFalse.data.toList a).1, if (wordGo t wFalse.data.toList a).2 then 0 else 2, ⟨2, wFalse, ⟨#[]⟩⟩)
     else none)
  else none
/-- a scalar: is there one? and it is told -/
def scalM {M : Type} (says : Ev → Int → OM M Unit) (t : ByteArray) (a : Nat) (nl : Bool) : OM M (Option Nat) :=
  match scalarR numRead t a nl with
  | none => OM.ret none
  | some (k, e, x) => if e ≠ 0 then OM.fail e (Int.ofNat k) else OM.bind (says x (Int.ofNat k - 1)) fun _ => OM.ret (some k)
 end
/- a machine that tells its decoder, in memory -/
abbrev oc {M : Type} (pd : M → Bool → Pd) (tv td : Nat) (s : OS M) : List (Chunk Pd) := [.abs (pd s.m true) [0, 1], .abs (.core s.c tv td) [1, 0]]
def SaysOk (GOk : Gl → Prop) {M : Type} (pd : M → Bool → Pd) (tv td fs : Nat) (says : Ev → Int → OM M Unit) : Prop :=
  ∀ (s : OS M) (x : Ev) (at_ : Int), okE x → Triple (BB Ip GOk) fs 2 2 [.ptr 0 0, .agg [.int .i64 x.kind, .str x.text, .str x.val], .int .i64 at_] (oc pd tv td s) (fun K => PostR (fun _ => .tuple []) (oc pd tv td) K (says x at_ s))
/-- what a row tells to -/
def tellV (fs g : Nat) : Value := .func (.func fs) #[.pointer (some ⟨g, 0, none⟩)] #[]
abbrev rc {M : Type} (pd : M → Bool → Pd) (tv td fs : Nat) (s : OS M) (t : ByteArray) (a g : Nat) : List (Chunk Pd) := [.abs (pd s.m true) [0, 1], .abs (.core s.c tv td) [1, 0], rowc 2 t a (tellV fs g), .at_ 0 g]
structure ReadOk (GOk : Gl → Prop) (numRead : ByteArray → ByteArray × Int) : Prop where
  read : ∀ x : ByteArray, x.size < 1000000 → Triple (BB Ip GOk) 36 0 0 [.str x] [] (fun K => ∀ r e, (r, e) = numRead x → K (.ret (.tuple [.str r, .int .i64 e])) [])
  size : ∀ x, (numRead x).1.size < 1099511627776
end Hx
/- Quoted texts: positions and lengths. -/
namespace Hx
open Go Sx Go.Proofs
set_option maxRecDepth 100000
set_option maxHeartbeats 4000000
set_option linter.unusedVariables false
set_option linter.unusedSimpArgs false
variable {GOk : Gl → Prop}
theorem qtAdd_le (q : Qt) (l : List UInt8) (h : q.bytes.length ≤ 48) : (qtAdd q l).2.bytes.length ≤ 48 := by
  unfold qtAdd; split
  · exact h
  · simp only [List.length_append]; omega
theorem qtDigit_le (q : Qt) (b : Int) (h : q.bytes.length ≤ 48) : (qtDigit q b).2.bytes.length ≤ 48 := by
  unfold qtDigit; split
  · exact h
  · split
    · exact h
    · split
      · exact h
      · exact qtAdd_le _ _ h
theorem qtStep_le (q : Qt) (b : Int) (h : q.bytes.length ≤ 48) : (qtStep q b).2.bytes.length ≤ 48 := by
  unfold qtStep; split
  · exact h
  · split
    · exact qtDigit_le q b h
    · split
      · split
        · exact h
        · split
          · exact h
          · exact qtAdd_le _ _ h
      · split
        · exact h
        · split
          · exact h
          · split
            · exact h
            · exact qtAdd_le _ _ h
theorem quotGo_le (s : ByteArray) : ∀ (n : Nat) (q : Qt) (k : Nat), s.size - k ≤ n → q.bytes.length ≤ 48 → (quotGo s q k).2.2.bytes.length ≤ 48 := by
  intro n
  induction n with
  | zero => intro q k hn h; rw [quotGo, dif_neg (by omega)]; exact h
  | succ n ih =>
    intro q k hn h
    rw [quotGo]
    split
    · rename_i hlt
      have hs := qtStep_le q ((s.data[k]'hlt).toNat : Nat) h
      generalize qtStep q ((s.data[k]'hlt).toNat : Nat) = y at hs ⊢
      obtain ⟨⟨over, e⟩, q'⟩ := y
      simp only at hs ⊢
      split
      · exact hs
      · split
        · exact hs
        · exact ih q' (k + 1) (by omega) hs
    · exact h
theorem quotGo_pos (s : ByteArray) : ∀ (n : Nat) (q : Qt) (k : Nat), s.size - k ≤ n → k ≤ s.size → (quotGo s q k).1 ≤ s.size := by
  intro n
  induction n with
  | zero => intro q k hn h; rw [quotGo, dif_neg (by omega)]; exact h
  | succ n ih =>
    intro q k hn h
    rw [quotGo]
    split
    · rename_i hlt
      generalize qtStep q ((s.data[k]'hlt).toNat : Nat) = y
      obtain ⟨⟨over, e⟩, q'⟩ := y
      simp only
      split
      · exact h
      · split
        · exact hlt
        · exact ih q' (k + 1) (by omega) hlt
    · exact h
theorem quotR_pos (s : ByteArray) (a : Nat) (h : a ≤ s.size) : (quotR s a).1 ≤ s.size := by
  unfold quotR; split
  · rename_i hi; exact quotGo_pos s _ qt0 (a + 1) (Nat.le_refl _) (isB_lt hi)
  · exact h
theorem quotR_le (s : ByteArray) (a : Nat) : (quotR s a).2.2.length ≤ 48 := by
  unfold quotR; split
  · exact quotGo_le s _ qt0 (a + 1) (Nat.le_refl _) (Nat.zero_le _)
  · exact Nat.zero_le _
theorem bytes_eq {t : ByteArray} {l : List UInt8} (h : t.data.toList = l) : t = bytesOf l := by
  subst h; cases t; rfl
theorem okE8 (s : ByteArray) (h : s.size < 1099511627776) : okE ⟨8, s, ⟨#[]⟩⟩ := ⟨h, Nat.le_of_ble_eq_true rfl, by simp, by simp⟩
end Hx
/- strings.HasPrefix, TrimLeft; row.Cut. -/
namespace Hx
open Go Sx Go.Proofs
set_option maxRecDepth 100000
set_option maxHeartbeats 4000000
set_option linter.unusedVariables false
set_option linter.unusedSimpArgs false
variable {GOk : Gl → Prop}
theorem has_prefix_spec (s p : ByteArray) : Triple (BB Ip GOk) 222 0 0 [.str s, .str p] [] (fun K => ∀ d, d = Lib.hasPrefix s.data.toList p.data.toList → K (.ret (.bool d)) []) := by
  refine triple_lib (.ret (.bool (Lib.hasPrefix s.data.toList p.data.toList))) (fun K h => h _ rfl) Tryz.call222 fun G hG ρ w _ _ => (Tryz.strings_HasPrefix s p w).mono ?_
  rintro e w' ⟨rfl, rfl⟩
  exact ⟨rfl, Nat.le_refl _, fun _ _ => rfl, rfl⟩
theorem trim_left_spec (s : ByteArray) : Triple (BB Ip GOk) 60 0 0 [.str s, .str ⟨#[32]⟩] [] (fun K => ∀ d : ByteArray, d.data.toList = Lib.trimLeftB s.data.toList 32 → K (.ret (.str d)) []) := by
  refine triple_lib (.ret (.str ⟨(Lib.trimLeftB s.data.toList 32).toArray⟩)) (fun K h => h _ rfl) Tryz.call60 fun G hG ρ w _ _ => (Tryz.strings_TrimLeft_one s 32 (by decide) w).mono ?_
  rintro e w' ⟨rfl, rfl⟩
  exact ⟨rfl, Nat.le_refl _, fun _ _ => rfl, rfl⟩
/-- how many blanks a line begins with; does it say something? -/
def cutR (t : ByteArray) : Nat × Bool := (blanks t 0, decide (blanks t 0 < t.size) && decide (bt t (Int.ofNat (blanks t 0)) ≠ 35))
theorem bt_get (s : ByteArray) (k : Nat) (h : k < s.data.toList.length) : bt s (Int.ofNat k) = ((s.data.toList[k]'h).toNat : Nat) := by
  have h2 : k < s.data.size := by simpa using h
  have h3 : k < s.size := h2
  simp [bt, Array.getD, h3]
theorem blanks_drop (s : ByteArray) : ∀ n k, s.size - k ≤ n → Lib.trimLeftB (s.data.toList.drop k) 32 = s.data.toList.drop (blanks s k) := by
  intro n
  induction n with
  | zero =>
    intro k hk
    have h1 : s.data.toList.length ≤ k := by rw [← Lib.size_eq]; omega
    have h2 : isB s k 32 = false := by cases hb : isB s k 32 with
      | false => rfl
      | true => have := isB_lt hb; omega
    rw [blanks, if_neg (by rw [h2]; decide), List.drop_eq_nil_of_le h1]; rfl
  | succ n ih =>
    intro k hk
    by_cases hlt : k < s.size
    · have hl : k < s.data.toList.length := by rw [← Lib.size_eq]; exact hlt
      rw [List.drop_eq_getElem_cons hl]
      unfold Lib.trimLeftB
      rw [List.dropWhile_cons]
      have hb := bt_get s k hl
      have hcons := List.drop_eq_getElem_cons hl
      generalize s.data.toList[k]'hl = x at hb hcons ⊢
      by_cases hx : x = 32
      · subst hx
        have h2 : isB s k 32 = true := by simp only [isB, hlt, hb]; decide
        rw [blanks, if_pos h2, if_pos (by decide)]
        exact ih (k + 1) (by omega)
      · have h2 : isB s k 32 = false := by
          simp only [isB, hb, Bool.and_eq_false_iff, decide_eq_false_iff_not]
          right
          intro h3
          exact hx (UInt8.toNat_inj.1 (by have : x.toNat = 32 := by exact_mod_cast h3
                                          rw [this]; rfl))
        have h3 : blanks s k = k := by rw [blanks, if_neg (by rw [h2]; decide)]
        have h4 : ¬ (x == 32) = true := by simpa using hx
        rw [h3, if_neg h4, hcons]
    · have h1 : s.data.toList.length ≤ k := by rw [← Lib.size_eq]; omega
      have h2 : isB s k 32 = false := by cases hb : isB s k 32 with
        | false => rfl
        | true => have := isB_lt hb; omega
      rw [blanks, if_neg (by rw [h2]; decide), List.drop_eq_nil_of_le h1]; rfl
theorem cut_spec (s : ByteArray) (hs : s.size < 1000000) : Triple (BB Ip GOk) 162 0 0 [.str s] [] (fun K => ∀ k b, (k, b) = cutR s → K (.ret (.tuple [.int .i64 (Int.ofNat k), .bool b])) []) := by
  refine triple_of BB_ok (tb := ty) rfl (n0 := 0) (fun _ : Unit => _) pl162 Tryz.call162 Tryz.func162 rfl (by kernel_rfl) (Nat.le_of_ble_eq_true rfl) (by decide) rfl pre_none ?_
  rintro G hG K hK W bi bc bs bk bu bb bo bg bl bp bn be Ncond Nob Nop Nloop Nscope hN Nfin hf _ _
  cbv
  refine op_ hN (call_ (trim_left_spec s) hG [] rfl rfl rfl rfl rfl ?_)
  intro d hd
  have h0 := blanks_drop s _ 0 (Nat.le_refl _)
  rw [List.drop_zero, ← hd] at h0
  have hbl := blanks_le s 0 (Nat.zero_le _)
  obtain ⟨k, hk⟩ : ∃ k, k = blanks s 0 := ⟨_, rfl⟩
  rw [← hk] at h0 hbl
  have hsz : d.size = s.size - k := by rw [Lib.size_eq, h0, List.length_drop, ← Lib.size_eq]
  have hcut : cutR s = (k, decide (k < s.size) && decide (bt s (Int.ofNat k) ≠ 35)) := by rw [cutR, ← hk]
  rw [hcut] at hK
  clear hcut
  have hb : k < s.size → bt d 0 = bt s (Int.ofNat k) := by
    intro h
    have h1 : k < s.data.toList.length := by rw [← Lib.size_eq]; exact h
    have h2 : 0 < d.data.toList.length := by rw [← Lib.size_eq]; omega
    rw [bt_get s k h1]
    rw [show (0 : Int) = Int.ofNat 0 from rfl, bt_get d 0 h2]
    simp only [h0, List.getElem_drop, Nat.add_zero]
  have hsub : bi .sub .i64 (Int.ofNat s.size) (Int.ofNat d.size) = Int.ofNat k := by rw [isub hN (by simp; omega) (by simp; omega)]; simp; omega
  have hsub2 : bi .sub .i64 (bn s) (bn d) = Int.ofNat k := by rw [len_eq hN, len_eq hN]; exact hsub
  have he : d = { data := { toList := [] } } ↔ d.size = 0 := by
    constructor
    · rintro rfl; rfl
    · intro h; cases d; simp only [ByteArray.mk.injEq]; exact Array.eq_empty_of_size_eq_zero h
  have hbb : bb d 0 = bt d 0 := by rw [bb_ hN]
  cbv
  refine cond_ hN (fun h => ?_) (fun h => ?_)
  · rw [sne_eq hN] at h
    have hlt : k < s.size := by
      refine Nat.lt_of_not_le fun hle => ?_
      have h0 : d.size = 0 := by omega
      rw [he.2 h0] at h
      exact nomatch h
    cbv
    refine ob_ hN ?_ ?_
    · exact ⟨⟨by simp, by rw [len_eq hN]; simp; omega⟩, trivial⟩
    cbv
    simp only [hsub2]
    exact hf _ _ (fin_ [] rfl rfl (hK k _ (by rw [hbb, hb hlt, cne hN]; simp [hlt])))
  · rw [sne_eq hN] at h
    have hnl : ¬ k < s.size := by have := he.1 (by simpa using h); omega
    cbv
    simp only [hsub2]
    exact hf _ _ (fin_as (.tuple [.int .i64 (Int.ofNat k), .bool false]) (fun _ => rfl) (fin_ [] rfl rfl (hK k false (by rw [decide_eq_false hnl]; rfl))))
end Hx
/- What sections' machine computes: the model. -/
namespace Hx
open Go Sx Go.Proofs
set_option maxRecDepth 100000
set_option maxHeartbeats 4000000
set_option linter.unusedVariables false
set_option linter.unusedSimpArgs false
variable {GOk : Gl → Prop}
abbrev SM (α : Type) := OM Sec α
section
variable (right : Ev → Bool)
def secSays (x : Ev) (at_ : Int) : SM Unit := fun s =>
  if (chkStep right s.m.chk x).1 ≠ 0 then (.err (chkStep right s.m.chk x).1 at_, { s with m := { s.m with chk := (chkStep right s.m.chk x).2 } })
  else if s.c.queue.length ≥ 4294967296 then (.ovf, s)
  else (.ok (), { m := { s.m with chk := (chkStep right s.m.chk x).2 }, c := { s.c with queue := s.c.queue ++ [x] } })
def secBegins (at_ : Int) : SM Unit := fun s => if s.m.begun then (.ok (), s) else secSays right (ev0 7) at_ { s with m := { s.m with begun := true } }
def secLeave (at_ : Int) (x : ByteArray × Bool) : SM Unit := OM.bind (secSays right (ev0 9) at_) fun _ => if x.2 then secSays right (ev0 6) at_ else OM.ret ()
def secLeavesL (at_ : Int) : List (ByteArray × Bool) → SM Unit
  | [] => OM.ret ()
  | x :: r => OM.bind (secLeave right at_ x) fun _ => secLeavesL at_ r
def secCut (n : Nat) : SM Unit := fun s => (.ok (), { s with m := { s.m with place := s.m.place.take n } })
def secLeaves (n : Nat) (at_ : Int) : SM Unit := fun s => OM.bind (secLeavesL right at_ (s.m.place.drop n).reverse) (fun _ => secCut n) s
def secPush (k : ByteArray) (rows : Bool) : SM Unit := fun s => if s.m.place.length ≥ 1000 then (.ovf, s) else (.ok (), { s with m := { s.m with place := s.m.place ++ [(k, rows)] } })
def secEnters (k : ByteArray) (rows : Bool) (at_ : Int) : SM Unit :=
  OM.bind (secSays right ⟨8, k, ⟨#[]⟩⟩ at_) fun _ => OM.bind (if rows then secSays right (ev0 5) at_ else OM.ret ()) fun _ => OM.bind (secSays right (ev0 7) at_) fun _ => secPush k rows
def secCommon : List (ByteArray × Bool) → List ByteArray → Nat → Nat
  | x :: a, k :: b, m + 1 => if x.1 = k then secCommon a b m + 1 else 0
  | _, _, _ => 0
/-- the steps in: the last one is rows? -/
def secEntersL (rows : Bool) (at_ : Int) : List ByteArray → SM Unit
  | [] => OM.ret ()
  | k :: r => OM.bind (secEnters right k (rows && r.isEmpty) at_) fun _ => secEntersL rows at_ r
def secGoesT (p : List ByteArray) (rows : Bool) (at_ : Int) (n : Nat) : SM Unit := fun s =>
  if rows && (decide (n = p.length) && (s.m.place[n - 1]?).any (·.2)) then
    OM.bind (secLeaves right n at_) (fun _ => OM.bind (secSays right (ev0 9) at_) fun _ => secSays right (ev0 7) at_) s
  else OM.bind (secLeaves right (min n (p.length - 1)) at_) (fun _ => secEntersL right rows at_ (p.drop (min n (p.length - 1)))) s
def secHead (p : List ByteArray) : SM Unit := fun s => (.ok (), { s with m := { s.m with header := p } })
def secGoes (p : List ByteArray) (rows : Bool) (at_ : Int) : SM Unit :=
  OM.bind (secBegins right at_) fun _ s => OM.bind (secGoesT right p rows at_ (secCommon s.m.place p p.length)) (fun _ => secHead p) s
def liftR {M α : Type} (r : Res α) : OM M α := fun s => match r with
  | .ok a => (.ok a, s)
  | .err e p => (.err e p, s)
  | .ovf => (.ovf, s)
/-- a key: where it ends, which error, what it says -/
def keyR (t : ByteArray) (a : Nat) : Nat × Int × ByteArray :=
  if isB t a 34 then ((quotR t a).1, (quotR t a).2.1, bytesOf (quotR t a).2.2)
  else ((nameGo t a false a).1, (nameGo t a false a).2, subs t (Int.ofNat a) (Int.ofNat (nameGo t a false a).1))
def keyP (t : ByteArray) (a : Nat) : Res (Nat × ByteArray) := if (keyR t a).2.1 = 0 then .ok ((keyR t a).1, (keyR t a).2.2) else .err (keyR t a).2.1 (Int.ofNat (keyR t a).1)
def pathGo (t : ByteArray) : Nat → Nat → List ByteArray → Res (Nat × List ByteArray)
  | 0, _, _ => .ovf
  | n + 1, a, l => if isB t a 46 then (match keyP t (a + 1) with
      | .ok kl => pathGo t n kl.1 (l ++ [kl.2])
      | .err e p => .err e p
      | .ovf => .ovf) else .ok (a, l)
def pathP (t : ByteArray) (a : Nat) : Res (Nat × List ByteArray) := match keyP t a with
  | .ok kl => pathGo t (t.size + 2) kl.1 [kl.2]
  | .err e p => .err e p
  | .ovf => .ovf
def secSection (t : ByteArray) (a : Nat) : SM Nat :=
  OM.bind (liftR (pathP t (if isB t (a + 1) 91 then a + 2 else a + 1))) fun kp => OM.bind (mustM t 93 kp.1) fun k => OM.bind (secGoes right kp.2 (isB t (a + 1) 91) (Int.ofNat k - 1)) fun _ =>
    if isB t (a + 1) 91 then mustM t 93 k else OM.ret k
def secAll (all : List ByteArray) (at_ : Int) : SM Unit := fun s =>
  OM.bind (secLeaves right (secCommon s.m.place all (all.length - 1)) at_) (fun _ => OM.bind (secEntersL right false at_ ((all.take (all.length - 1)).drop (secCommon s.m.place all (all.length - 1)))) fun _ => secSays right ⟨8, all.getD (all.length - 1) ⟨#[]⟩, ⟨#[]⟩⟩ at_) s
def secTo (p : List ByteArray) (at_ : Int) : SM Unit := fun s => if s.m.header.any (fun k => decide (k.size ≥ 1000000)) then (.ovf, s) else secAll right (s.m.header ++ p) at_ s
variable (numRead : ByteArray → ByteArray × Int)
mutual
def secValue (t : ByteArray) : Nat → Nat → SM Nat
  | 0, _ => fun s => (.ovf, s)
  | n + 1, a =>
    if isB t a 91 then secRow t n a 5 93 6
    else if isB t a 123 then secRow t n a 7 125 9
    else OM.bind (scalM numRead (secSays right) t a false) fun o => match o with
      | some k => OM.ret k
      | none => OM.fail 2 (Int.ofNat a)
def secRow (t : ByteArray) : Nat → Nat → Int → Int → Int → SM Nat
  | 0, _, _, _, _ => fun s => (.ovf, s)
  | n + 1, a, kind, last, fin =>
    OM.bind (secSays right (ev0 kind) (Int.ofNat a)) fun _ =>
    OM.bind (if isB t (blanks t (a + 1)) last then OM.ret (blanks t (a + 1)) else secRowGo t n (blanks t (a + 1)) kind last) fun k =>
    OM.bind (secSays right (ev0 fin) (Int.ofNat k)) fun _ => OM.ret (k + 1)
def secRowGo (t : ByteArray) : Nat → Nat → Int → Int → SM Nat
  | 0, _, _, _ => fun s => (.ovf, s)
  | n + 1, a, kind, last =>
    OM.bind (if kind = 7 then
        OM.bind (liftR (keyP t a)) fun kl =>
        OM.bind (secSays right ⟨8, kl.2, ⟨#[]⟩⟩ (Int.ofNat kl.1 - 1)) fun _ =>
        OM.bind (mustM t 61 (blanks t kl.1)) fun k => OM.ret (blanks t k)
      else OM.ret a) fun a1 =>
    OM.bind (secValue t n a1) fun a2 =>
    if isB t (blanks t a2) last then OM.ret (blanks t a2)
    else OM.bind (mustM t 44 (blanks t a2)) fun a3 => secRowGo t n (blanks t a3) kind last
 end
def secValueA (t : ByteArray) (a : Nat) : SM Nat := secValue right numRead t (4 * (t.size + 2 - a)) a
def secAssigns (t : ByteArray) (a : Nat) : SM Nat :=
  OM.bind (liftR (pathP t a)) fun kp => OM.bind (mustM t 61 (blanks t kp.1)) fun k => OM.bind (secBegins right (Int.ofNat k - 1)) fun _ =>
    OM.bind (secTo right kp.2 (Int.ofNat k - 1)) fun _ => secValueA right numRead t (blanks t k)
def secLine (t : ByteArray) : SM Unit :=
  if (cutR t).2 then
    OM.bind (if isB t (cutR t).1 91 then secSection right t (cutR t).1 else secAssigns right numRead t (cutR t).1) fun k =>
      if blanks t k < t.size then OM.fail 2 (Int.ofNat (blanks t k)) else OM.ret ()
  else OM.ret ()
def secLooks (nl : Nat) (s : OS Sec) : Option (Int × OS Sec) :=
  if s.m.ahead > 1000000 then none else
  match secLine right numRead (bytesOf s.m.line) { s with m := { s.m with line := [], ahead := s.m.ahead + s.m.line.length + nl } } with
  | (.ok _, s') => some (0, s')
  | (.err e a, s') => if e ≤ 0 ∨ a < 0 ∨ a > 1000000 then none else some (e, { s' with m := { s'.m with ahead := s.m.ahead + a.toNat } })
  | (.ovf, _) => none
def secStep (b : UInt8) (s : OS Sec) : Option (Int × OS Sec) :=
  if b = 10 then secLooks right numRead 1 s
  else if s.m.line.length ≥ 160 then (if s.m.ahead > 1000000 then none else some (4, { s with m := { s.m with ahead := s.m.ahead + 160 } }))
  else some (0, { s with m := { s.m with line := s.m.line ++ [b] } })
def secFinishO : SM Unit := OM.bind (secBegins right 0) fun _ => OM.bind (secLeaves right 0 0) fun _ => secSays right (ev0 9) 0
def secFinish (s : OS Sec) : Option (Int × OS Sec) :=
  match secFinishO right s with
  | (.ok _, s') => some (0, s')
  | (.err e _, s') => if e ≤ 0 then none else some (e, s')
  | (.ovf, _) => none
def secEnd (s : OS Sec) : Option (Int × OS Sec) :=
  if s.m.line.isEmpty then secFinish right s
  else match secLooks right numRead 0 s with
    | none => none
    | some (e, s') => if e ≠ 0 then some (e, s') else secFinish right s'
 end
end Hx
/- events.Check.Step, by what is known of the events that may be. -/
namespace Hx
open Go Sx Go.Proofs
set_option maxRecDepth 100000
set_option maxHeartbeats 4000000
set_option linter.unusedVariables false
set_option linter.unusedSimpArgs false
variable {GOk : Gl → Prop}
/-- which events are right -/
def RgtOk (GOk : Gl → Prop) (right : Ev → Bool) : Prop :=
  ∀ x, okE x → Triple (BB Ip GOk) 21 0 0 [.agg [.int .i64 x.kind, .str x.text, .str x.val]] [] (fun K => ∀ b, b = right x → K (.ret (.bool b)) [])
variable {right : Ev → Bool}
theorem step_spec' (hb : RgtOk GOk right) (c : Chk) (x : Ev) (hx : okE x) : Triple (BB Ip GOk) 15 1 1 [.ptr 0 0, .agg [.int .i64 x.kind, .str x.text, .str x.val]] [.abs (.chk c) [0]]
      (fun K => ∀ e c', (e, c') = chkStep right c x → K (.ret (.int .i64 e)) [.abs (.chk c') [0]]) := by
  cases h : c.opens with
  | nil => exact step_none right c x (hb x hx) h
  | cons o r => exact step_some right c x (hb x hx) o r h
end Hx
/- sections.machine.says, begins: the walks. -/
namespace Hx
open Go Sx Go.Proofs
set_option maxRecDepth 100000
set_option maxHeartbeats 4000000
set_option linter.unusedVariables false
set_option linter.unusedSimpArgs false
variable {GOk : Gl → Prop}
/-- how the machine lies in memory -/
theorem secTm {ahead : Nat} {line : List UInt8} {chk : Chk} {place : List (ByteArray × Bool)} {header : List ByteArray} {begun : Bool} {p lo len cap xs q lo2 len2 cap2 ys h lo3 len3 cap3 zs}
    (hv1 : VecOk p lo len cap xs line) (hv2 : VecOk q lo2 len2 cap2 ys place) (hv3 : VecOk h lo3 len3 cap3 zs header) (hl : line.length ≤ 160 ∧ place.length ≤ 1000 ∧ header.length ≤ 1000000) :
    Tm (.sec ⟨ahead, line, chk, place, header, begun⟩ true) [.cells 0 57 [.int .i64 (Int.ofNat ahead), .vec p 2 1 lo len cap, .ptr 5 0, .vec q 3 2 lo2 len2 cap2, .vec h 4 1 lo3 len3 cap3, .bool begun, .fn (.func 31) [.ptr 1 0] []], .arr p true 2 5 encB xs, .arr q true 3 240 encT ys, .arr h true 4 9 encS zs, .abs (.chk chk) [5]] :=
  ⟨p, lo, len, cap, xs, q, lo2, len2, cap2, ys, h, lo3, len3, cap3, zs, _, hv1, hv2, hv3, hl, fun _ => rfl, (fun h => nomatch h), rfl⟩
abbrev ocS (s : OS Sec) : List (Chunk Pd) := oc Pd.sec 50 40 s
variable {right : Ev → Bool}
theorem sec_says_spec (hb : RgtOk GOk right) : SaysOk GOk Pd.sec 50 40 161 (secSays right) := by
  intro s x at_ hx
  obtain ⟨kind, text, val⟩ := x
  obtain ⟨⟨ahead, line, chk, place, header, begun⟩, core⟩ := s
  refine triple_of BB_ok (tb := ty) rfl (n0 := 6) (fun y : {cs' // Tm (.sec ⟨ahead, line, chk, place, header, begun⟩ true) cs'} => csRen (sg [0, 1] 2) y.1 ++ [.abs (.core core 50 40) [1, 0]]) pl161 Tryz.call161 Tryz.func161 rfl (by kernel_rfl) (Nat.le_of_ble_eq_true rfl) (by decide) rfl (pre_open rfl rfl rfl) ?_
  rintro G hG K hK W bi bc bs bk bu bb bo bg bl bp bn be Ncond Nob Nop Nloop Nscope hN Nfin hf _ ⟨cs', hT⟩
  obtain ⟨p, lo, len, cap, xs, q, lo2, len2, cap2, ys, hp, lo3, len3, cap3, zs, tl, hv1, hv2, hv3, hl, htl, -, rfl⟩ := id hT
  obtain rfl := htl rfl
  simp only at hv1 hv2 hv3 hl
  cbv
  repeat' (first | exact True.intro | with_reducible refine dup ?_ | refine And.intro ?_ ?_)
  all_goals
    refine op_ hN (call_ (step_spec' hb chk ⟨kind, text, val⟩ hx) hG [5] rfl rfl rfl rfl rfl ?_)
    intro e chk' he
    cbv
    repeat' (first | exact True.intro | with_reducible refine dup ?_ | refine And.intro ?_ ?_)
    all_goals
      refine cond_ hN (fun h1 => ?_) (fun h1 => ?_)
      · rw [cne hN] at h1; simp at h1
        have hm : secSays right ⟨kind, text, val⟩ at_ ⟨⟨ahead, line, chk, place, header, begun⟩, core⟩ = (.err e at_, ⟨⟨ahead, line, chk', place, header, begun⟩, core⟩) := by
          simp only [secSays]; rw [← he, if_pos h1]
        rw [hm] at hK
        cbv
        refine op_ hN (call_ (fail_spec e at_) hG [] rfl rfl rfl rfl rfl ?_)
        cbv
        exact hf _ _ (fin_close rfl (.sec ⟨ahead, line, chk', place, header, begun⟩ true) [0, 1] [2, 3, 4, 5] _ (secTm hv1 hv2 hv3 hl) rfl (fin_ [] rfl rfl hK))
      · rw [cne hN] at h1; simp at h1
        subst h1
        by_cases hq : core.queue.length ≥ 4294967296
        · have hm : secSays right ⟨kind, text, val⟩ at_ ⟨⟨ahead, line, chk, place, header, begun⟩, core⟩ = (.ovf, ⟨⟨ahead, line, chk, place, header, begun⟩, core⟩) := by
            simp only [secSays]; rw [← he, if_neg (by simp), if_pos hq]
          rw [hm] at hK
          exact hK.elim
        · have hm : secSays right ⟨kind, text, val⟩ at_ ⟨⟨ahead, line, chk, place, header, begun⟩, core⟩ = (.ok (), ⟨⟨ahead, line, chk', place, header, begun⟩, { core with queue := core.queue ++ [⟨kind, text, val⟩] }⟩) := by
            simp only [secSays]; rw [← he, if_neg (by simp), if_neg hq]
          rw [hm] at hK
          generalize hc2 : ({ core with queue := core.queue ++ [⟨kind, text, val⟩] } : Core) = core2 at hK
          cbv
          repeat' (first | exact True.intro | with_reducible refine dup ?_ | refine And.intro ?_ ?_)
          all_goals
            refine op_ hN (call_ (tell_spec 50 40 core ⟨kind, text, val⟩ (by omega)) hG [1, 0] rfl rfl rfl rfl rfl ?_)
            rw [hc2]
            cbv
            repeat' (first | exact True.intro | with_reducible refine dup ?_ | refine And.intro ?_ ?_)
            all_goals
              exact hf _ _ (fin_close rfl (.sec ⟨ahead, line, chk', place, header, begun⟩ true) [0, 1] [2, 3, 4, 5] _ (secTm hv1 hv2 hv3 hl) rfl (fin_ [] rfl rfl hK))
theorem sec_begins_spec (hb : RgtOk GOk right) (s : OS Sec) (at_ : Int) : Triple (BB Ip GOk) 159 2 2 [.ptr 0 0, .int .i64 at_] (ocS s)
    (fun K => PostR (fun _ => .tuple []) ocS K (secBegins right at_ s)) := by
  obtain ⟨⟨ahead, line, chk, place, header, begun⟩, core⟩ := s
  refine triple_of BB_ok (tb := ty) rfl (n0 := 6) (fun y : {cs' // Tm (.sec ⟨ahead, line, chk, place, header, begun⟩ true) cs'} => csRen (sg [0, 1] 2) y.1 ++ [.abs (.core core 50 40) [1, 0]]) pl159 Tryz.call159 Tryz.func159 rfl (by kernel_rfl) (Nat.le_of_ble_eq_true rfl) (by decide) rfl (pre_open rfl rfl rfl) ?_
  rintro G hG K hK W bi bc bs bk bu bb bo bg bl bp bn be Ncond Nob Nop Nloop Nscope hN Nfin hf _ ⟨cs', hT⟩
  obtain ⟨p, lo, len, cap, xs, q, lo2, len2, cap2, ys, hp, lo3, len3, cap3, zs, tl, hv1, hv2, hv3, hl, htl, -, rfl⟩ := id hT
  obtain rfl := htl rfl
  simp only at hv1 hv2 hv3 hl
  cbv
  cases begun with
  | true =>
    refine cond_ hN (fun h => by simp at h) (fun _ => ?_)
    cbv
    exact hf _ _ (fin_close rfl (.sec ⟨ahead, line, chk, place, header, true⟩ true) [0, 1] [2, 3, 4, 5] _ (secTm hv1 hv2 hv3 hl) rfl (fin_ [] rfl rfl hK))
  | false =>
    refine cond_ hN (fun _ => ?_) (fun h => by simp at h)
    cbv
    refine op_ hN (op_cput 0 [.int .i64 (Int.ofNat ahead), .vec p 2 1 lo len cap, .ptr 5 0, .vec q 3 2 lo2 len2 cap2, .vec hp 4 1 lo3 len3 cap3, .bool true, .fn (.func 31) [.ptr 1 0] []] rfl (fun _ => rfl) (op_close rfl (.sec ⟨ahead, line, chk, place, header, true⟩ true) [0, 1] [2, 3, 4, 5] _ (secTm hv1 hv2 hv3 hl) rfl rfl (call_ (sec_says_spec hb ⟨⟨ahead, line, chk, place, header, true⟩, core⟩ (ev0 7) at_ (okE0 7 (by decide) (by decide))) hG [0, 1] rfl rfl rfl rfl rfl ?_)))
    have hm : secBegins right at_ ⟨⟨ahead, line, chk, place, header, false⟩, core⟩ = secSays right (ev0 7) at_ ⟨⟨ahead, line, chk, place, header, true⟩, core⟩ := rfl
    rw [hm] at hK
    generalize secSays right (ev0 7) at_ ⟨⟨ahead, line, chk, place, header, true⟩, core⟩ = y at hK ⊢
    obtain ⟨r, s'⟩ := y
    cases r with
    | ok a => cbv; exact hf _ _ (fin_ [] rfl rfl hK)
    | err e a => cbv; exact hf _ _ (fin_ [] rfl rfl hK)
    | ovf => exact hK.elim
end Hx
