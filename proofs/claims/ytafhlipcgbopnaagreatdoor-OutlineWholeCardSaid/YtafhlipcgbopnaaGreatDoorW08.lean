/-
  Part of a proof.
-/
import Derived.Test.YtafhlipcgbopnaaGreatDoorW07
import Derived.Test.YtafhlipcgbopnaaGreatDoorW06
import Derived.Test.YtafhlipcgbopnaaGreatDoorW05
import Derived.Calls
set_option linter.unusedVariables false
set_option linter.unusedSimpArgs false
/- row.Row.Word, Name, Quoted: the walks. -/
namespace Hx
open Go Sx Go.Proofs
set_option maxRecDepth 100000
set_option maxHeartbeats 4000000
set_option linter.unusedVariables false
set_option linter.unusedSimpArgs false
variable {GOk : Gl → Prop}
/-- a word, letter by letter: where it ends; is it there? -/
def wordGo (s : ByteArray) : List UInt8 → Nat → Nat × Bool
  | [], k => (k, true)
  | b :: r, k => if isB s k (b.toNat : Nat) then wordGo s r (k + 1) else (k, false)
theorem word_spec (s w : ByteArray) (a : Nat) (tv : Value) (hs : s.size < 4611686018427387904) (hw : w.size < 4611686018427387904) : Triple (BB Ip GOk) 197 1 1 [.ptr 0 0, .str w] [rowc 0 s a tv]
    (fun K => ∀ k ok, (k, ok) = wordGo s w.data.toList a → (ok = true → K (.ret (.tuple [])) [rowc 0 s k tv]) ∧ (ok = false → K (.pan (flt 2 (Int.ofNat k))) [rowc 0 s k tv])) := by
  refine triple_of BB_ok (tb := ty) rfl (n0 := 1) (fun _ : Unit => _) pl197 Tryz.call197 Tryz.func197 rfl (by kernel_rfl) (Nat.le_of_ble_eq_true rfl) (by decide) rfl pre_none ?_
  rintro G hG K hK W bi bc bs bk bu bb bo bg bl bp bn be Ncond Nob Nop Nloop Nscope hN Nfin hf _ _
  cbv
  refine op_ hN (str_bytes ty_ok rfl rfl rfl rfl rfl rfl rfl ?_)
  intro m cap xs hm hcap hmc hxs
  cbv
  refine loopN_ hN (loop_ hN ty_ok mixed (ι := Nat × Nat) (fun y => ⟨[(0, .ptr 0 0), (7, .vec true 1 1 0 m cap), (8, .int .i64 (Int.ofNat m)), (9, .int .i64 (Int.ofNat y.1))], [.arr true true 1 5 encB xs, rowc 0 s y.2 tv], 2⟩) (fun y => y.1 ≤ m ∧ wordGo s (w.data.toList.drop y.1) y.2 = wordGo s w.data.toList a) (fun y => m - y.1) (Leads.idx (0, a) [1] ⟨Nat.zero_le _, rfl⟩ ⟨⟨rfl, rfl, rfl, rfl, trivial⟩, rfl, Nat.le_of_ble_eq_true rfl⟩) ?_)
  rintro ⟨k, j⟩ ⟨hk1, hk3⟩ Nnext hn _
  simp only at hk1 hk3
  cbv
  refine cond_ hN (fun h3 => ?_) (fun h3 => ?_)
  · cbv
    have h3' : k < m := by rw [clt hN] at h3; simpa using h3
    refine ob_ hN ⟨⟨by simp, by simpa using h3'⟩, rfl, trivial⟩ ?_
    cbv
    refine op_ hN (load_byte ty_ok rfl rfl rfl rfl (by rw [plus0 hN]; omega) ?_)
    intro x b hx hb
    rw [plus0 hN] at hx
    have hdrop := drop_byte hxs h3' (by omega) hx
    have hgo : wordGo s w.data.toList a = if isB s j b then wordGo s (w.data.toList.drop (k + 1)) (j + 1) else (j, false) := by
      rw [← hk3, hdrop, hb]; rfl
    cbv
    refine op_ hN (call_ (must_spec s j tv b hs) hG [0] rfl rfl rfl rfl rfl ?_)
    refine ⟨fun hi => ?_, fun hi => ?_⟩
    · cbv
      have hlt : j < s.size := by simp [isB] at hi; exact hi.1
      refine hn _ (Leads.nxt (k + 1, j + 1) [1] ⟨h3', ?_⟩ (by simp only; omega) ⟨⟨rfl, rfl, rfl, ?_, trivial⟩, rfl, Nat.le_of_ble_eq_true rfl⟩)
      · rw [hgo, if_pos hi]
      · exact congrArg (fun z => some (SV.int .i64 z)) (inext hN (by omega))
    · cbv
      refine hf _ _ (fin_ [] rfl rfl ((hK j false ?_).2 rfl))
      rw [hgo, if_neg (by rw [hi]; decide)]
  · cbv
    refine hf _ _ (fin_ [] rfl rfl ((hK j true ?_).1 rfl))
    rw [clt hN] at h3
    simp only [decide_eq_true_eq, decide_eq_false_iff_not, Int.ofNat_eq_natCast, gt_iff_lt, ge_iff_le, Bool.not_eq_true', Bool.not_eq_false', Int.not_lt, Int.not_le] at h3
    have : k = m := by omega
    rw [← hk3, this, List.drop_eq_nil_of_le (by rw [hm]; exact Nat.le_refl _)]; rfl
/-- a quoted text's bytes from k on: where it ends, which error, what it says -/
def quotGo (s : ByteArray) (q : Qt) (k : Nat) : Nat × Int × Qt :=
  if h : k < s.size then
    match qtStep q ((s.data[k]'h).toNat : Nat) with
    | ((over, e), q') => if e ≠ 0 then (k, e, q') else if over then (k + 1, 0, q') else quotGo s q' (k + 1)
  else (k, 2, q)
 termination_by s.size - k
def qt0 : Qt := ⟨[], false, 0, 0, false⟩
/-- a quoted text: where it ends, which error, what it says -/
def quotR (s : ByteArray) (a : Nat) : Nat × Int × List UInt8 := if isB s a 34 then ((quotGo s qt0 (a + 1)).1, (quotGo s qt0 (a + 1)).2.1, (quotGo s qt0 (a + 1)).2.2.bytes) else (a, 2, [])
theorem qt_step_spec' {GOk : Gl → Prop} (q : Qt) (b : Int) (x : UInt8) (hb : b = (x.toNat : Nat)) : Triple (BB Ip GOk) 181 1 1 [.ptr 0 0, .int .u8 b] [.abs (.qt q) [0]]
    (fun K => ∀ r e q', ((r, e), q') = qtStep q b → K (.ret (.tuple [.bool r, .int .i64 e])) [.abs (.qt q') [0]]) := by subst hb; exact qt_step_spec q x
theorem quoted_spec (s : ByteArray) (a : Nat) (tv : Value) (hs : s.size < 4611686018427387904) : Triple (BB Ip GOk) 170 1 1 [.ptr 0 0] [rowc 0 s a tv]
    (fun K => ∀ k e l, (k, e, l) = quotR s a → (e = 0 → ∀ t : ByteArray, t.data.toList = l → K (.ret (.str t)) [rowc 0 s k tv]) ∧ (e ≠ 0 → K (.pan (flt e (Int.ofNat k))) [rowc 0 s k tv])) := by
  refine triple_of BB_ok (tb := ty) rfl (n0 := 1) (fun _ : Unit => _) pl170 Tryz.call170 Tryz.func170 rfl (by kernel_rfl) (Nat.le_of_ble_eq_true rfl) (by decide) rfl pre_none ?_
  rintro G hG K hK W bi bc bs bk bu bb bo bg bl bp bn be Ncond Nob Nop Nloop Nscope hN Nfin hf _ _
  cbv
  refine op_ hN (call_ (must_spec s a tv 34 hs) hG [0] rfl rfl rfl rfl rfl ?_)
  refine ⟨fun hi => ?_, fun hi => ?_⟩
  · cbv
    refine op_ hN (inline_ BB_ok (tb := ty) rfl pl180 Tryz.call180 Tryz.func180 rfl (by kernel_rfl) (Nat.le_of_ble_eq_true rfl) ?_)
    intro W2 bi2 bc2 bs2 bk2 bu2 bb2 bo2 bg2 bl2 bp2 bn2 be2 Ncond2 Nob2 Nop2 Nloop2 Nscope2 hN2
    cbv
    clear hN2
    refine loopN_ hN (loop_ hN ty_ok mixed (ι := Nat × Qt) (fun y => ⟨[(0, .ptr 0 0), (3, .ptr 1 0)], [rowc 0 s y.1 tv, .abs (.qt y.2) [1]], 2⟩) (fun y => y.1 ≤ s.size ∧ quotGo s y.2 y.1 = quotGo s qt0 (a + 1)) (fun y => s.size - y.1) ?_ ?_)
    · refine leads_noArr true 2 3 5 encB [] rfl ?_
      refine leads_cput 1 [.vec false 2 1 0 0 0, .bool false, .int .i64 (Int.ofNat 0), .int .i64 0, .bool false] rfl (fun _ => rfl) ?_
      refine leads_close rfl (.qt qt0) [1] [2] _ ⟨false, 0, 0, 0, [], ⟨fun _ => rfl, Nat.le_refl _, Nat.le_refl _, rfl⟩, ⟨Nat.zero_le _, Nat.zero_le _⟩, rfl⟩ rfl ?_
      exact Leads.idx (a + 1, qt0) [1] ⟨by simp [isB] at hi; exact hi.1, rfl⟩ ⟨⟨rfl, rfl, trivial⟩, rfl, Nat.le_of_ble_eq_true rfl⟩
    rintro ⟨k, q⟩ ⟨hk1, hk2⟩ Nnext hn _
    simp only at hk1 hk2
    cbv
    refine op_ hN (call_ (more_spec s k tv) hG [0] rfl rfl rfl rfl rfl ?_)
    intro m hm
    cases m with
    | false =>
      cbv
      refine cond_ hN (fun h => by simp at h) (fun _ => ?_)
      cbv
      refine op_ hN (call_ (bad_spec s k tv) hG [0] rfl rfl rfl rfl rfl ?_)
      cbv
      refine hf _ _ (fin_ [] rfl rfl ((hK k 2 q.bytes ?_).2 (by decide)))
      simp only [quotR]; rw [if_pos hi, ← hk2, quotGo, dif_neg (by simpa using hm.symm)]
    | true =>
      have hlt : k < s.size := by simpa using hm.symm
      have hob : obsP [.inb (Int.ofNat k) (bn s)] := ⟨⟨by simp, by rw [len_eq hN]; simp; exact hlt⟩, trivial⟩
      have hbb : bb s (Int.ofNat k) = (((s.data[k]'hlt).toNat : Nat) : Int) := by
        rw [bb_ hN]; simp only [bt, Int.ofNat_eq_natCast, Int.toNat_natCast]
        rw [Array.getD_eq_getD_getElem?, Array.getElem?_eq_getElem hlt]; rfl
      have hadd : bi .add .i64 (Int.ofNat k) 1 = Int.ofNat (k + 1) := inext hN (by omega)
      have hgo : quotGo s qt0 (a + 1) = match qtStep q (bb s (Int.ofNat k)) with
        | ((over, e), q') => if e ≠ 0 then (k, e, q') else if over then (k + 1, 0, q') else quotGo s q' (k + 1) := by
        rw [← hk2, quotGo, dif_pos hlt, hbb]
      cbv
      refine cond_ hN (fun _ => ?_) (fun h => by simp at h)
      cbv
      repeat' (first | refine And.intro ?_ ?_ | exact True.intro | (refine ob_ hN hob ?_; try cbv))
      all_goals
        refine op_ hN (call_ (qt_step_spec' q (bb s (Int.ofNat k)) _ hbb) hG [1] rfl rfl rfl rfl rfl ?_)
        intro r e q' hq
        rw [← hq] at hgo
        simp only at hgo
        cbv
        refine cond_ hN (fun h1 => ?_) (fun h1 => ?_)
        · cbv
          refine op_ hN (call_ (fail_spec e (Int.ofNat k)) hG [] rfl rfl rfl rfl rfl ?_)
          cbv
          rw [cne hN] at h1; simp at h1
          refine hf _ _ (fin_ [] rfl rfl ((hK k e q'.bytes ?_).2 h1))
          simp only [quotR]; rw [if_pos hi, hgo, if_pos h1]
        · rw [cne hN] at h1; simp at h1
          subst h1
          simp only [ne_eq, not_true_eq_false, if_false] at hgo
          cbv
          simp only [hadd]
          refine cond_ hN (fun h2 => ?_) (fun h2 => ?_)
          · cbv
            refine op_ hN (call_ (qt_text_spec q') hG [1] rfl rfl rfl rfl rfl ?_)
            intro t ht
            cbv
            refine hf _ _ (fin_ [] rfl rfl ((hK (k + 1) 0 q'.bytes ?_).1 rfl t ht))
            simp only [quotR]; rw [if_pos hi, hgo, if_pos h2]
          · cbv
            refine hn _ (Leads.nxt (k + 1, q') [1] ⟨hlt, ?_⟩ (by simp only; omega) ⟨⟨rfl, rfl, trivial⟩, rfl, Nat.le_of_ble_eq_true rfl⟩)
            rw [hgo, if_neg (by rw [h2]; decide)]
  · cbv
    refine hf _ _ (fin_ [] rfl rfl ((hK a 2 [] ?_).2 (by decide)))
    simp only [quotR]; rw [if_neg (by rw [hi]; decide)]
end Hx
/- Names on a row: what is computed. -/
namespace Hx
open Go Sx Go.Proofs
set_option maxRecDepth 100000
set_option maxHeartbeats 4000000
set_option linter.unusedVariables false
set_option linter.unusedSimpArgs false
variable {GOk : Gl → Prop}
/-- does a name go on here? f: where it began; p: may it have points? -/
def nameC (s : ByteArray) (f : Nat) (p : Bool) (k : Nat) : Bool :=
  decide (k < s.size) && ((p || !isB s k 46) && (localOk (⟨#[97]⟩ ++ Utf8.encode (bt s (Int.ofNat k))) && (decide (k > f) || localOk (Utf8.encode (bt s (Int.ofNat k))))))
/-- where a name ends; which error (0: none) -/
def nameGo (s : ByteArray) (f : Nat) (p : Bool) (k : Nat) : Nat × Int :=
  if nameC s f p k then (if k - f ≥ 16 then (k, 4) else nameGo s f p (k + 1)) else if k = f then (k, 2) else (k, 0)
 termination_by s.size - k
 decreasing_by
  have h : nameC s f p k = true := by assumption
  simp [nameC] at h; omega
theorem nameGo_le (s : ByteArray) (f : Nat) (p : Bool) (k : Nat) (h : k ≤ s.size) : (nameGo s f p k).1 ≤ s.size ∧ k ≤ (nameGo s f p k).1 := by
  induction k using nameGo.induct s f p with
  | case1 k hc h16 => rw [nameGo, if_pos hc, if_pos h16]; exact ⟨h, Nat.le_refl _⟩
  | case2 k hc h16 ih =>
    rw [nameGo, if_pos hc, if_neg h16]
    have : k < s.size := by simp [nameC] at hc; exact hc.1
    have := ih this
    exact ⟨this.1, by omega⟩
  | case3 hc => rw [nameGo, if_neg hc, if_pos rfl]; exact ⟨h, Nat.le_refl _⟩
  | case4 k hc hk => rw [nameGo, if_neg hc, if_neg hk]; exact ⟨h, Nat.le_refl _⟩
end Hx
/- What outline's machine computes: the model. -/
namespace Hx
open Go Sx Go.Proofs
set_option maxRecDepth 100000
set_option maxHeartbeats 4000000
set_option linter.unusedVariables false
set_option linter.unusedSimpArgs false
variable {GOk : Gl → Prop}
inductive Res (α : Type) where
  | ok (a : α)
  | err (e at_ : Int)
  | ovf
/-- the machine, and the decoder that it tells -/
structure OS where
  m : Mch
  c : Core
/-- what must hold behind a call -/
def PostR {α : Type} (enc : α → SV) (cs : OS → List (Chunk Pd)) (K : Out → List (Chunk Pd) → Prop) : Res α × OS → Prop
  | (.ok a, s) => K (.ret (enc a)) (cs s)
  | (.err e at_, s) => K (.pan (flt e at_)) (cs s)
  | (.ovf, _) => False
abbrev oc (s : OS) : List (Chunk Pd) := [.abs (.mch s.m true) [0, 1], .abs (.core s.c) [1, 0]]
/- anchors -/
def kptDone (k : Kpt) : Bool := k.check.over && k.check.opens.isEmpty
def chkRun (right : Ev → Bool) (c : Chk) (l : List Ev) : Chk := l.foldl (fun c x => (chkStep right c x).2) c
def kptGoes (right : Ev → Bool) (k : Kpt) (x : Ev) : Bool := decide ((chkStep right (chkRun right chk0 k.list) x).1 = 0)
def ancMore (a : Anc) (x : Ev) : Nat := (a.kept.filter fun y => !kptDone y.2).length * (x.text.size + x.val.size + 1)
def ancStep (right : Ev → Bool) (a : Anc) (x : Ev) : Int × Anc :=
  if (a.kept.filter fun y => !kptDone y.2).all (fun y => kptGoes right y.2 x) then
    (if a.size + ancMore a x > 200 then (12, a)
     else (0, { a with size := a.size + ancMore a x, kept := a.kept.map fun y => if kptDone y.2 then y else (y.1, ⟨y.2.list ++ [x], (chkStep right y.2.check x).2⟩) }))
  else (19, a)
def ancHas (l : List (ByteArray × Kpt)) (s : ByteArray) : Option Kpt := (l.find? fun y => decide (y.1 = s)).map (·.2)
def ancOpen (a : Anc) (name : ByteArray) : Int × Anc :=
  if !localOk name then (1, a) else if (ancHas a.kept name).isSome then (6, a) else if a.size + name.size > 200 then (12, a)
  else (0, { a with size := a.size + name.size, kept := a.kept ++ [(name, ⟨[], chk0⟩)] })
def ancGet (a : Anc) (name : ByteArray) : (List Ev × Int) × Anc :=
  match ancHas a.kept name with
  | none => (([], 11), a)
  | some k => if !kptDone k then (([], 11), a) else if a.told + k.list.length > 40 then (([], 13), a) else ((k.list, 0), { a with told := a.told + k.list.length })
/- the machine -/
abbrev OM (α : Type) := OS → Res α × OS
def OM.bind {α β : Type} (x : OM α) (f : α → OM β) : OM β := fun s => match x s with
  | (.ok a, s') => f a s'
  | (.err e a, s') => (.err e a, s')
  | (.ovf, s') => (.ovf, s')
def OM.ret {α : Type} (a : α) : OM α := fun s => (.ok a, s)
def OM.fail {α : Type} (e a : Int) : OM α := fun s => (.err e a, s)
section
variable (right : Ev → Bool)
def saysM (x : Ev) (at_ : Int) : OM Unit := fun s =>
  if (chkStep right s.m.chk x).1 ≠ 0 then (.err (chkStep right s.m.chk x).1 at_, { s with m := { s.m with chk := (chkStep right s.m.chk x).2 } })
  else if (ancStep right s.m.anc x).1 ≠ 0 then (.err (ancStep right s.m.anc x).1 at_, { s with m := { s.m with chk := (chkStep right s.m.chk x).2, anc := (ancStep right s.m.anc x).2 } })
  else if s.c.queue.length ≥ 4294967296 then (.ovf, s)
  else (.ok (), { m := { s.m with chk := (chkStep right s.m.chk x).2, anc := (ancStep right s.m.anc x).2 }, c := { s.c with queue := s.c.queue ++ [x] } })
def ev0 (k : Int) : Ev := ⟨k, ⟨#[]⟩, ⟨#[]⟩⟩
def nothingM (at_ : Int) : OM Unit := fun s =>
  if s.m.waits then saysM right (ev0 1) at_ { s with m := { s.m with waits := false } } else (.ok (), s)
def endsM (at_ : Int) : OM Unit := fun s =>
  match s.m.opn with
  | [] => (.ovf, s)
  | (k, _) :: r => saysM right (ev0 (if k = 7 then 9 else 6)) at_ { s with m := { s.m with opn := r } }
/- on a row: where it goes on -/
def bytesOf (l : List UInt8) : ByteArray := ⟨l.toArray⟩
def mustM (t : ByteArray) (b : Int) (a : Nat) : OM Nat := fun s => if isB t a b then (.ok (a + 1), s) else (.err 2 (Int.ofNat a), s)
def keyM (t : ByteArray) (a : Nat) : OM (Nat × ByteArray) := fun s =>
  if isB t a 34 then (if (quotR t a).2.1 = 0 then (.ok ((quotR t a).1, bytesOf (quotR t a).2.2), s) else (.err (quotR t a).2.1 (Int.ofNat (quotR t a).1), s))
  else (if (nameGo t a true a).2 = 0 then (.ok ((nameGo t a true a).1, subs t (Int.ofNat a) (Int.ofNat (nameGo t a true a).1)), s) else (.err (nameGo t a true a).2 (Int.ofNat (nameGo t a true a).1), s))
/- a number's normal form is told apart -/
variable (numRead : ByteArray → ByteArray × Int)
def numLoop (t : ByteArray) (f : Nat) (k : Nat) : Nat × Int :=
  if k < t.size then (if mayBegin (subs t (Int.ofNat f) (Int.ofNat (k + 1))) then (if k - f ≥ 30 then (k, 4) else numLoop t f (k + 1)) else (k, 0)) else (k, 0)
 termination_by t.size - k
def numberR (t : ByteArray) (a : Nat) : Nat × Int × ByteArray :=
  if (numLoop t a a).2 ≠ 0 then ((numLoop t a a).1, (numLoop t a a).2, ⟨#[]⟩)
  else if mayIs (subs t (Int.ofNat a) (Int.ofNat (numLoop t a a).1)) then ((numLoop t a a).1, (numRead (subs t (Int.ofNat a) (Int.ofNat (numLoop t a a).1))).2, (numRead (subs t (Int.ofNat a) (Int.ofNat (numLoop t a a).1))).1)
  else ((numLoop t a a).1, 2, ⟨#[]⟩)
def wNull : ByteArray := ⟨#[110, 117, 108, 108]⟩
def wTrue : ByteArray := ⟨#[116, 114, 117, 101]⟩
def wFalse : ByteArray := ⟨#[102, 97, 108, 115, 101]⟩
/-- a scalar: none, or where it ends, which error, what it says -/
def scalarR (t : ByteArray) (a : Nat) (null : Bool) : Option (Nat × Int × Ev) :=
  if a < t.size then
    (if bt t (Int.ofNat a) = 34 then some ((quotR t a).1, (quotR t a).2.1, ⟨4, bytesOf (quotR t a).2.2, ⟨#[]⟩⟩)
     else if bt t (Int.ofNat a) = 45 ∨ (bt t (Int.ofNat a) ≥ 48 ∧ bt t (Int.ofNat a) ≤ 57) then some ((numberR numRead t a).1, (numberR numRead t a).2.1, ⟨3, (numberR numRead t a).2.2, ⟨#[]⟩⟩)
     else if bt t (Int.ofNat a) = 110 ∧ null = true then some ((wordGo t wNull.data.toList a).1, if (wordGo t wNull.data.toList a).2 then 0 else 2, ev0 1)
     else if bt t (Int.ofNat a) = 116 then some ((wordGo t wTrue.data.toList a).1, if (wordGo t wTrue.data.toList a).2 then 0 else 2, ⟨2, wTrue, ⟨#[]⟩⟩)
     else if bt t (Int.ofNat a) = 102 then some ((wordGo t wFalse.data.toList a).1, if (wordGo t wFalse.data.toList a).2 then 0 else 2, ⟨2, wFalse, ⟨#[]⟩⟩)
     else none)
  else none
def saysL (l : List Ev) (at_ : Int) : OM Unit :=
  match l with
  | [] => OM.ret ()
  | x :: r => OM.bind (saysM right x at_) fun _ => saysL r at_
/-- a reference -/
def refM (t : ByteArray) (a : Nat) : OM Nat := fun s =>
  if (nameGo t (a + 1) true (a + 1)).2 ≠ 0 then (.err (nameGo t (a + 1) true (a + 1)).2 (Int.ofNat (nameGo t (a + 1) true (a + 1)).1), s)
  else match ancGet s.m.anc (subs t (Int.ofNat (a + 1)) (Int.ofNat (nameGo t (a + 1) true (a + 1)).1)) with
    | ((l, e), anc') => if e ≠ 0 then (.err e (Int.ofNat (nameGo t (a + 1) true (a + 1)).1 - 1), { s with m := { s.m with anc := anc' } })
      else OM.bind (saysL right l (Int.ofNat (nameGo t (a + 1) true (a + 1)).1 - 1)) (fun _ => OM.ret (nameGo t (a + 1) true (a + 1)).1) { s with m := { s.m with anc := anc' } }
mutual
/-- a flow value -/
def flowM (t : ByteArray) : Nat → Nat → OM Nat
  | 0, _ => fun s => (.ovf, s)
  | n + 1, a =>
    if isB t a 42 then refM right t a
    else if isB t a 91 then rowM t n a 5 93 6
    else if isB t a 123 then rowM t n a 7 125 9
    else match scalarR numRead t a true with
      | none => OM.fail 2 (Int.ofNat a)
      | some (k, e, x) => if e ≠ 0 then OM.fail e (Int.ofNat k) else OM.bind (saysM right x (Int.ofNat k - 1)) fun _ => OM.ret k
/-- a flow list, or map -/
def rowM (t : ByteArray) : Nat → Nat → Int → Int → Int → OM Nat
  | 0, _, _, _, _ => fun s => (.ovf, s)
  | n + 1, a, kind, last, fin =>
    OM.bind (saysM right (ev0 kind) (Int.ofNat a)) fun _ =>
    OM.bind (if isB t (blanks t (a + 1)) last then OM.ret (blanks t (a + 1)) else rowGo t n (blanks t (a + 1)) kind last) fun k =>
    OM.bind (saysM right (ev0 fin) (Int.ofNat k)) fun _ => OM.ret (k + 1)
/-- its elements, up to its end -/
def rowGo (t : ByteArray) : Nat → Nat → Int → Int → OM Nat
  | 0, _, _, _ => fun s => (.ovf, s)
  | n + 1, a, kind, last =>
    OM.bind (if kind = 7 then
        OM.bind (fun s => if (quotR t a).2.1 = 0 then (.ok ((quotR t a).1, bytesOf (quotR t a).2.2), s) else (.err (quotR t a).2.1 (Int.ofNat (quotR t a).1), s)) fun kl =>
        OM.bind (saysM right ⟨8, kl.2, ⟨#[]⟩⟩ (Int.ofNat kl.1 - 1)) fun _ =>
        OM.bind (mustM t 58 (blanks t kl.1)) fun k => OM.ret (blanks t k)
      else OM.ret a) fun a1 =>
    OM.bind (flowM t n a1) fun a2 =>
    if isB t (blanks t a2) last then OM.ret (blanks t a2)
    else OM.bind (mustM t 44 (blanks t a2)) fun a3 => rowGo t n (blanks t a3) kind last
 end
def flowA (t : ByteArray) (a : Nat) : OM Nat := flowM right numRead t (4 * (t.size + 2 - a)) a
def waitsM (a : Nat) : OM Nat := fun s => (.ok a, { s with m := { s.m with waits := true } })
def anchorM (t : ByteArray) (a : Nat) : OM Nat := fun s =>
  if (nameGo t (a + 1) true (a + 1)).2 ≠ 0 then (.err (nameGo t (a + 1) true (a + 1)).2 (Int.ofNat (nameGo t (a + 1) true (a + 1)).1), s)
  else match ancOpen s.m.anc (subs t (Int.ofNat (a + 1)) (Int.ofNat (nameGo t (a + 1) true (a + 1)).1)) with
    | (e, anc') => if e ≠ 0 then (.err e (Int.ofNat (nameGo t (a + 1) true (a + 1)).1 - 1), { s with m := { s.m with anc := anc' } })
      else (if (nameGo t (a + 1) true (a + 1)).1 < t.size then OM.bind (mustM t 32 (nameGo t (a + 1) true (a + 1)).1) (fun k => OM.ret (blanks t k)) else OM.ret (nameGo t (a + 1) true (a + 1)).1) { s with m := { s.m with anc := anc' } }
def partT (t : ByteArray) (must : Bool) (a1 : Nat) : OM Nat :=
  if a1 < t.size then
    OM.bind (flowA right numRead t a1) fun a2 => if blanks t a2 < t.size then OM.fail 2 (Int.ofNat (blanks t a2)) else OM.ret (blanks t a2)
  else if must then OM.fail 2 (Int.ofNat a1) else waitsM a1
def partM (t : ByteArray) (a : Nat) (must : Bool) : OM Nat :=
  OM.bind (if isB t (blanks t a) 38 then anchorM t (blanks t a) else OM.ret (blanks t a)) (partT right numRead t must)
def behindM (t : ByteArray) (a : Nat) : OM Nat :=
  if a < t.size then OM.bind (mustM t 32 a) fun k => partM right numRead t k false else waitsM a
def itemM (t : ByteArray) (a : Nat) : OM Nat := OM.bind (mustM t 45 a) fun k => behindM right numRead t k
def fieldM (t : ByteArray) (a : Nat) : OM Nat :=
  OM.bind (keyM t a) fun kl =>
  OM.bind (saysM right ⟨8, kl.2, ⟨#[]⟩⟩ (Int.ofNat kl.1 - 1)) fun _ =>
  OM.bind (mustM t 58 (blanks t kl.1)) fun k => behindM right numRead t k
def isItemS (s : ByteArray) : Bool := decide (s = ⟨#[45]⟩) || Lib.hasPrefix s.data.toList [45, 32]
def isItemB (t : ByteArray) (a : Nat) : Bool := isItemS (subs t (Int.ofNat a) (Int.ofNat t.size))
def opensM (t : ByteArray) (a stands : Nat) : OM Unit := fun s =>
  if !isItemB t a && (decide (bt t (Int.ofNat a) ≠ 34) && !localOk (Utf8.encode (bt t (Int.ofNat a)))) then (.err 2 (Int.ofNat a), s)
  else if s.m.opn.length ≥ 1000 then (.ovf, s)
  else OM.bind (saysM right (ev0 (if isItemB t a then 5 else 7)) (Int.ofNat a)) (fun _ s => if s.m.opn.length ≥ 1000 then (.ovf, s) else (.ok (), { s with m := { s.m with opn := (if isItemB t a then 5 else 7, stands) :: s.m.opn } })) s
/-- is a line a field? -/
def isFieldM (t : ByteArray) (a : Nat) : OM Bool :=
  if isB t a 34 then
    OM.bind (keyM t a) fun kl => if isB t (blanks t kl.1) 58 then OM.ret true else
      OM.ret false
  else if localOk (Utf8.encode (bt t (Int.ofNat a))) then
    OM.bind (keyM t a) fun kl => if isB t (blanks t kl.1) 58 then OM.ret true
      else if kl.2 = wNull ∨ kl.2 = wTrue ∨ kl.2 = wFalse then OM.ret false else OM.fail 2 (Int.ofNat kl.1)
  else OM.ret false
def firstM (t : ByteArray) (a : Nat) : OM Nat :=
  if isItemS t then OM.bind (opensM right t a 0) fun _ => itemM right numRead t a
  else OM.bind (isFieldM t a) fun b => if b then OM.bind (opensM right t a 0) fun _ => fieldM right numRead t a else partM right numRead t a true
def chkDone (c : Chk) : Bool := c.over && c.opens.isEmpty
def endsTo (stands : Nat) : Nat → OM Unit
  | 0 => fun s => (.ovf, s)
  | n + 1 => fun s => match s.m.opn with
    | [] => (.ok (), s)
    | (_, k) :: _ => if k > stands then OM.bind (endsM right (Int.ofNat stands)) (fun _ => endsTo stands n) s else (.ok (), s)
def placeM (t : ByteArray) (a stands : Nat) : OM Unit := fun s =>
  match s.m.opn with
  | [] => if chkDone s.m.chk then (.err 2 (Int.ofNat stands), s) else if stands > 0 then (.err 10 (Int.ofNat stands), s) else (.ok (), s)
  | (_, last) :: _ =>
    if stands > last then (if !s.m.waits || decide (stands ≠ last + 2) then (.err 10 (Int.ofNat stands), s) else opensM right t a stands { s with m := { s.m with waits := false } })
    else OM.bind (nothingM right (Int.ofNat stands)) (fun _ => OM.bind (endsTo right stands (s.m.opn.length + 1)) fun _ s =>
      match s.m.opn with
      | [] => (.err 10 (Int.ofNat stands), s)
      | (_, k) :: _ => if k = stands then (.ok (), s) else (.err 10 (Int.ofNat stands), s)) s
/-- how many blanks a line begins with; does it say something? -/
def cutR (t : ByteArray) : Nat × Bool := (blanks t 0, decide (blanks t 0 < t.size) && decide (bt t (Int.ofNat (blanks t 0)) ≠ 35))
def lineM (t : ByteArray) : OM Unit :=
  if (cutR t).2 then
    OM.bind (placeM right t (cutR t).1 (cutR t).1) fun _ s => match s.m.opn with
      | [] => OM.bind (firstM right numRead t (cutR t).1) (fun _ => OM.ret ()) s
      | (k, _) :: _ => if k = 5 then OM.bind (itemM right numRead t (cutR t).1) (fun _ => OM.ret ()) s else OM.bind (fieldM right numRead t (cutR t).1) (fun _ => OM.ret ()) s
  else OM.ret ()
 end
end Hx
/- outline.machine.says, nothing, ends: the walks. -/
namespace Hx
open Go Sx Go.Proofs
set_option maxRecDepth 100000
set_option maxHeartbeats 4000000
set_option linter.unusedVariables false
set_option linter.unusedSimpArgs false
variable {GOk : Gl → Prop}
/-- what is known of the functions below: which events are right, how anchors keep -/
structure Below (GOk : Gl → Prop) (right : Ev → Bool) : Prop where
  rgt : ∀ x, okE x → Triple (BB Ip GOk) 17 0 0 [.agg [.int .i64 x.kind, .str x.text, .str x.val]] [] (fun K => ∀ b, b = right x → K (.ret (.bool b)) [])
  anc : ∀ a x, okE x → Triple (BB Ip GOk) 162 1 1 [.ptr 0 0, .agg [.int .i64 x.kind, .str x.text, .str x.val]] [.abs (.anc a) [0]] (fun K => ∀ e a', (e, a') = ancStep right a x → K (.ret (.int .i64 e)) [.abs (.anc a') [0]])
  opn : ∀ a name, name.size < 1099511627776 → Triple (BB Ip GOk) 177 1 1 [.ptr 0 0, .str name] [.abs (.anc a) [0]] (fun K => ∀ e a', (e, a') = ancOpen a name → K (.ret (.int .i64 e)) [.abs (.anc a') [0]])
  get : ∀ a name, Triple (BB Ip GOk) 186 1 2 [.ptr 0 0, .str name] [.abs (.anc a) [0]] (fun K => ∀ l e a', ((l, e), a') = ancGet a name → (∀ x ∈ l, okE x) → ∀ p lo len cap xs, VecOk p lo len cap xs l → K (.ret (.tuple [.vec p 1 3 lo len cap, .int .i64 e])) [.abs (.anc a') [0], .arr p true 1 44 encE xs])
variable {right : Ev → Bool}
theorem step_spec' (hb : Below GOk right) (c : Chk) (x : Ev) (hx : okE x) : Triple (BB Ip GOk) 11 1 1 [.ptr 0 0, .agg [.int .i64 x.kind, .str x.text, .str x.val]] [.abs (.chk c) [0]]
      (fun K => ∀ e c', (e, c') = chkStep right c x → K (.ret (.int .i64 e)) [.abs (.chk c') [0]]) := by
  cases h : c.opens with
  | nil => exact step_none right c x (hb.rgt x hx) h
  | cons o r => exact step_some right c x (hb.rgt x hx) o r h
theorem says_spec (hb : Below GOk right) (s : OS) (x : Ev) (at_ : Int) (hx : okE x) : Triple (BB Ip GOk) 156 2 2 [.ptr 0 0, .agg [.int .i64 x.kind, .str x.text, .str x.val], .int .i64 at_] (oc s)
    (fun K => PostR (fun _ => .tuple []) oc K (saysM right x at_ s)) := by
  obtain ⟨⟨ahead, line, chk, anc, opn, waits⟩, core⟩ := s
  obtain ⟨kind, text, val⟩ := x
  refine triple_of BB_ok (tb := ty) rfl (n0 := 6) (fun y : {cs' // Tm (.mch ⟨ahead, line, chk, anc, opn, waits⟩ true) cs'} => csRen (sg [0, 1] 2) y.1 ++ [.abs (.core core) [1, 0]]) pl156 Tryz.call156 Tryz.func156 rfl (by kernel_rfl) (Nat.le_of_ble_eq_true rfl) (by decide) rfl (pre_open rfl rfl rfl) ?_
  rintro G hG K hK W bi bc bs bk bu bb bo bg bl bp bn be Ncond Nob Nop Nloop Nscope hN Nfin hf _ ⟨cs', hT⟩
  obtain ⟨p, lo, len, cap, xs, q, lo2, len2, cap2, ys, tl, hv1, hv2, hl, htl, -, rfl⟩ := id hT
  obtain rfl := htl rfl
  simp only at hv1 hv2 hl
  have hmc : ∀ chk' anc', Tm (.mch ⟨ahead, line, chk', anc', opn, waits⟩ true) [.cells 0 55 [.int .i64 (Int.ofNat ahead), .vec p 2 1 lo len cap, .ptr 4 0, .ptr 5 0, .vec q 3 2 lo2 len2 cap2, .bool waits, .fn (.func 25) [.ptr 1 0] []], .arr p true 2 5 encB xs, .arr q true 3 224 encK ys, .abs (.chk chk') [4], .abs (.anc anc') [5]] :=
    fun chk' anc' => ⟨p, lo, len, cap, xs, q, lo2, len2, cap2, ys, _, hv1, hv2, hl, fun _ => rfl, (fun h => nomatch h), rfl⟩
  cbv
  repeat' (first | exact True.intro | with_reducible refine dup ?_ | refine And.intro ?_ ?_)
  all_goals
    refine op_ hN (call_ (step_spec' hb chk ⟨kind, text, val⟩ hx) hG [4] rfl rfl rfl rfl rfl ?_)
    intro e chk' he
    cbv
    refine cond_ hN (fun h1 => ?_) (fun h1 => ?_)
    · rw [cne hN] at h1; simp at h1
      have hm : saysM right ⟨kind, text, val⟩ at_ ⟨⟨ahead, line, chk, anc, opn, waits⟩, core⟩ = (.err e at_, ⟨⟨ahead, line, chk', anc, opn, waits⟩, core⟩) := by
        simp only [saysM]; rw [← he, if_pos h1]
      rw [hm] at hK
      cbv
      refine op_ hN (call_ (fail_spec e at_) hG [] rfl rfl rfl rfl rfl ?_)
      cbv
      exact hf _ _ (fin_close rfl (.mch ⟨ahead, line, chk', anc, opn, waits⟩ true) [0, 1] [2, 3, 4, 5] _ (hmc chk' anc) rfl (fin_ [] rfl rfl hK))
    · rw [cne hN] at h1; simp at h1
      subst h1
      cbv
      repeat' (first | exact True.intro | with_reducible refine dup ?_ | refine And.intro ?_ ?_)
      all_goals
        refine op_ hN (call_ (hb.anc anc ⟨kind, text, val⟩ hx) hG [5] rfl rfl rfl rfl rfl ?_)
        intro e2 anc' he2
        cbv
        refine cond_ hN (fun h1 => ?_) (fun h1 => ?_)
        · rw [cne hN] at h1; simp at h1
          have hm : saysM right ⟨kind, text, val⟩ at_ ⟨⟨ahead, line, chk, anc, opn, waits⟩, core⟩ = (.err e2 at_, ⟨⟨ahead, line, chk', anc', opn, waits⟩, core⟩) := by
            simp only [saysM]; rw [← he, ← he2, if_neg (by simp), if_pos h1]
          rw [hm] at hK
          cbv
          refine op_ hN (call_ (fail_spec e2 at_) hG [] rfl rfl rfl rfl rfl ?_)
          cbv
          exact hf _ _ (fin_close rfl (.mch ⟨ahead, line, chk', anc', opn, waits⟩ true) [0, 1] [2, 3, 4, 5] _ (hmc chk' anc') rfl (fin_ [] rfl rfl hK))
        · rw [cne hN] at h1; simp at h1
          subst h1
          by_cases hq : core.queue.length ≥ 4294967296
          · have hm : saysM right ⟨kind, text, val⟩ at_ ⟨⟨ahead, line, chk, anc, opn, waits⟩, core⟩ = (.ovf, ⟨⟨ahead, line, chk, anc, opn, waits⟩, core⟩) := by
              simp only [saysM]; rw [← he, ← he2, if_neg (by simp), if_neg (by simp), if_pos hq]
            rw [hm] at hK
            exact hK.elim
          · have hm : saysM right ⟨kind, text, val⟩ at_ ⟨⟨ahead, line, chk, anc, opn, waits⟩, core⟩ = (.ok (), ⟨⟨ahead, line, chk', anc', opn, waits⟩, { core with queue := core.queue ++ [⟨kind, text, val⟩] }⟩) := by
              simp only [saysM]; rw [← he, ← he2, if_neg (by simp), if_neg (by simp), if_neg hq]
            rw [hm] at hK
            generalize hc2 : ({ core with queue := core.queue ++ [⟨kind, text, val⟩] } : Core) = core2 at hK
            cbv
            repeat' (first | exact True.intro | with_reducible refine dup ?_ | refine And.intro ?_ ?_)
            all_goals
              refine op_ hN (call_ (tell_spec core ⟨kind, text, val⟩ (by omega)) hG [1, 0] rfl rfl rfl rfl rfl ?_)
              rw [hc2]
              cbv
              repeat' (first | exact True.intro | with_reducible refine dup ?_ | refine And.intro ?_ ?_)
              all_goals
                exact hf _ _ (fin_close rfl (.mch ⟨ahead, line, chk', anc', opn, waits⟩ true) [0, 1] [2, 3, 4, 5] _ (hmc chk' anc') rfl (fin_ [] rfl rfl hK))
theorem okE0 (k : Int) (h : k ≠ 10) (h2 : k ≠ 11) : okE (ev0 k) := ⟨Nat.le_of_ble_eq_true rfl, Nat.le_of_ble_eq_true rfl, h, h2⟩
theorem nothing_spec (hb : Below GOk right) (s : OS) (at_ : Int) : Triple (BB Ip GOk) 153 2 2 [.ptr 0 0, .int .i64 at_] (oc s)
    (fun K => PostR (fun _ => .tuple []) oc K (nothingM right at_ s)) := by
  obtain ⟨⟨ahead, line, chk, anc, opn, waits⟩, core⟩ := s
  refine triple_of BB_ok (tb := ty) rfl (n0 := 6) (fun y : {cs' // Tm (.mch ⟨ahead, line, chk, anc, opn, waits⟩ true) cs'} => csRen (sg [0, 1] 2) y.1 ++ [.abs (.core core) [1, 0]]) pl153 Tryz.call153 Tryz.func153 rfl (by kernel_rfl) (Nat.le_of_ble_eq_true rfl) (by decide) rfl (pre_open rfl rfl rfl) ?_
  rintro G hG K hK W bi bc bs bk bu bb bo bg bl bp bn be Ncond Nob Nop Nloop Nscope hN Nfin hf _ ⟨cs', hT⟩
  obtain ⟨p, lo, len, cap, xs, q, lo2, len2, cap2, ys, tl, hv1, hv2, hl, htl, -, rfl⟩ := id hT
  obtain rfl := htl rfl
  simp only at hv1 hv2 hl
  have hmc : ∀ w, Tm (.mch ⟨ahead, line, chk, anc, opn, w⟩ true) [.cells 0 55 [.int .i64 (Int.ofNat ahead), .vec p 2 1 lo len cap, .ptr 4 0, .ptr 5 0, .vec q 3 2 lo2 len2 cap2, .bool w, .fn (.func 25) [.ptr 1 0] []], .arr p true 2 5 encB xs, .arr q true 3 224 encK ys, .abs (.chk chk) [4], .abs (.anc anc) [5]] :=
    fun w => ⟨p, lo, len, cap, xs, q, lo2, len2, cap2, ys, _, hv1, hv2, hl, fun _ => rfl, (fun h => nomatch h), rfl⟩
  cbv
  cases waits with
  | false =>
    refine cond_ hN (fun h => by simp at h) (fun _ => ?_)
    cbv
    exact hf _ _ (fin_close rfl (.mch ⟨ahead, line, chk, anc, opn, false⟩ true) [0, 1] [2, 3, 4, 5] _ (hmc false) rfl (fin_ [] rfl rfl hK))
  | true =>
    refine cond_ hN (fun _ => ?_) (fun h => by simp at h)
    cbv
    refine op_ hN (op_cput 0 [.int .i64 (Int.ofNat ahead), .vec p 2 1 lo len cap, .ptr 4 0, .ptr 5 0, .vec q 3 2 lo2 len2 cap2, .bool false, .fn (.func 25) [.ptr 1 0] []] rfl (fun _ => rfl) (op_close rfl (.mch ⟨ahead, line, chk, anc, opn, false⟩ true) [0, 1] [2, 3, 4, 5] _ (hmc false) rfl rfl (call_ (says_spec hb ⟨⟨ahead, line, chk, anc, opn, false⟩, core⟩ (ev0 1) at_ (okE0 1 (by decide) (by decide))) hG [0, 1] rfl rfl rfl rfl rfl ?_)))
    have hm : nothingM right at_ ⟨⟨ahead, line, chk, anc, opn, true⟩, core⟩ = saysM right (ev0 1) at_ ⟨⟨ahead, line, chk, anc, opn, false⟩, core⟩ := rfl
    rw [hm] at hK
    generalize saysM right (ev0 1) at_ ⟨⟨ahead, line, chk, anc, opn, false⟩, core⟩ = y at hK ⊢
    obtain ⟨r, s'⟩ := y
    cases r with
    | ok a => cbv; exact hf _ _ (fin_ [] rfl rfl hK)
    | err e a => cbv; exact hf _ _ (fin_ [] rfl rfl hK)
    | ovf => exact hK.elim
end Hx
/- names.Local tells whether a text is a local name: the walk. -/
namespace Hx
open Go Sx Go.Proofs
set_option maxHeartbeats 4000000
set_option maxRecDepth 100000
set_option linter.unusedVariables false
set_option linter.unusedSimpArgs false
variable {Pd : Type} {I : Pd → List Nat → HP} {GOk : Gl → Prop}
theorem local_spec (s : ByteArray) : Triple (BB I GOk) 35 0 0 [.str s] [] (fun K => ∀ b, b = localOk s → K (.ret (.bool b)) []) := by
  refine triple_of BB_ok (tb := ty) rfl (n0 := 0) (fun _ : Unit => _) pl35 Tryz.call35 Tryz.func35 rfl (by kernel_rfl) (Nat.le_of_ble_eq_true rfl) (by decide) rfl pre_none ?_
  intro G hG K hK W bi bc bs bk bu bb bo bg bl bp bn be Ncond Nob Nop Nloop Nscope hN Nfin hf _ _
  cbv
  have finb : ∀ b cs, localOk s = b → Nfin (.ret (.bool b)) cs := fun b cs h => hf _ _ (fin_ [] (out' := .ret (.bool b)) rfl rfl (hK _ h.symm))
  have fint : ∀ cs, localOk s = true → Nfin (.ret .tt) cs := fun cs h => hf _ _ (fin_as (.bool true) (fun _ => rfl) (fin_ [] (out' := .ret (.bool true)) rfl rfl (hK _ h.symm)))
  have finf : ∀ cs, localOk s = false → Nfin (.ret .ff) cs := fun cs h => hf _ _ (fin_as (.bool false) (fun _ => rfl) (fin_ [] (out' := .ret (.bool false)) rfl rfl (hK _ h.symm)))
  refine cond_ hN (fun h1 => ?_) (fun h1 => ?_)
  · cbv
    refine finf _ ?_
    rw [seq_eq hN] at h1; simp at h1; subst h1; rfl
  · cbv
    refine cond_ hN (fun h2 => ?_) (fun h2 => ?_)
    · cbv
      refine finf _ ?_
      rw [cgt hN, len_eq hN] at h2; simp at h2
      simp only [localOk]; rw [if_pos (.inr (by omega))]
    · cbv
      refine op_ hN (str_bytes ty_ok rfl rfl rfl rfl rfl rfl rfl ?_)
      intro m cap xs hm hcap hmc hxs
      cbv
      rw [seq_eq hN] at h1; rw [cgt hN, len_eq hN] at h2; simp at h1 h2
      have hloc : localOk s = localGo 0 s.data.toList := by
        have : ¬ (s.size = 0 ∨ s.size > 16) := by
          rintro (h | h)
          · exact h1 (by obtain ⟨⟨l⟩⟩ := s; cases l with | nil => rfl | cons a r => simp [ByteArray.size] at h)
          · omega
        rw [localOk, if_neg this]
      have hm16 : m ≤ 16 := by omega
      refine loopN_ hN (loop_ hN ty_ok mixed (ι := Nat) (fun k => ⟨[(15, .vec true 0 1 0 m cap), (16, .int .i64 m), (17, .int .i64 k)], [.arr true true 0 5 encB xs], 1⟩) (fun k => k ≤ m ∧ localGo k (s.data.toList.drop k) = localGo 0 s.data.toList) (fun k => m - k) (Leads.idx 0 [0] ⟨Nat.zero_le _, rfl⟩ ⟨⟨rfl, rfl, rfl, trivial⟩, rfl, Nat.le_of_ble_eq_true rfl⟩) ?_)
      intro k hk Nnext hn _
      cbv
      refine cond_ hN (fun h3 => ?_) (fun h3 => ?_)
      · cbv
        have h3' : k < m := by rw [clt hN] at h3; simpa using h3
        refine ob_ hN ⟨⟨by simp, by simpa using h3'⟩, rfl, trivial⟩ ?_
        cbv
        refine op_ hN (load_byte ty_ok rfl rfl rfl rfl (by rw [plus0 hN]; omega) ?_)
        intro x b hx hb
        rw [plus0 hN] at hx
        have hdrop : s.data.toList.drop k = x :: s.data.toList.drop (k + 1) := by
          rw [← hxs, List.drop_take, List.drop_take]
          have hlt : k < xs.length := by omega
          rw [List.drop_eq_getElem_cons hlt, show m - k = (m - (k + 1)) + 1 by omega, List.take_succ_cons]
          rw [List.getElem?_eq_getElem hlt] at hx
          simp at hx; rw [hx]
        have hstep : localGo k (s.data.toList.drop k) = (if (!((bc .geq (bi .or .u8 b 32) 97 && bc .leq (bi .or .u8 b 32) 122) || bc .eql b 95)) && (bc .eql (Int.ofNat k) 0 || !(((bc .geq b 48 && bc .leq b 57) || bc .eql b 45) || bc .eql b 46)) then false else localGo (k + 1) (s.data.toList.drop (k + 1))) := by
          rw [hdrop]; subst hb; rw [bi_ hN, bc_ hN]
          simp only [localGo, letterB, moreB, bitC]
          congr 2
          cases k <;> simp <;> rfl
        clear hdrop hb hx
        cbv
        have fin1 : ∀ s' : St Pd, s'.cs = [.arr true true 0 5 encB xs] → eget s'.env 15 = some (.vec true 0 1 0 m cap) → eget s'.env 16 = some (.int .i64 m) → eget s'.env 17 = some (.int .i64 (bi .add .i64 (Int.ofNat k) (Int.ofNat 1))) → Nat.ble 0 s'.n = true → localGo k (s.data.toList.drop k) = localGo (k + 1) (s.data.toList.drop (k + 1)) → Nnext s' := by
          intro s' c1 c2 c3 c4 cn c5
          refine hn _ (Leads.nxt (k + 1) [0] ⟨h3', c5 ▸ hk.2⟩ (by omega) ⟨⟨c2, c3, ?_, trivial⟩, by rw [c1]; rfl, Nat.le_of_ble_eq_true cn⟩)
          rw [c4, inext hN (by omega)]; rfl
        have fin2 : ∀ cs, localGo k (s.data.toList.drop k) = false → Nfin (.ret .ff) cs := fun cs c => finf _ (by rw [hloc, ← hk.2, c])
        repeat' (refine cond_ hN (fun _ => ?_) (fun _ => ?_) <;> cbv)
        all_goals
          rcases Bool.eq_false_or_eq_true (bc .eql b 95) with h95 | h95 <;> rcases Bool.eq_false_or_eq_true (bc .eql b 46) with h46 | h46 <;> (try simp only [h95, reduceCtorEq] at *) <;> (try simp only [h46, reduceCtorEq] at *) <;> first
            | (refine fin1 _ rfl rfl rfl rfl rfl (hstep.trans ?_); simp only [*, Bool.true_and, Bool.and_true, Bool.false_and, Bool.and_false, Bool.true_or, Bool.or_true, Bool.false_or, Bool.or_false, Bool.not_true, Bool.not_false, Bool.false_eq_true, if_true, if_false]; done)
            | (refine fin2 _ (hstep.trans ?_); simp only [*, Bool.true_and, Bool.and_true, Bool.false_and, Bool.and_false, Bool.true_or, Bool.or_true, Bool.false_or, Bool.or_false, Bool.not_true, Bool.not_false, Bool.false_eq_true, if_true, if_false]; done)
      · cbv
        refine fint _ ?_
        rw [clt hN] at h3; simp at h3
        have : k = m := by omega
        rw [hloc, ← hk.2, this, List.drop_eq_nil_of_le (by rw [hm]; exact Nat.le_refl _)]
        rfl
end Hx
