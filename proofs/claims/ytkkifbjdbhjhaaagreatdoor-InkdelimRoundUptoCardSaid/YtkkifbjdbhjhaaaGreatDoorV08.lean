/-
  Part of a proof.
-/
import Derived.Test.YtkkifbjdbhjhaaaGreatDoorV07
import Derived.Test.YtkkifbjdbhjhaaaGreatDoorV04
import Derived.Calls
set_option linter.unusedVariables false
set_option linter.unusedSimpArgs false
/- The base of the walks; and what the functions of 'names' and 'num' compute. -/
namespace Hx
open Go Sx
noncomputable abbrev BB {Pd : Type} (I : Pd → List Nat → HP) (GOk : Gl → Prop) : Base Pd := ⟨P, I, ty, GOk⟩
theorem BB_ok {Pd : Type} {I : Pd → List Nat → HP} {GOk : Gl → Prop} : (BB I GOk).ok := ⟨ty_ok, mixed⟩

def letterB (b : Int) : Bool := (decide (bitI .or .u8 b 32 ≥ 97) && decide (bitI .or .u8 b 32 ≤ 122)) || b == 95
def moreB (b : Int) : Bool := (decide (b ≥ 48) && decide (b ≤ 57)) || b == 45 || b == 46
def localGo : Nat → List UInt8 → Bool
  | _, [] => true
  | i, b :: r => if !letterB (b.toNat : Nat) && (i == 0 || !moreB (b.toNat : Nat)) then false else localGo (i + 1) r
def localOk (s : ByteArray) : Bool := if s.size = 0 ∨ s.size > 16 then false else localGo 0 s.data.toList
end Hx
/- What the objects are, and how they lie in memory. -/
namespace Hx
open Go Sx
structure Ev where
  kind : Int
  text : ByteArray
  val : ByteArray
def okE (x : Ev) : Prop := x.text.size < 1099511627776 ∧ x.val.size < 1099511627776 ∧ (x.kind = 10 ∨ x.kind = 11 → x.text.size < 1100000) ∧ True
def encE (x : Ev) : List Sx.Lit := [.int .i64 x.kind, .str x.text, .str x.val]
theorem wideE : Wide 3 encE := fun _ => rfl
/-- what is open -/
structure Opn where
  kind : Int
  key : Bool
  text : Bool
  full : Bool
  had : List ByteArray
/-- a checker: the innermost is first -/
structure Chk where
  opens : List Opn
  over : Bool
def hadL (l : List ByteArray) : List (Sx.Lit × Sx.Lit) := l.map fun s => (.str s, .bool true)
theorem hadL_keys (l : List ByteArray) : ∀ x ∈ hadL l, keyK .string x.1 := by
  intro x hx
  obtain ⟨s, _, rfl⟩ := List.mem_map.1 hx
  trivial
theorem hadL_mem {l : List ByteArray} {s : ByteArray} {v : Sx.Lit} (h : (Sx.Lit.str s, v) ∈ hadL l) : s ∈ l ∧ v = .bool true := by
  obtain ⟨t, ht, e⟩ := List.mem_map.1 h
  simp only [Prod.mk.injEq, Sx.Lit.str.injEq] at e
  exact ⟨e.1 ▸ ht, e.2.symm⟩
theorem hadL_not {l : List ByteArray} {s : ByteArray} (h : ∀ x ∈ hadL l, x.1 ≠ .str s) : s ∉ l :=
  fun hs => h (.str s, .bool true) (List.mem_map.2 ⟨s, hs, rfl⟩) rfl

/-- a quoted text that is gone through -/
structure Qt where
  bytes : List UInt8
  escape : Bool
  left : Nat
  number : Int
  over : Bool
/-- what is kept under a name -/
structure Kpt where
  list : List Ev
  check : Chk
/-- values under names, in the order in which the names came -/
structure Anc where
  kept : List (ByteArray × Kpt)
  size : Nat
  told : Nat
structure Scan where
  left : Int
  least : Int
  top : Int
/-- a decoder: what is to be told, where it is -/
structure Core where
  scan : Scan
  queue : List Ev
  at_ : Nat
  closed : Bool
  over : Bool
  err : Int
  told : Bool
/-- outline's machine: the innermost block is first -/
structure Mch where
  ahead : Nat
  line : List UInt8
  chk : Chk
  anc : Anc
  opn : List (Int × Nat)
  waits : Bool
/-- sections' machine -/
structure Sec where
  ahead : Nat
  line : List UInt8
  chk : Chk
  place : List (ByteArray × Bool)
  header : List ByteArray
  begun : Bool
/-- names that stand for texts -/
structure Ent where
  own : List (ByteArray × ByteArray)
  size : Nat
  told : Nat
/-- angle's machine; of the scopes the innermost is first -/
structure Ang where
  state : Int
  back : Int
  chk : Chk
  scope : List (List (ByteArray × ByteArray))
  ent : Ent
  token : ByteArray
  text : ByteArray
  rest : ByteArray
  gap : Bool
  opn : List ByteArray
  pairs : List (ByteArray × ByteArray)
/-- delim's machine -/
structure Dlm where
  state : Int
  started : Bool
  row : Bool
  header : List ByteArray
  named : Bool
  cell : List UInt8
  cells : Nat
inductive Pd where
  | dlm (m : Dlm)            -- i, any
  | evl (l : List Ev)        -- i: a slice of events in a variable
  | lk (n : Nat)             -- i: a look, so deep
  | core (c : Core) (tv td : Nat) -- i, the machine's block
  | opn (o : Opn)              -- k: a thing that is open
  | stk (l : List (Nat × Opn)) -- (no block): things that are open, each at its block
  | chk (c : Chk)              -- i
  | chkL (c : Chk)             -- i, k: the innermost one lies at k

/-- a slice's array: what it holds -/
structure VecOk {α : Type} (p : Bool) (lo len cap : Nat) (xs l : List α) : Prop where
  pr : p = false → cap = 0
  room : lo + cap ≤ xs.length
  fits : len ≤ cap
  eq : (xs.drop lo).take len = l
theorem VecOk.length {α : Type} {p : Bool} {lo len cap : Nat} {xs l : List α} (h : VecOk p lo len cap xs l) : l.length = len := by
  have := h.room; have := h.fits
  rw [← h.eq]; simp; omega

def opnC (k m : Nat) (kind : Int) (key text full : Bool) (es : List (Sx.Lit × Sx.Lit)) : List (Chunk Pd) := [.cells k 133 [.int .i64 kind, .bool key, .bool text, .bool full, .map m], .map m es]
def ptrsOf (l : List (Nat × Opn)) : List (Option Nat) := (l.map fun x => some x.1).reverse
def encK (x : Int × Nat) : List Sx.Lit := [.int .i64 x.1, .int .i64 (Int.ofNat x.2)]
theorem wideK : Wide 2 encK := fun _ => rfl
def encS (x : ByteArray) : List Sx.Lit := [.str x]
theorem wideS : Wide 1 encS := fun _ => rfl
def encT (x : ByteArray × Bool) : List Sx.Lit := [.str x.1, .bool x.2]
theorem wideT : Wide 2 encT := fun _ => rfl
def ancL (l : List (ByteArray × Kpt)) (gs : List Nat) : List (Sx.Lit × Sx.Lit) := (l.zip gs).map fun x => (.str x.1.1, .ptr x.2)
/-- a map of texts by texts -/
def bindL (l : List (ByteArray × ByteArray)) : List (Sx.Lit × Sx.Lit) := l.map fun x => (.str x.1, .str x.2)
def encM (x : Option Nat) : List Sx.Lit := [.mref x]
theorem wideM : Wide 1 encM := fun _ => rfl
def encPr (x : ByteArray × ByteArray) : List Sx.Lit := [.str x.1, .str x.2]
theorem widePr : Wide 2 encPr := fun _ => rfl
def refsOf (l : List (Nat × List (ByteArray × ByteArray))) : List (Option Nat) := (l.map fun x => some x.1).reverse
/-- sizes in angle's machine -/
structure AngOk (token text rest : ByteArray) (opn : List ByteArray) (pairs : List (ByteArray × ByteArray)) : Prop where
  tok : token.size ≤ 900000
  txt : text.size ≤ 48
  rst : rest.size ≤ 16
  ol : opn.length ≤ 900000
  pl : pairs.length ≤ 900000
  os : ∀ x ∈ opn, x.size ≤ 900000
  ps : ∀ x ∈ pairs, x.1.size ≤ 900000 ∧ x.2.size ≤ 48
structure EntOk (e : Ent) : Prop where
  size : e.size ≤ 200
  told : e.told ≤ 40
  own : ∀ x ∈ e.own, x.2.size ≤ 200
  nd : (e.own.map (·.1)).Nodup
def encI (x : Int) : List Sx.Lit := [.int .i64 x]
theorem wideI : Wide 1 encI := fun _ => rfl
def Tm : Pd → List (Chunk Pd) → Prop
  | .opn o, cs => ∃ es, es = hadL o.had ∧ cs = opnC 0 1 o.kind o.key o.text o.full es
  | .stk l, cs => match l with
    | [] => cs = []
    | (g, o) :: r => cs = [.at_ 1 g, .abs (.opn o) [1], .abs (.stk r) [2]]
  | .chk c, cs => c.opens.length ≤ 6 ∧ cs = [.abs (.chkL c) [0, 1]]
  | .chkL c, cs => ∃ p lo len cap xs, match c.opens with
    | [] => VecOk p lo len cap xs [] ∧ cs = [.cells 0 127 [.vec p 2 1 lo len cap, .bool c.over], .arr p true 2 129 encP xs]
    | o :: r => ∃ g l, VecOk p lo len cap xs (ptrsOf ((g, o) :: l)) ∧ l.map (·.2) = r ∧
        cs = [.cells 0 127 [.vec p 2 1 lo len cap, .bool c.over], .arr p true 2 129 encP xs, .at_ 1 g, .abs (.opn o) [1], .abs (.stk l) [3]]
  | .core c tv td, cs => ∃ p lo len cap xs, VecOk p lo len cap xs c.queue ∧ cs = [.cells 0 td [.iface tv (.ptr 1 0), .ptr 2 0, .vec p 3 3 lo len cap, .int .i64 (Int.ofNat c.at_), .bool c.closed, .bool c.over, .int .i64 c.err, .bool c.told],
      .cells 2 120 [.int .i64 c.scan.left, .int .u8 c.scan.least, .int .u8 c.scan.top], .arr p true 3 56 encE xs]
  | .dlm m, cs => ∃ p lo len cap xs q lo2 len2 cap2 ys, VecOk p lo len cap xs m.header ∧ VecOk q lo2 len2 cap2 ys m.cell ∧ (m.header.length ≤ 900001 ∧ m.cell.length ≤ 48 ∧ m.cells ≤ m.header.length) ∧
      cs = [.cells 0 70 [.int .i64 m.state, .bool m.started, .bool m.row, .vec p 2 1 lo len cap, .bool m.named, .vec q 3 1 lo2 len2 cap2, .int .i64 (Int.ofNat m.cells)], .arr p true 2 9 encS xs, .arr q true 3 5 encB ys]
  | .evl l, cs => ∃ p lo len cap xs, VecOk p lo len cap xs l ∧ l.length ≤ 4294967296 ∧ cs = [.cells 0 31 [.vec p 1 3 lo len cap], .arr p true 1 56 encE xs]
  | .lk n, cs => ∃ p lo len cap xs l, VecOk p lo len cap xs l ∧ (l.length = n ∧ n ≤ 10) ∧ cs = [.cells 0 62 [.vec p 1 1 lo len cap], .arr p true 1 3 encI xs]
noncomputable abbrev Ip : Pd → List Nat → HP := Im Tm
end Hx
/- events.Check.last is the innermost thing that is open: the walk. -/
namespace Hx
open Go Sx Go.Proofs
set_option maxRecDepth 100000
set_option maxHeartbeats 4000000
set_option linter.unusedVariables false
set_option linter.unusedSimpArgs false
variable {GOk : Gl → Prop}
theorem last_none (c : Chk) (h0 : c.opens = []) : Triple (BB Ip GOk) 88 2 2 [.ptr 0 0] [.abs (.chkL c) [0, 1]] (fun K => K (.ret .nil) [.abs (.chkL c) [0, 1]]) := by
  refine triple_of BB_ok (tb := ty) rfl (n0 := 4) (fun y : {cs' // Tm (.chkL c) cs'} => csRen (sg [0, 1] 2) y.1 ++ []) pl88 Tryz.call88 Tryz.func88 rfl (by kernel_rfl) (Nat.le_of_ble_eq_true rfl) (by decide) rfl (pre_open rfl rfl rfl) ?_
  rintro G hG K hK W bi bc bs bk bu bb bo bg bl bp bn be Ncond Nob Nop Nloop Nscope hN Nfin hf _ ⟨cs', hT⟩
  obtain ⟨p, lo, len, cap, xs, hT⟩ := id hT
  rw [h0] at hT
  obtain ⟨hv, rfl⟩ := hT
  have hl : len = 0 := by have := hv.length; simpa using this.symm
  subst hl
  cbv
  refine cond_ hN (fun h1 => ?_) (fun h1 => ?_)
  · cbv
    refine hf _ _ (fin_close rfl (.chkL c) [0, 1] [2] [.cells 0 127 [.vec p 2 1 lo 0 cap, .bool c.over], .arr p true 2 129 encP xs] ⟨p, lo, 0, cap, xs, by rw [h0]; exact ⟨hv, rfl⟩⟩ rfl (fin_ [] rfl rfl hK))
  · rw [ceq hN] at h1; simp at h1
end Hx
namespace Hx
open Go Sx Go.Proofs
theorem vec_last {α : Type} {p : Bool} {lo len cap : Nat} {xs l : List α} {b : α} (h : VecOk p lo len cap xs (l ++ [b])) : xs[lo + l.length]? = some b := by
  have h1 := h.eq
  have h2 := h.length
  have : ((xs.drop lo).take len)[l.length]? = some b := by rw [h1]; simp
  rw [List.getElem?_take] at this
  split at this
  · simpa using this
  · cases this
theorem ptrsOf_cons (g : Nat) (o : Opn) (l : List (Nat × Opn)) : ptrsOf ((g, o) :: l) = ptrsOf l ++ [some g] := by simp [ptrsOf]
theorem last_some {GOk : Gl → Prop} (c : Chk) (o : Opn) (r : List Opn) (h0 : c.opens = o :: r) (hr : r.length ≤ 10) : Triple (BB Ip GOk) 88 2 2 [.ptr 0 0] [.abs (.chkL c) [0, 1]] (fun K => K (.ret (.ptr 1 0)) [.abs (.chkL c) [0, 1]]) := by
  refine triple_of BB_ok (tb := ty) rfl (n0 := 4) (fun y : {cs' // Tm (.chkL c) cs'} => csRen (sg [0, 1] 2) y.1 ++ []) pl88 Tryz.call88 Tryz.func88 rfl (by kernel_rfl) (Nat.le_of_ble_eq_true rfl) (by decide) rfl (pre_open rfl rfl rfl) ?_
  rintro G hG K hK W bi bc bs bk bu bb bo bg bl bp bn be Ncond Nob Nop Nloop Nscope hN Nfin hf _ ⟨cs', hT⟩
  obtain ⟨p, lo, len, cap, xs, hT⟩ := id hT
  rw [h0] at hT
  obtain ⟨g, l, hv, hlr, rfl⟩ := hT
  have hlen : len = l.length + 1 := by have := hv.length; rw [ptrsOf_cons] at this; simp [ptrsOf] at this; omega
  have hx : xs[lo + l.length]? = some (some g) := by
    have := vec_last (ptrsOf_cons g o l ▸ hv)
    simpa [ptrsOf] using this
  have hll : l.length = r.length := by rw [← hlr]; simp
  have hsub : bi .sub .i64 (Int.ofNat len) 1 = Int.ofNat l.length := by rw [isub hN (by simp; omega) (by simp; omega)]; simp; omega
  have hidx : bp lo (bi .sub .i64 (Int.ofNat len) 1) = lo + l.length := by rw [hsub, bp_ hN]; simp
  have hpt : p = true := by
    cases p with
    | true => rfl
    | false => have := hv.pr rfl; have := hv.fits; omega
  have fin : ∀ cs, cs = [.cells 0 127 [.vec p 2 1 lo len cap, .bool c.over], .arr p true 2 129 encP xs, .at_ 1 g, .abs (.opn o) [1], .abs (.stk l) [3]] → Nfin (.ret (.ptr 1 0)) cs := by
    rintro _ rfl
    exact hf _ _ (fin_close rfl (.chkL c) [0, 1] [2, 3] [.cells 0 127 [.vec p 2 1 lo len cap, .bool c.over], .arr p true 2 129 encP xs, .at_ 1 g, .abs (.opn o) [1], .abs (.stk l) [3]] ⟨p, lo, len, cap, xs, by rw [h0]; exact ⟨g, l, hv, hlr, rfl⟩⟩ rfl (fin_ [] rfl rfl hK))
  clear h0 hK
  cbv
  refine cond_ hN (fun h1 => ?_) (fun h1 => ?_)
  · rw [ceq hN] at h1; simp at h1; omega
  · cbv
    repeat' (first | refine And.intro ?_ ?_ | exact True.intro)
    all_goals
      refine ob_ hN ⟨⟨by rw [hsub]; simp, by rw [hsub]; simp; omega⟩, hpt, trivial⟩ ?_
      cbv
      repeat' (first | refine And.intro ?_ ?_ | exact True.intro)
    all_goals
      refine op_ hN (load_ptr ty_ok rfl hpt rfl rfl (by rw [hidx]; exact hx) (List.mem_cons_of_mem _ (List.mem_cons_of_mem _ (List.Mem.head _))) ?_)
      cbv
      exact fin _ rfl
end Hx
/- events.Check.value tells whether a value of a kind may stand here: the walk. -/
namespace Hx
open Go Sx Go.Proofs
set_option maxRecDepth 100000
set_option maxHeartbeats 4000000
set_option linter.unusedVariables false
set_option linter.unusedSimpArgs false
variable {GOk : Gl → Prop}
def isEmpty (s : ByteArray) : Bool := decide (s = ⟨#[]⟩)
def chkValue (c : Chk) (x : Ev) : Bool :=
  match c.opens with
  | [] => !c.over
  | o :: _ => if o.kind == 7 then o.key else if o.kind == 10 then (x.kind == 10 || ((x.kind == 4 && !isEmpty x.text) && !o.text)) else true
theorem value_none (c : Chk) (x : Ev) (h0 : c.opens = []) : Triple (BB Ip GOk) 89 2 2 [.ptr 0 0, .agg [.int .i64 x.kind, .str x.text, .str x.val]] [.abs (.chkL c) [0, 1]] (fun K => ∀ b, b = chkValue c x → K (.ret (.bool b)) [.abs (.chkL c) [0, 1]]) := by
  obtain ⟨kind, text, val⟩ := x
  refine triple_of BB_ok (tb := ty) rfl (n0 := 2) (fun _ : Unit => _) pl89 Tryz.call89 Tryz.func89 rfl (by kernel_rfl) (Nat.le_of_ble_eq_true rfl) (by decide) rfl pre_none ?_
  rintro G hG K hK W bi bc bs bk bu bb bo bg bl bp bn be Ncond Nob Nop Nloop Nscope hN Nfin hf _ _
  have hb : chkValue c ⟨kind, text, val⟩ = !c.over := by simp [chkValue, h0]
  rw [hb] at hK
  cbv
  refine op_ hN (call_ (last_none c h0) hG [0, 1] rfl rfl rfl rfl rfl ?_)
  cbv
  refine op_ hN (op_open rfl 0 4 rfl rfl rfl rfl ?_)
  rintro _ ⟨p, lo, len, cap, xs, hT⟩
  rw [h0] at hT
  obtain ⟨hv, rfl⟩ := hT
  refine load_ ty_ok rfl ?_
  have hT : Tm (.chkL c) [.cells 0 127 [.vec p 2 1 lo len cap, .bool c.over], .arr p true 2 129 encP xs] := ⟨p, lo, len, cap, xs, by rw [h0]; exact ⟨hv, rfl⟩⟩
  generalize c.over = ov at *
  cbv
  exact hf _ _ (fin_close rfl (.chkL c) [0, 1] [3] _ hT rfl (fin_ [] rfl rfl (hK _ rfl)))
theorem value_some (c : Chk) (x : Ev) (o : Opn) (r : List Opn) (h0 : c.opens = o :: r) (hr : r.length ≤ 10) : Triple (BB Ip GOk) 89 2 2 [.ptr 0 0, .agg [.int .i64 x.kind, .str x.text, .str x.val]] [.abs (.chkL c) [0, 1]] (fun K => ∀ b, b = chkValue c x → K (.ret (.bool b)) [.abs (.chkL c) [0, 1]]) := by
  obtain ⟨kind, text, val⟩ := x
  refine triple_of BB_ok (tb := ty) rfl (n0 := 2) (fun _ : Unit => _) pl89 Tryz.call89 Tryz.func89 rfl (by kernel_rfl) (Nat.le_of_ble_eq_true rfl) (by decide) rfl pre_none ?_
  rintro G hG K hK W bi bc bs bk bu bb bo bg bl bp bn be Ncond Nob Nop Nloop Nscope hN Nfin hf _ _
  cbv
  refine op_ hN (call_ (last_some c o r h0 hr) hG [0, 1] rfl rfl rfl rfl rfl ?_)
  cbv
  refine op_ hN (op_open rfl 0 4 rfl rfl rfl rfl ?_)
  rintro _ ⟨p, lo, len, cap, xs, hT⟩
  rw [h0] at hT
  obtain ⟨g, l, hv, hlr, rfl⟩ := hT
  refine op_open rfl 1 4 rfl rfl rfl rfl ?_
  obtain ⟨okind, okey, otext, ofull, ohad⟩ := o
  rintro _ ⟨es, hes, rfl⟩
  refine load_ ty_ok rfl ?_
  have hT : Tm (.chkL c) [.cells 0 127 [.vec p 2 1 lo len cap, .bool c.over], .arr p true 2 129 encP xs, .at_ 1 g, .abs (.opn ⟨okind, okey, otext, ofull, ohad⟩) [1], .abs (.stk l) [3]] := ⟨p, lo, len, cap, xs, by rw [h0]; exact ⟨g, l, hv, hlr, rfl⟩⟩
  have hb : chkValue c ⟨kind, text, val⟩ = (if bc .eql okind 7 then okey else if bc .eql okind 10 then (bc .eql kind 10 || ((bc .eql kind 4 && bs .neq text ⟨#[]⟩) && !otext)) else true) := by
    rw [bc_ hN, sne_eq hN]; simp only [chkValue, h0, bitC, isEmpty]; rfl
  have fin : ∀ (v : SV) b cs, (∀ ρ, v.den ρ = (SV.bool b).den ρ) → chkValue c ⟨kind, text, val⟩ = b → cs = csRen (nm [1, 7]) (opnC 0 1 okind okey otext ofull es) ++ [.cells 0 127 [.vec p 3 1 lo len cap, .bool c.over], .arr p true 3 129 encP xs, .at_ 1 g, .abs (.stk l) [4], .cells 2 56 [.int .i64 kind, .str text, .str val]] → Nfin (.ret v) cs := by
    rintro v b _ hv hb rfl
    exact hf _ _ (fin_as _ hv (fin_close rfl (.opn ⟨okind, okey, otext, ofull, ohad⟩) [1] [7] _ ⟨es, hes, rfl⟩ rfl (fin_close rfl (.chkL c) [0, 1] [3, 4] _ hT rfl (fin_ [] rfl rfl (hK b hb.symm)))))
  generalize c.over = ov at *
  clear hT hK
  cbv
  repeat' (refine cond_ hN (fun _ => ?_) (fun _ => ?_) <;> cbv)
  all_goals (refine fin _ _ _ (fun _ => rfl) (hb.trans ?_) rfl; simp only [*, Bool.true_and, Bool.and_true, Bool.false_and, Bool.and_false, Bool.true_or, Bool.or_true, Bool.false_or, Bool.or_false, Bool.not_true, Bool.not_false, Bool.false_eq_true, if_true, if_false] <;> rfl)
end Hx
/- events.Check.stands marks that a value stands here; events.open.named takes a key, or an attribute: the walks. -/
namespace Hx
open Go Sx Go.Proofs
set_option maxRecDepth 100000
set_option maxHeartbeats 4000000
set_option linter.unusedVariables false
set_option linter.unusedSimpArgs false
variable {GOk : Gl → Prop}
/-- a value stands: the innermost one is turned, or all is over -/
def chkStands (c : Chk) (x : Ev) : Chk :=
  match c.opens with
  | [] => { c with over := true }
  | o :: r => { c with opens := { o with key := false, full := true, text := x.kind == 4 } :: r }
theorem stands_none (c : Chk) (x : Ev) (h0 : c.opens = []) : Triple (BB Ip GOk) 90 2 2 [.ptr 0 0, .agg [.int .i64 x.kind, .str x.text, .str x.val]] [.abs (.chkL c) [0, 1]] (fun K => ∀ d, d = chkStands c x → K (.ret (.tuple [])) [.abs (.chkL d) [0, 1]]) := by
  obtain ⟨kind, text, val⟩ := x
  refine triple_of BB_ok (tb := ty) rfl (n0 := 2) (fun _ : Unit => _) pl90 Tryz.call90 Tryz.func90 rfl (by kernel_rfl) (Nat.le_of_ble_eq_true rfl) (by decide) rfl pre_none ?_
  rintro G hG K hK W bi bc bs bk bu bb bo bg bl bp bn be Ncond Nob Nop Nloop Nscope hN Nfin hf _ _
  cbv
  refine op_ hN (call_ (last_none c h0) hG [0, 1] rfl rfl rfl rfl rfl ?_)
  cbv
  refine op_ hN (op_open rfl 0 4 rfl rfl rfl rfl ?_)
  rintro _ ⟨p, lo, len, cap, xs, hT⟩
  rw [h0] at hT
  obtain ⟨hv, rfl⟩ := hT
  refine store_ ty_ok rfl ?_
  have hT : Tm (.chkL (chkStands c ⟨kind, text, val⟩)) [.cells 0 127 [.vec p 2 1 lo len cap, .bool true], .arr p true 2 129 encP xs] := by
    simp only [Tm, chkStands, h0]; exact ⟨p, lo, len, cap, xs, hv, rfl⟩
  cbv
  refine hf _ _ (fin_eq [.cells 0 127 [.vec p 3 1 lo len cap, .bool true], .arr p true 3 129 encP xs, .cells 2 56 [.int .i64 kind, .str text, .str val]] (fun _ => rfl) ?_)
  exact fin_close rfl (.chkL _) [0, 1] [3] _ hT rfl (fin_ [] rfl rfl (hK _ rfl))
theorem stands_some (c : Chk) (x : Ev) (o : Opn) (r : List Opn) (h0 : c.opens = o :: r) (hr : r.length ≤ 10) : Triple (BB Ip GOk) 90 2 2 [.ptr 0 0, .agg [.int .i64 x.kind, .str x.text, .str x.val]] [.abs (.chkL c) [0, 1]] (fun K => ∀ d, d = chkStands c x → K (.ret (.tuple [])) [.abs (.chkL d) [0, 1]]) := by
  obtain ⟨kind, text, val⟩ := x
  refine triple_of BB_ok (tb := ty) rfl (n0 := 2) (fun _ : Unit => _) pl90 Tryz.call90 Tryz.func90 rfl (by kernel_rfl) (Nat.le_of_ble_eq_true rfl) (by decide) rfl pre_none ?_
  rintro G hG K hK W bi bc bs bk bu bb bo bg bl bp bn be Ncond Nob Nop Nloop Nscope hN Nfin hf _ _
  cbv
  refine op_ hN (call_ (last_some c o r h0 hr) hG [0, 1] rfl rfl rfl rfl rfl ?_)
  cbv
  repeat' (first | refine And.intro ?_ ?_ | exact True.intro)
  all_goals
    refine op_ hN (op_open rfl 0 4 rfl rfl rfl rfl ?_)
    rintro _ ⟨p, lo, len, cap, xs, hT⟩
    rw [h0] at hT
    obtain ⟨g, l, hv, hlr, rfl⟩ := hT
    refine op_open rfl 1 4 rfl rfl rfl rfl ?_
    obtain ⟨okind, okey, otext, ofull, ohad⟩ := o
    rintro _ ⟨es, hes, rfl⟩
    refine store_ ty_ok rfl ?_
    have hT : Tm (.chkL (chkStands c ⟨kind, text, val⟩)) [.cells 0 127 [.vec p 2 1 lo len cap, .bool c.over], .arr p true 2 129 encP xs, .at_ 1 g, .abs (.opn ⟨okind, false, bc .eql kind 4, true, ohad⟩) [1], .abs (.stk l) [3]] := by
      simp only [Tm, chkStands, h0]; exact ⟨p, lo, len, cap, xs, g, l, hv, hlr, by rw [bc_ hN]; rfl⟩
    have fin : ∀ cs, (∀ ρ, cs.map (Chunk.den Ip ρ) = (csRen (nm [1, 22]) (opnC 0 1 okind false (bc .eql kind 4) true es) ++ [.cells 0 127 [.vec p 18 1 lo len cap, .bool c.over], .arr p true 18 129 encP xs, .at_ 1 g, .abs (.stk l) [19], .cells 2 56 [.int .i64 kind, .str text, .str val]] : List (Chunk Pd)).map (Chunk.den Ip ρ)) → Nfin (.ret (.tuple [])) cs := by
      intro cs hcs
      refine hf _ _ (fin_eq _ hcs ?_)
      exact fin_close rfl (.opn ⟨okind, false, bc .eql kind 4, true, ohad⟩) [1] [22] _ ⟨es, hes, rfl⟩ rfl (fin_close rfl (.chkL _) [0, 1] [18, 19] _ hT rfl (fin_ [] rfl rfl (hK _ rfl)))
    generalize c.over = ov at *
    clear hT
    cbv
    repeat' (first | refine And.intro ?_ ?_ | exact True.intro)
    all_goals first | exact fin _ (fun _ => rfl) | trace_state
end Hx
/- events.open.named takes a key, or an attribute: the walk. -/
namespace Hx
open Go Sx Go.Proofs
set_option maxRecDepth 100000
set_option maxHeartbeats 4000000
set_option linter.unusedVariables false
set_option linter.unusedSimpArgs false
variable {GOk : Gl → Prop}
def hasB (l : List ByteArray) (s : ByteArray) : Bool := l.any fun t => decide (t = s)
theorem hasB_mem {l : List ByteArray} {s : ByteArray} (h : s ∈ l) : hasB l s = true := List.any_eq_true.2 ⟨s, h, by simp⟩
theorem hasB_not {l : List ByteArray} {s : ByteArray} (h : s ∉ l) : hasB l s = false := by
  cases e : hasB l s with
  | false => rfl
  | true =>
    obtain ⟨t, ht, e⟩ := List.any_eq_true.1 e
    simp at e; subst e; exact absurd ht h
def opnNamed (o : Opn) (x : Ev) : Int × Opn :=
  if hasB o.had x.text then (6, o) else if o.had.length ≥ 10 then (7, o) else (0, { o with had := o.had ++ [x.text], key := x.kind == 8 })
theorem named_spec (o : Opn) (x : Ev) : Triple (BB Ip GOk) 91 1 1 [.ptr 0 0, .agg [.int .i64 x.kind, .str x.text, .str x.val]] [.abs (.opn o) [0]] (fun K => ∀ e o', (e, o') = opnNamed o x → K (.ret (.int .i64 e)) [.abs (.opn o') [0]]) := by
  obtain ⟨kind, text, val⟩ := x
  refine triple_of BB_ok (tb := ty) rfl (n0 := 3) (fun y : {cs' // Tm (.opn o) cs'} => csRen (sg [0] 1) y.1 ++ []) pl91 Tryz.call91 Tryz.func91 rfl (by kernel_rfl) (Nat.le_of_ble_eq_true rfl) (by decide) rfl (pre_open rfl rfl rfl) ?_
  obtain ⟨okind, okey, otext, ofull, ohad⟩ := o
  rintro G hG K hK W bi bc bs bk bu bb bo bg bl bp bn be Ncond Nob Nop Nloop Nscope hN Nfin hf _ ⟨cs', hT⟩
  obtain ⟨es, hes, rfl⟩ := id hT
  have fin : ∀ (e : Int) cs, opnNamed ⟨okind, okey, otext, ofull, ohad⟩ ⟨kind, text, val⟩ = (e, ⟨okind, okey, otext, ofull, ohad⟩) → ∀ rest, pickC (idsOf (csRen (nm [0, 1]) (opnC 0 1 okind okey otext ofull es))) cs = some (csRen (nm [0, 1]) (opnC 0 1 okind okey otext ofull es), rest) → Nfin (.ret (.int .i64 e)) cs := by
    intro e cs h rest hp
    exact hf _ _ (fin_close rfl (.opn ⟨okind, okey, otext, ofull, ohad⟩) [0] [1] _ ⟨es, hes, rfl⟩ hp (fin_ [] rfl rfl (hK _ _ h.symm)))
  have fin2 : ∀ cs, opnNamed ⟨okind, okey, otext, ofull, ohad⟩ ⟨kind, text, val⟩ = (0, ⟨okind, bc .eql kind 8, otext, ofull, ohad ++ [text]⟩) → ∀ es2 rest, es2 = es ++ [(.str text, .bool true)] → pickC (idsOf (csRen (nm [0, 1]) (opnC 0 1 okind (bc .eql kind 8) otext ofull es2))) cs = some (csRen (nm [0, 1]) (opnC 0 1 okind (bc .eql kind 8) otext ofull es2), rest) → Nfin (.ret (.int .i64 0)) cs := by
    intro cs h es2 rest he hp
    exact hf _ _ (fin_close rfl (.opn ⟨okind, bc .eql kind 8, otext, ofull, ohad ++ [text]⟩) [0] [1] _ ⟨es2, by simp [he, hes, hadL], rfl⟩ hp (fin_ [] rfl rfl (hK _ _ h.symm)))
  cbv
  repeat' (first | refine And.intro ?_ ?_ | exact True.intro)
  all_goals
    refine op_ hN (lookup_ ty_ok (.str text) rfl rfl rfl rfl rfl rfl rfl trivial (hes ▸ hadL_keys ohad) ?_ ?_)
    · intro v hv
      rw [hes] at hv
      obtain ⟨h1, rfl⟩ := hadL_mem hv
      cbv
      refine cond_ hN (fun _ => ?_) (fun h => by simp at h)
      cbv
      exact fin 6 _ (by simp [opnNamed, hasB_mem h1]) _ rfl
    · intro hn
      have hn' : hasB ohad text = false := hasB_not (hadL_not (hes ▸ hn))
      cbv
      refine op_ hN (maplen_ ty_ok rfl rfl rfl ?_)
      intro m hm
      have hm' : m = ohad.length := by rw [hm, hes]; simp [hadL]
      cbv
      refine cond_ hN (fun h => ?_) (fun h => ?_)
      · cbv
        exact fin 7 _ (by rw [cge hN] at h; simp at h; simp only [opnNamed, hn']; rw [if_neg (by simp), if_pos (by omega)]) _ rfl
      · have ho : opnNamed ⟨okind, okey, otext, ofull, ohad⟩ ⟨kind, text, val⟩ = (0, ⟨okind, bc .eql kind 8, otext, ofull, ohad ++ [text]⟩) := by
          rw [cge hN] at h; simp at h; simp only [opnNamed, hn']; rw [if_neg (by simp), if_neg (by omega), bc_ hN]; rfl
        cbv
        repeat' (first | refine And.intro ?_ ?_ | exact True.intro)
        all_goals
          refine op_ hN (update_ ty_ok (.str text) (.bool true) (.inl rfl) rfl rfl rfl rfl rfl rfl (fun _ => rfl) trivial (hes ▸ hadL_keys ohad) hn ?_)
          generalize hes2 : es ++ [(Sx.Lit.str text, Sx.Lit.bool true)] = es2
          cbv
          exact fin2 _ ho _ _ hes2.symm rfl
end Hx
