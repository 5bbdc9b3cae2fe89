/-
  Part of a proof.
-/
import Derived.Test.YtafhlipcgbopnaaGreatDoorW07
import Derived.Test.YtafhlipcgbopnaaGreatDoorW03
import Derived.Test.YtafhlipcgbopnaaGreatDoorW08
import Derived.Test.YtafhlipcgbopnaaGreatDoorW19
set_option linter.unusedVariables false
set_option linter.unusedSimpArgs false
/- row.Caught; the closure of outline.machine.looks. -/
namespace Hx
open Go Sx Go.Proofs
set_option maxRecDepth 100000
set_option maxHeartbeats 4000000
set_option linter.unusedVariables false
set_option linter.unusedSimpArgs false
variable {GOk : Gl → Prop}
theorem caught_nil : Triple (BB Ip GOk) 149 0 0 [.niliface] [] (fun K => K (.ret (.agg [.int .i64 0, .int .i64 0])) []) := by
  refine triple_of BB_ok (tb := ty) rfl (n0 := 0) (fun _ : Unit => _) pl149 Tryz.call149 Tryz.func149 rfl (by kernel_rfl) (Nat.le_of_ble_eq_true rfl) (by decide) rfl pre_none ?_
  rintro G hG K hK W bi bc bs bk bu bb bo bg bl bp bn be Ncond Nob Nop Nloop Nscope hN Nfin hf _ _
  cbv
  exact hf _ _ (fin_ [] rfl rfl hK)
theorem caught_flt (e a : Int) : Triple (BB Ip GOk) 149 0 0 [flt e a] [] (fun K => K (.ret (.agg [.int .i64 e, .int .i64 a])) []) := by
  refine triple_of BB_ok (tb := ty) rfl (n0 := 0) (fun _ : Unit => _) pl149 Tryz.call149 Tryz.func149 rfl (by kernel_rfl) (Nat.le_of_ble_eq_true rfl) (by decide) rfl pre_none ?_
  rintro G hG K hK W bi bc bs bk bu bb bo bg bl bp bn be Ncond Nob Nop Nloop Nscope hN Nfin hf _ _
  cbv
  exact hf _ _ (fin_ [] rfl rfl hK)
theorem looks_cl_ret (A : Nat) : DTriple (BB Ip GOk) 148 5 [.ptr 0 0, .ptr 1 0, .ptr 2 0] [.cells 0 25 [.int .i64 0], .cells 1 3 [.int .i64 (Int.ofNat A)], .cells 2 47 [.ptr 3 0]] .returning
    (fun K => K [.cells 0 25 [.int .i64 0], .cells 1 3 [.int .i64 (Int.ofNat A)], .cells 2 47 [.ptr 3 0]]) := by
  refine dcall_first BB_ok (tb := ty) rfl pl148 Tryz.func148 rfl (by kernel_rfl) rfl rfl rfl rfl rfl rfl rfl rfl .niliface (fun _ => rfl) ?_
  rintro G hG K hK W bi bc bs bk bu bb bo bg bl bp bn be Ncond Nob Nop Nloop Nscope hN Nfin hf _
  cbv
  refine op_ hN (call_ (caught_nil) hG [] rfl rfl rfl rfl rfl ?_)
  cbv
  refine cond_F hN (by rw [cne hN]; rfl) ?_
  cbv
  exact hf _ (FinD.of [] rfl hK)
theorem looks_cl_pan (A : Nat) (e a : Int) (m : Mch) (he : e ≠ 0) (ha : 0 ≤ a) (ha2 : a ≤ 1000000) (hA : A ≤ 1000000) : DTriple (BB Ip GOk) 148 5 [.ptr 0 0, .ptr 1 0, .ptr 2 0] [.cells 0 25 [.int .i64 0], .cells 1 3 [.int .i64 (Int.ofNat A)], .cells 2 47 [.ptr 3 0], .abs (.mch m true) [3, 4]] (.panicking [{ v := (flt e a).den id, recovered := false }])
    (fun K => K [.cells 0 25 [.int .i64 e], .cells 1 3 [.int .i64 (Int.ofNat A)], .cells 2 47 [.ptr 3 0], .abs (.mch { m with ahead := A + a.toNat } true) [3, 4]]) := by
  refine dcall_first BB_ok (tb := ty) rfl pl148 Tryz.func148 rfl (by kernel_rfl) rfl rfl rfl rfl rfl rfl rfl rfl (flt e a) (fun _ => rfl) ?_
  rintro G hG K hK W bi bc bs bk bu bb bo bg bl bp bn be Ncond Nob Nop Nloop Nscope hN Nfin hf _
  cbv
  refine op_ hN (call_ (caught_flt e a) hG [] rfl rfl rfl rfl rfl ?_)
  cbv
  refine cond_T hN (by rw [cne hN]; simpa using he) ?_
  cbv
  refine op_ hN (op_open rfl 3 4 rfl rfl rfl rfl ?_)
  rintro _ ⟨p, lo, len, cap, xs, q, lo2, len2, cap2, ys, tl, hv1, hv2, hl, htl, -, rfl⟩
  obtain rfl := htl rfl
  have hadd : bi .add .i64 (Int.ofNat A) a = Int.ofNat (A + a.toNat) := by rw [iadd hN (by simp; omega) (by simp; omega)]; simp only [Int.ofNat_eq_natCast]; omega
  obtain ⟨A', hA'⟩ : ∃ x, x = A + a.toNat := ⟨_, rfl⟩
  rw [← hA'] at hadd hK
  simp only [hadd]
  refine store_ ty_ok rfl ?_
  cbv
  exact hf _ (finD_close rfl (.mch { m with ahead := A' } true) [3, 4] [6, 7, 8, 9] _ ⟨p, lo, len, cap, xs, q, lo2, len2, cap2, ys, _, hv1, hv2, hl, fun _ => rfl, (fun h => nomatch h), rfl⟩ rfl (FinD.of [] rfl hK))
theorem field0 (xs : Array Value) (u : Value) (w : World) (h : xs[0]? = some u) : (Instr.field 211 (.agg xs) 0).run P w = .ok u w := by
  have : (Instr.field 211 (.agg xs) 0).run P w = (match xs[0]? with | some v => (pure v : Sem Value) | none => stuck "part: no such cell").run P w := by kernel_rfl
  rw [this, h]; rfl
theorem finish_cl_ret (v : Int) (hv : 0 ≤ v) : DTriple (BB Ip GOk) 152 1 [.ptr 0 0] [.cells 0 25 [.int .i64 v]] .returning (fun K => K [.cells 0 25 [.int .i64 v]]) := by
  refine dcall_any BB_ok (tb := ty) rfl (.all [(0, (.all [(2, (.all [(3, (tk [4] (.all [(5, .done)])))]))])), (2, (.all [(0, (.all [(3, (tk [4] (.all [(5, .done)])))])), (3, (.all [(0, (tk [4] (.all [(5, .done)])))]))]))]) (.all [(2, (.all [(3, (tk [4] (.all [(5, .done)])))]))]) Tryz.func152 rfl (i0 := 0) (ir := 1) (m := 4) rfl rfl rfl rfl rfl rfl rfl rfl rfl rfl (by kernel_rfl) (by kernel_rfl) (by kernel_rfl) (by kernel_rfl) (by kernel_rfl) rfl .niliface (fun _ => rfl) ?_
  rintro G hG K hK W bi bc bs bk bu bb bo bg bl bp bn be Ncond Nob Nop Nloop Nscope hN Nfin hf _
  have hmax : bi .gtr .i64 v 0 = v := by rw [bi_ hN]; simp only [bitI, imax]; split <;> omega
  have hend : Nfin [.cells 0 25 [.int .i64 v]] := hf _ (FinD.of [] rfl hK)
  cbv
  repeat' (first | exact True.intro | with_reducible refine dup ?_ | refine And.intro ?_ ?_)
  all_goals
    refine op_ hN (call_ (caught_nil) hG [] rfl rfl rfl rfl rfl ?_)
    cbv
    repeat' (first | exact True.intro | with_reducible refine dup ?_ | refine And.intro ?_ ?_)
    all_goals
      refine op_ hN (field_ field0 rfl ?_)
      cbv
      repeat' (first | exact True.intro | with_reducible refine dup ?_ | refine And.intro ?_ ?_)
    all_goals
      simp only [hmax]
      exact hend
theorem finish_cl_pan (e a : Int) (he : 0 < e) : DTriple (BB Ip GOk) 152 1 [.ptr 0 0] [.cells 0 25 [.int .i64 0]] (.panicking [{ v := (flt e a).den id, recovered := false }]) (fun K => K [.cells 0 25 [.int .i64 e]]) := by
  refine dcall_any BB_ok (tb := ty) rfl (.all [(0, (.all [(2, (.all [(3, (tk [4] (.all [(5, .done)])))]))])), (2, (.all [(0, (.all [(3, (tk [4] (.all [(5, .done)])))])), (3, (.all [(0, (tk [4] (.all [(5, .done)])))]))]))]) (.all [(2, (.all [(3, (tk [4] (.all [(5, .done)])))]))]) Tryz.func152 rfl (i0 := 0) (ir := 1) (m := 4) rfl rfl rfl rfl rfl rfl rfl rfl rfl rfl (by kernel_rfl) (by kernel_rfl) (by kernel_rfl) (by kernel_rfl) (by kernel_rfl) rfl (flt e a) (fun _ => rfl) ?_
  rintro G hG K hK W bi bc bs bk bu bb bo bg bl bp bn be Ncond Nob Nop Nloop Nscope hN Nfin hf _
  have hmax : bi .gtr .i64 0 e = e := by rw [bi_ hN]; simp only [bitI, imax]; split <;> omega
  have hend : Nfin [.cells 0 25 [.int .i64 e]] := hf _ (FinD.of [] rfl hK)
  cbv
  repeat' (first | exact True.intro | with_reducible refine dup ?_ | refine And.intro ?_ ?_)
  all_goals
    refine op_ hN (call_ (caught_flt e a) hG [] rfl rfl rfl rfl rfl ?_)
    cbv
    repeat' (first | exact True.intro | with_reducible refine dup ?_ | refine And.intro ?_ ?_)
    all_goals
      refine op_ hN (field_ field0 rfl ?_)
      cbv
      repeat' (first | exact True.intro | with_reducible refine dup ?_ | refine And.intro ?_ ?_)
    all_goals
      simp only [hmax]
      exact hend
end Hx
/- The machine, its decoder, the law: the model. -/
namespace Hx
open Go Sx Go.Proofs
set_option maxRecDepth 100000
set_option maxHeartbeats 4000000
set_option linter.unusedVariables false
set_option linter.unusedSimpArgs false
variable {GOk : Gl → Prop}
section
variable (right : Ev → Bool) (numRead : ByteArray → ByteArray × Int)
/-- a line is looked at, behind which so many bytes stand; none: cannot happen -/
def looksM (nl : Nat) (s : OS) : Option (Int × OS) :=
  if s.m.ahead > 1000000 then none else
  match lineM right numRead (bytesOf s.m.line) { s with m := { s.m with line := [], ahead := s.m.ahead + s.m.line.length + nl } } with
  | (.ok _, s') => some (0, s')
  | (.err e a, s') => if e ≤ 0 ∨ a < 0 ∨ a > 1000000 then none else some (e, { s' with m := { s'.m with ahead := s.m.ahead + a.toNat } })
  | (.ovf, _) => none
def stepM (b : UInt8) (s : OS) : Option (Int × OS) :=
  if b = 10 then looksM right numRead 1 s
  else if s.m.line.length ≥ 160 then (if s.m.ahead > 1000000 then none else some (4, { s with m := { s.m with ahead := s.m.ahead + 160 } }))
  else some (0, { s with m := { s.m with line := s.m.line ++ [b] } })
def endsAll : Nat → OM Unit
  | 0 => fun s => (.ovf, s)
  | n + 1 => fun s => match s.m.opn with
    | [] => (.ok (), s)
    | _ :: _ => OM.bind (endsM right 0) (fun _ => endsAll n) s
def finishO : OM Unit := OM.bind (nothingM right 0) fun _ s => endsAll right (s.m.opn.length + 1) s
def finishM (s : OS) : Option (Int × OS) :=
  match finishO right s with
  | (.ok _, s') => some (if chkDone s'.m.chk then 0 else 2, s')
  | (.err e _, s') => if e ≤ 0 then none else some (e, s')
  | (.ovf, _) => none
def endM (s : OS) : Option (Int × OS) :=
  if s.m.line.isEmpty then finishM right s
  else match looksM right numRead 0 s with
    | none => none
    | some (e, s') => if e ≠ 0 then some (e, s') else finishM right s'
def metM (e : Int) (s : OS) : OS := { s with c := { s.c with over := true, err := e, at_ := if e ≠ 0 then s.m.ahead else s.c.at_ } }
def feedGo : List UInt8 → OS → Option OS
  | [], s => some s
  | x :: r, s => if s.c.over then some s else
    match scanStep s.c.scan (x.toNat : Nat) with
    | (false, sc) => some { s with c := { s.c with scan := sc, over := true, err := 3 } }
    | (true, sc) => match stepM right numRead x { s with c := { s.c with scan := sc } } with
      | none => none
      | some (e, s') => if e ≠ 0 then some (metM e s') else if s'.c.at_ > 1000000 then none else feedGo r { s' with c := { s'.c with at_ := s'.c.at_ + 1 } }
def closeM (s : OS) : Option OS :=
  if s.c.closed || s.c.over then some { s with c := { s.c with closed := true } }
  else if s.c.scan.left ≠ 0 then some { s with c := { s.c with closed := true, over := true, err := 3 } }
  else match endM right numRead { s with c := { s.c with closed := true } } with
    | none => none
    | some (e, s') => some (metM e s')
def os0 : OS := ⟨⟨0, [], ⟨[], false⟩, ⟨[], 0, 0⟩, [], false⟩, ⟨⟨0, 128, 191⟩, [], 0, false, false, 0, false⟩⟩
def allM (text : List UInt8) : Option OS := match feedGo right numRead text os0 with
  | none => none
  | some s => closeM right numRead s
def wholeGo : Chk → List Ev → Nat → Nat × Int
  | c, [], i => (i, if chkDone c then 0 else 19)
  | c, x :: r, i => if (chkStep right c x).1 ≠ 0 then (i, (chkStep right c x).1) else wholeGo (chkStep right c x).2 r (i + 1)
 end
end Hx
/- outline.machine.line. -/
namespace Hx
open Go Sx Go.Proofs
set_option maxRecDepth 100000
set_option maxHeartbeats 4000000
set_option linter.unusedVariables false
set_option linter.unusedSimpArgs false
variable {GOk : Gl → Prop}
variable {right : Ev → Bool} {numRead : ByteArray → ByteArray × Int}
theorem blanks_lt0 (t : ByteArray) (h : (cutR t).2 = true) : (cutR t).1 < t.size := by
  simp only [cutR, Bool.and_eq_true, decide_eq_true_eq] at h ⊢; exact h.1
def lineT (right : Ev → Bool) (numRead : ByteArray → ByteArray × Int) (t : ByteArray) (a : Nat) : OM Unit := fun s => match s.m.opn with
  | [] => OM.bind (firstM right numRead t a) (fun _ => OM.ret ()) s
  | (k, _) :: _ => if k = 5 then OM.bind (itemM right numRead t a) (fun _ => OM.ret ()) s else OM.bind (fieldM right numRead t a) (fun _ => OM.ret ()) s
theorem line_spec (hb : Below GOk right) (hfl : FlowOk GOk right numRead) (s : OS) (t : ByteArray) (ht : t.size < 1000000) : Triple (BB Ip GOk) 150 2 2 [.ptr 0 0, .str t] (oc s)
    (fun K => PostR (fun _ => .tuple []) oc K (lineM right numRead t s)) := by
  refine triple_of BB_ok (tb := ty) rfl (n0 := 2) (fun _ : Unit => _) pl150 Tryz.call150 Tryz.func150 rfl (by kernel_rfl) (Nat.le_of_ble_eq_true rfl) (by decide) rfl pre_none ?_
  rintro G hG K hK W bi bc bs bk bu bb bo bg bl bp bn be Ncond Nob Nop Nloop Nscope hN Nfin hf _ _
  cbv
  refine op_ hN (call_ (cut_spec t ht) hG [] rfl rfl rfl rfl rfl ?_)
  intro k b hkb
  have hk1 : (cutR t).1 = k := by rw [← hkb]
  have hk2 : (cutR t).2 = b := by rw [← hkb]
  cases b with
  | false =>
    have hM : lineM right numRead t s = (.ok (), s) := by simp only [lineM]; rw [if_neg (by rw [hk2]; decide)]; rfl
    rw [hM] at hK
    cbv
    refine cond_T hN rfl ?_
    cbv
    exact hf _ _ (fin_ [] rfl rfl hK)
  | true =>
    have hkt : k < t.size := by rw [← hk1]; exact blanks_lt0 t hk2
    have hM : lineM right numRead t s = OM.bind (placeM right t k k) (fun _ => lineT right numRead t k) s := by simp only [lineM]; rw [if_pos hk2, hk1]; rfl
    rw [hM] at hK
    cbv
    refine cond_F hN rfl ?_
    cbv
    refine op_ hN (op_name 0 rfl fun g => op_cput_at 2 [.str t, .int .i64 (Int.ofNat k), .raw (tellV g)] rfl rfl (fun ρ F w h => ?_) (call_ (place_spec hb s t k k g ht hkt (by omega)) hG [0, 1, 2] rfl rfl rfl rfl rfl ?_))
    · have := h.at_ (j := 0) (g := g) (by simp)
      simp [SV.denL, SV.den, tellV, this]
    simp only [OM.bind] at hK
    generalize placeM right t k k s = y at hK ⊢
    obtain ⟨r, s'⟩ := y
    cases r with
    | err e a => cbv; exact hf _ _ (fin_ [] rfl rfl hK)
    | ovf => exact hK.elim
    | ok u =>
      simp only [lineT] at hK
      obtain ⟨⟨ahead, line, chk, anc, opn, waits⟩, core⟩ := s'
      cbv
      refine op_ hN (op_open rfl 0 4 rfl rfl rfl rfl ?_)
      rintro _ ⟨p, lo, len, cap, xs, q, lo2, len2, cap2, ys, tl, hv1, hv2, hl, htl, -, rfl⟩
      obtain rfl := htl rfl
      simp only at hv1 hv2 hl
      have hmc : ∀ chk anc w, Tm (.mch ⟨ahead, line, chk, anc, opn, w⟩ true) [.cells 0 55 [.int .i64 (Int.ofNat ahead), .vec p 2 1 lo len cap, .ptr 4 0, .ptr 5 0, .vec q 3 2 lo2 len2 cap2, .bool w, .fn (.func 25) [.ptr 1 0] []], .arr p true 2 5 encB xs, .arr q true 3 224 encK ys, .abs (.chk chk) [4], .abs (.anc anc) [5]] :=
        fun chk anc w => ⟨p, lo, len, cap, xs, q, lo2, len2, cap2, ys, _, hv1, hv2, hl, fun _ => rfl, (fun h => nomatch h), rfl⟩
      refine load_ ty_ok rfl ?_
      cases opn with
      | nil =>
        obtain rfl : len2 = 0 := by have := hv2.length; simpa using this.symm
        simp only at hK
        cbv
        refine cond_T hN (by rw [ceq hN]; simp) ?_
        cbv
        refine op_ hN (op_close rfl (.mch ⟨ahead, line, chk, anc, [], waits⟩ true) [0, 1] [3, 4, 5, 6] _ (hmc chk anc waits) rfl rfl (call_ (first_spec hb hfl ⟨⟨ahead, line, chk, anc, [], waits⟩, core⟩ t k g ht hkt) hG [0, 1, 2] rfl rfl rfl rfl rfl ?_))
        simp only [OM.bind] at hK
        generalize firstM right numRead t k ⟨⟨ahead, line, chk, anc, [], waits⟩, core⟩ = y at hK ⊢
        obtain ⟨r, s'⟩ := y
        cases r with
        | ok a => cbv; exact hf _ _ (fin_ [] rfl rfl hK)
        | err e a => cbv; exact hf _ _ (fin_ [] rfl rfl hK)
        | ovf => exact hK.elim
      | cons x l =>
        obtain ⟨kind, stands⟩ := x
        obtain ⟨hpt, hlen, hx, hv3⟩ := rev_last hv2
        generalize hll : l.length = ll at hlen hx hv3
        have hroom := hv2.room
        have hfits := hv2.fits
        have hl2 : ll < 4611686018427387904 := by have := hl.2; simp at this; omega
        have hsub : bi .sub .i64 (Int.ofNat len2) 1 = Int.ofNat ll := by rw [isub hN (by simp; omega) (by simp; omega)]; simp; omega
        have hidx : bp lo2 (Int.ofNat ll) = lo2 + ll := by rw [bp_ hN]; simp
        have hob1 : obsP [.inb (Int.ofNat ll) (Int.ofNat len2), .tru q] := ⟨⟨by simp, by simp; omega⟩, hpt, trivial⟩
        have hil : bp lo2 (Int.ofNat ll) < ys.length := by rw [hidx]; omega
        simp only at hK
        cbv
        refine cond_F hN (by rw [ceq hN]; simp; omega) ?_
        cbv
        simp only [hsub]
        cbv
        repeat' (first | exact True.intro | with_reducible refine dup ?_ | refine And.intro ?_ ?_ | (refine ob_ hN hob1 ?_; try cbv))
        all_goals
          refine op_ hN (load_arr ty_ok rfl hpt rfl wideK (Nat.le_of_ble_eq_true rfl) hil ?_)
          intro x2 hx2
          rw [hidx, hx] at hx2
          obtain rfl := (Option.some.inj hx2).symm
          cbv
          repeat' (first | exact True.intro | with_reducible refine dup ?_ | refine And.intro ?_ ?_)
          all_goals
            refine cond_ hN (fun h5 => ?_) (fun h5 => ?_)
            · rw [ceq hN] at h5
              rw [if_pos (by simpa using h5)] at hK
              cbv
              refine op_ hN (op_close rfl (.mch ⟨ahead, line, chk, anc, (kind, stands) :: l, waits⟩ true) [0, 1] [3, 4, 5, 6] _ (hmc chk anc waits) rfl rfl (call_ (item_spec hb hfl ⟨⟨ahead, line, chk, anc, (kind, stands) :: l, waits⟩, core⟩ t k g ht) hG [0, 1, 2] rfl rfl rfl rfl rfl ?_))
              simp only [OM.bind] at hK
              generalize itemM right numRead t k ⟨⟨ahead, line, chk, anc, (kind, stands) :: l, waits⟩, core⟩ = y at hK ⊢
              obtain ⟨r, s'⟩ := y
              cases r with
              | ok a => cbv; exact hf _ _ (fin_ [] rfl rfl hK)
              | err e a => cbv; exact hf _ _ (fin_ [] rfl rfl hK)
              | ovf => exact hK.elim
            · rw [ceq hN] at h5
              rw [if_neg (by simpa using h5)] at hK
              cbv
              refine op_ hN (op_close rfl (.mch ⟨ahead, line, chk, anc, (kind, stands) :: l, waits⟩ true) [0, 1] [3, 4, 5, 6] _ (hmc chk anc waits) rfl rfl (call_ (field_spec hb hfl ⟨⟨ahead, line, chk, anc, (kind, stands) :: l, waits⟩, core⟩ t k g ht (by omega)) hG [0, 1, 2] rfl rfl rfl rfl rfl ?_))
              simp only [OM.bind] at hK
              generalize fieldM right numRead t k ⟨⟨ahead, line, chk, anc, (kind, stands) :: l, waits⟩, core⟩ = y at hK ⊢
              obtain ⟨r, s'⟩ := y
              cases r with
              | ok a => cbv; exact hf _ _ (fin_ [] rfl rfl hK)
              | err e a => cbv; exact hf _ _ (fin_ [] rfl rfl hK)
              | ovf => exact hK.elim
end Hx
