/-
  Part of a proof.
-/
import Derived.Test.YtlmbbchfaoeebaaGreatDoorV10
import Derived.Test.YtlmbbchfaoeebaaGreatDoorV03
import Derived.Test.YtlmbbchfaoeebaaGreatDoorV09
set_option linter.unusedVariables false
set_option linter.unusedSimpArgs false
/- pull.Core: fails, met. -/
namespace Hx
open Go Sx Go.Proofs
set_option maxRecDepth 100000
set_option maxHeartbeats 4000000
set_option linter.unusedVariables false
set_option linter.unusedSimpArgs false
variable {GOk : Gl → Prop}
def failC (c : Core) (e : Int) : Core := { c with over := true, err := e }
theorem fails_spec (tv td : Nat) (c : Core) (e : Int) : Triple (BB Ip GOk) 30 2 2 [.ptr 0 0, .int .i64 e] [.abs (.core c tv td) [0, 1]] (fun K => K (.ret (.tuple [])) [.abs (.core (failC c e) tv td) [0, 1]]) := by
  obtain ⟨⟨sl, sa, sb⟩, queue, cat, closed, over, err, told⟩ := c
  refine triple_of BB_ok (tb := ty) rfl (n0 := 4) (fun y : {cs' // Tm (.core ⟨⟨sl, sa, sb⟩, queue, cat, closed, over, err, told⟩ tv td) cs'} => csRen (sg [0, 1] 2) y.1 ++ []) pl30 Tryz.call30 Tryz.func30 rfl (by kernel_rfl) (Nat.le_of_ble_eq_true rfl) (by decide) rfl (pre_open rfl rfl rfl) ?_
  rintro G hG K hK W bi bc bs bk bu bb bo bg bl bp bn be Ncond Nob Nop Nloop Nscope hN Nfin hf _ ⟨cs', hT⟩
  obtain ⟨p, lo, len, cap, xs, hv, rfl⟩ := id hT
  simp only at hv
  cbv
  exact hf _ _ (fin_cput 0 [.iface tv (.ptr 1 0), .ptr 2 0, .vec p 3 3 lo len cap, .int .i64 (Int.ofNat cat), .bool closed, .bool true, .int .i64 e, .bool told] rfl (fun _ => rfl) (fin_close rfl (.core ⟨⟨sl, sa, sb⟩, queue, cat, closed, true, e, told⟩ tv td) [0, 1] [2, 3] _ ⟨p, lo, len, cap, xs, hv, rfl⟩ rfl (fin_ [] rfl rfl hK)))
/-- what a machine that is pulled must do: M: its states; pd: how they lie; t: is there one to tell? -/
structure MachOk (GOk : Gl → Prop) {M : Type} (pd : M → Bool → Pd) (tv td : Nat) (stepM : UInt8 → OS M → Option (Int × OS M)) (endM : OS M → Option (Int × OS M)) (atM : M → Option Nat) : Prop where
  step : ∃ f, (∀ v w, (method (P.types.size + Made.depth) tv v "Step").run P w = .ok (f, v) w) ∧ ∀ (s : OS M) (t : Bool) (x : UInt8) (b : Int), ((x.toNat : Nat) : Int) = b →
    Triple (BB Ip GOk) f 2 2 [.ptr 0 0, .int .u8 b, .fn (.func 31) [.ptr 1 0] []] [.abs (pd s.m t) [0, 1], .abs (.core s.c tv td) [1, 0]]
      (fun K => match stepM x s with
        | none => False
        | some (e, s') => ∀ t', K (.ret (.int .i64 e)) [.abs (pd s'.m t') [0, 1], .abs (.core s'.c tv td) [1, 0]])
  fin : ∃ f, (∀ v w, (method (P.types.size + Made.depth) tv v "End").run P w = .ok (f, v) w) ∧ ∀ (s : OS M) (t : Bool),
    Triple (BB Ip GOk) f 2 2 [.ptr 0 0, .fn (.func 31) [.ptr 1 0] []] [.abs (pd s.m t) [0, 1], .abs (.core s.c tv td) [1, 0]]
      (fun K => match endM s with
        | none => False
        | some (e, s') => ∀ t', K (.ret (.int .i64 e)) [.abs (pd s'.m t') [0, 1], .abs (.core s'.c tv td) [1, 0]])
  place : (∃ f, (∀ v w, (method (P.types.size + Made.depth) tv v "At").run P w = .ok (f, v) w) ∧ (∀ (u : Value) (w : World), (Instr.typeAssert (.iface tv u) 35 96 true).run P w = .ok (.tuple #[.iface tv u, .bool true]) w) ∧
      ∀ (m : M) (t : Bool), ∃ k, atM m = some k ∧ Triple (BB Ip GOk) f 2 2 [.ptr 0 0] [.abs (pd m t) [0, 1]] (fun K => K (.ret (.int .i64 (Int.ofNat k))) [.abs (pd m t) [0, 1]])) ∨
    ((∀ (u : Value) (w : World), (Instr.typeAssert (.iface tv u) 35 96 true).run P w = .ok (.tuple #[.nilIface, .bool false]) w) ∧ ∀ m, atM m = none)
/-- an error was met, or the end -/
def metG {M : Type} (atM : M → Option Nat) (e : Int) (s : OS M) : OS M := { s with c := { s.c with over := true, err := e, at_ := if e ≠ 0 then (atM s.m).getD s.c.at_ else s.c.at_ } }
variable {M : Type} {pd : M → Bool → Pd} {tv td : Nat} {stepM : UInt8 → OS M → Option (Int × OS M)} {endM : OS M → Option (Int × OS M)} {atM : M → Option Nat}
theorem met_spec (hm : MachOk GOk pd tv td stepM endM atM) (s : OS M) (t : Bool) (e : Int) : Triple (BB Ip GOk) 32 2 2 [.ptr 0 0, .int .i64 e] [.abs (.core s.c tv td) [0, 1], .abs (pd s.m t) [1, 0]]
    (fun K => K (.ret (.tuple [])) [.abs (.core (metG atM e s).c tv td) [0, 1], .abs (pd s.m t) [1, 0]]) := by
  obtain ⟨m, ⟨⟨sl, sa, sb⟩, queue, cat, closed, over, err, told⟩⟩ := s
  refine triple_of BB_ok (tb := ty) rfl (n0 := 2) (fun _ : Unit => _) pl32 Tryz.call32 Tryz.func32 rfl (by kernel_rfl) (Nat.le_of_ble_eq_true rfl) (by decide) rfl pre_none ?_
  rintro G hG K hK W bi bc bs bk bu bb bo bg bl bp bn be Ncond Nob Nop Nloop Nscope hN Nfin hf _ _
  cbv
  refine op_ hN (call_ (fails_spec tv td ⟨⟨sl, sa, sb⟩, queue, cat, closed, over, err, told⟩ e) hG [0, 1] rfl rfl rfl rfl rfl ?_)
  cbv
  refine op_ hN (op_open rfl 0 2 rfl rfl rfl rfl ?_)
  rintro _ ⟨p, lo, len, cap, xs, hv, rfl⟩
  simp only at hv
  refine load_ ty_ok rfl ?_
  cbv
  rcases hm.place with ⟨f, hmeth, hass, hat⟩ | ⟨hass, hat⟩
  · refine op_ hN (assert_if hass ?_)
    cbv
    refine cond_ hN (fun h => ?_) (fun h => ?_)
    · rw [cne hN] at h
      have he : e ≠ 0 := by simpa using h
      obtain ⟨k, hk, hT⟩ := hat m t
      have hM : (metG atM e ⟨m, ⟨⟨sl, sa, sb⟩, queue, cat, closed, over, err, told⟩⟩).c = ⟨⟨sl, sa, sb⟩, queue, k, closed, true, e, told⟩ := by simp only [metG]; rw [if_pos he, hk]; rfl
      simp only [hM] at hK
      cbv
      refine op_ hN (invoke_ hT hG [1, 0] hmeth rfl rfl rfl rfl rfl ?_)
      cbv
      exact hf _ _ (fin_cput 0 [.iface tv (.ptr 1 0), .ptr 2 0, .vec p 3 3 lo len cap, .int .i64 (Int.ofNat k), .bool closed, .bool true, .int .i64 e, .bool told] rfl (fun _ => rfl) (fin_close rfl (.core ⟨⟨sl, sa, sb⟩, queue, k, closed, true, e, told⟩ tv td) [0, 1] [2, 3] _ ⟨p, lo, len, cap, xs, hv, rfl⟩ rfl (fin_ [] rfl rfl hK)))
    · rw [cne hN] at h
      have he : ¬ e ≠ 0 := by simpa using h
      have hM : (metG atM e ⟨m, ⟨⟨sl, sa, sb⟩, queue, cat, closed, over, err, told⟩⟩).c = ⟨⟨sl, sa, sb⟩, queue, cat, closed, true, e, told⟩ := by simp only [metG]; rw [if_neg he]
      simp only [hM] at hK
      cbv
      exact hf _ _ (fin_close rfl (.core ⟨⟨sl, sa, sb⟩, queue, cat, closed, true, e, told⟩ tv td) [0, 1] [2, 3] _ ⟨p, lo, len, cap, xs, hv, rfl⟩ rfl (fin_ [] rfl rfl hK))
  · have hM : (metG atM e ⟨m, ⟨⟨sl, sa, sb⟩, queue, cat, closed, over, err, told⟩⟩).c = ⟨⟨sl, sa, sb⟩, queue, cat, closed, true, e, told⟩ := by simp only [metG, hat]; split <;> rfl
    simp only [hM] at hK
    refine op_ hN (assert_no hass ?_)
    cbv
    exact hf _ _ (fin_close rfl (.core ⟨⟨sl, sa, sb⟩, queue, cat, closed, true, e, told⟩ tv td) [0, 1] [2, 3] _ ⟨p, lo, len, cap, xs, hv, rfl⟩ rfl (fin_ [] rfl rfl hK))
end Hx
/- pull.Core.Feed. -/
namespace Hx
open Go Sx Go.Proofs
set_option maxRecDepth 100000
set_option maxHeartbeats 4000000
set_option linter.unusedVariables false
set_option linter.unusedSimpArgs false
variable {GOk : Gl → Prop}
def feedG {M : Type} (stepM : UInt8 → OS M → Option (Int × OS M)) (atM : M → Option Nat) : List UInt8 → OS M → Option (OS M)
  | [], s => some s
  | x :: r, s => if s.c.over then some s else
    match scanStep s.c.scan (x.toNat : Nat) with
    | (false, sc) => some { s with c := { s.c with scan := sc, over := true, err := 3 } }
    | (true, sc) => match stepM x { s with c := { s.c with scan := sc } } with
      | none => none
      | some (e, s') => if e ≠ 0 then some (metG atM e s') else if s'.c.at_ > 1000000 then none else feedG stepM atM r { s' with c := { s'.c with at_ := s'.c.at_ + 1 } }
variable {M : Type} {pd : M → Bool → Pd} {tv td : Nat} {stepM : UInt8 → OS M → Option (Int × OS M)} {endM : OS M → Option (Int × OS M)} {atM : M → Option Nat}
def PostF {M : Type} (pd : M → Bool → Pd) (tv td : Nat) (rest : List (Chunk Pd)) (v : SV) (K : Out → List (Chunk Pd) → Prop) : Option (OS M) → Prop
  | none => False
  | some s => ∀ t, K (.ret v) ([.abs (.core s.c tv td) [0, 1], .abs (pd s.m t) [1, 0]] ++ rest)
theorem feed_spec (hm : MachOk GOk pd tv td stepM endM atM) (s : OS M) (t0 : Bool) (hcl : s.c.closed = false) (pt : Bool) (lo cap : Nat) (len : Nat) (xs text : List UInt8) (hv : VecOk pt lo len cap xs text) (hlen : len < 1000000) :
    Triple (BB Ip GOk) 19 3 3 [.ptr 0 0, .vec pt 2 1 lo len cap] [.abs (.core s.c tv td) [0, 1], .abs (pd s.m t0) [1, 0], .arr pt false 2 5 encB xs]
    (fun K => PostF pd tv td [.arr pt false 2 5 encB xs] (.bool true) K (feedG stepM atM text s)) := by
  obtain ⟨m, ⟨⟨sl, sa, sb⟩, queue, cat, closed, over, err, told⟩⟩ := s
  simp only at hcl
  subst hcl
  refine triple_of BB_ok (tb := ty) rfl (n0 := 5) (fun y : {cs' // Tm (.core ⟨⟨sl, sa, sb⟩, queue, cat, false, over, err, told⟩ tv td) cs'} => csRen (sg [0, 1] 3) y.1 ++ [.abs (pd m t0) [1, 0], .arr pt false 2 5 encB xs]) pl19 Tryz.call19 Tryz.func19 rfl (by kernel_rfl) (Nat.le_of_ble_eq_true rfl) (by decide) rfl (pre_open rfl rfl rfl) ?_
  rintro G hG K hK W bi bc bs bk bu bb bo bg bl bp bn be Ncond Nob Nop Nloop Nscope hN Nfin hf _ ⟨cs', hT⟩
  obtain ⟨p, lo1, len1, cap1, ys, hv1, rfl⟩ := id hT
  have hlt := hv.length
  have hroom := hv.room
  have hfits := hv.fits
  cbv
  refine cond_F hN rfl ?_
  cbv
  refine loopN_ hN (loop_ hN ty_ok mixed (ι := Nat × OS M × Bool) (fun y => ⟨[(0, .ptr 0 0), (12, .vec pt 2 1 lo len cap), (13, .int .i64 (Int.ofNat len)), (14, .int .i64 (Int.ofNat y.1))], [.abs (.core y.2.1.c tv td) [0, 1], .abs (pd y.2.1.m y.2.2) [1, 0], .arr pt false 2 5 encB xs], 3⟩)
    (fun y => y.1 ≤ len ∧ feedG stepM atM (text.drop y.1) y.2.1 = feedG stepM atM text ⟨m, ⟨⟨sl, sa, sb⟩, queue, cat, false, over, err, told⟩⟩) (fun y => len - y.1) ?_ ?_)
  · refine leads_close rfl (.core ⟨⟨sl, sa, sb⟩, queue, cat, false, over, err, told⟩ tv td) [0, 1] [3, 4] _ hT rfl ?_
    exact Leads.idx (0, ⟨m, ⟨⟨sl, sa, sb⟩, queue, cat, false, over, err, told⟩⟩, t0) [] ⟨Nat.zero_le _, rfl⟩ ⟨⟨rfl, rfl, rfl, rfl, trivial⟩, rfl, Nat.le_of_ble_eq_true rfl⟩
  rintro ⟨i, s1, t⟩ ⟨hi, hgo⟩ Nnext hn _
  simp only at hi hgo
  cbv
  refine cond_ hN (fun h => ?_) (fun h => ?_)
  · rw [clt hN] at h
    simp only [decide_eq_true_eq, decide_eq_false_iff_not, Int.ofNat_eq_natCast, gt_iff_lt, ge_iff_le, Bool.not_eq_true', Bool.not_eq_false', Int.not_lt, Int.not_le] at h
    have hilt : i < len := by have : (i : Int) < (len : Int) := h; omega
    have hpt : pt = true := by
      cases pt with
      | true => rfl
      | false => have := hv.pr rfl; omega
    have hidx : bp lo (Int.ofNat i) = lo + i := by rw [bp_ hN]; simp
    have hil : i < text.length := by omega
    have hx : xs[lo + i]? = some (text[i]'hil) := by
      have h5 : ((xs.drop lo).take len)[i]? = some (text[i]'hil) := by rw [hv.eq]; exact List.getElem?_eq_getElem hil
      rw [List.getElem?_take, if_pos hilt, List.getElem?_drop] at h5
      exact h5
    have hdrop : text.drop i = (text[i]'hil) :: text.drop (i + 1) := List.drop_eq_getElem_cons hil
    generalize (text[i]'hil) = x at hx hdrop
    rw [hdrop] at hgo
    cbv
    refine ob_ hN ⟨⟨by simp, by simpa using hilt⟩, hpt, trivial⟩ ?_
    cbv
    refine op_ hN (load_byte ty_ok rfl hpt rfl rfl (by rw [hidx]; omega) ?_)
    intro x2 b hx2 hxb
    rw [hidx, hx] at hx2
    obtain rfl := (Option.some.inj hx2).symm
    obtain ⟨m1, ⟨⟨sl1, sa1, sb1⟩, queue1, cat1, closed1, over1, err1, told1⟩⟩ := s1
    cbv
    refine op_ hN (op_open rfl 0 2 rfl rfl rfl rfl ?_)
    rintro _ ⟨p, lo1, len1, cap1, ys, hv1, rfl⟩
    simp only at hv1
    have hcore : ∀ sl sa sb cat over err, Tm (.core ⟨⟨sl, sa, sb⟩, queue1, cat, closed1, over, err, told1⟩ tv td) [.cells 0 td [.iface tv (.ptr 1 0), .ptr 2 0, .vec p 3 3 lo1 len1 cap1, .int .i64 (Int.ofNat cat), .bool closed1, .bool over, .int .i64 err, .bool told1], .cells 2 94 [.int .i64 sl, .int .u8 sa, .int .u8 sb], .arr p true 3 44 encE ys] :=
      fun sl sa sb cat over err => ⟨p, lo1, len1, cap1, ys, hv1, rfl⟩
    refine load_ ty_ok rfl ?_
    simp only [feedG] at hgo
    cbv
    refine cond_ hN (fun h2 => ?_) (fun h2 => ?_)
    · subst h2
      rw [if_pos rfl] at hgo
      rw [← hgo] at hK
      cbv
      exact hf _ _ (fin_as (.bool true) (fun _ => rfl) (fin_close rfl (.core ⟨⟨sl1, sa1, sb1⟩, queue1, cat1, closed1, true, err1, told1⟩ tv td) [0, 1] [3, 4] _ (hcore _ _ _ _ _ _) rfl (fin_ [] rfl rfl (hK t))))
    · subst h2
      rw [if_neg (by simp), ← hxb] at hgo
      cbv
      refine op_ hN (call_ (scan_step_spec ⟨sl1, sa1, sb1⟩ b) hG [3] rfl rfl rfl rfl rfl ?_)
      intro r sc hsc
      rw [← hsc] at hgo
      obtain ⟨sl2, sa2, sb2⟩ := sc
      cases r with
      | false =>
        simp only at hgo
        rw [← hgo] at hK
        cbv
        refine cond_T hN rfl ?_
        cbv
        refine op_ hN (op_close rfl (.core ⟨⟨sl2, sa2, sb2⟩, queue1, cat1, closed1, false, err1, told1⟩ tv td) [0, 1] [3, 4] _ (hcore _ _ _ _ _ _) rfl rfl ?_)
        refine call_ (fails_spec tv td ⟨⟨sl2, sa2, sb2⟩, queue1, cat1, closed1, false, err1, told1⟩ 3) hG [0, 1] rfl rfl rfl rfl rfl ?_
        cbv
        exact hf _ _ (fin_as (.bool true) (fun _ => rfl) (fin_ [] rfl rfl (hK t)))
      | true =>
        simp only at hgo
        cbv
        refine cond_F hN rfl ?_
        cbv
        refine op_ hN (op_close rfl (.core ⟨⟨sl2, sa2, sb2⟩, queue1, cat1, closed1, false, err1, told1⟩ tv td) [0, 1] [3, 4] _ (hcore _ _ _ _ _ _) rfl rfl ?_)
        obtain ⟨fs, hmeth, hstep⟩ := hm.step
        refine invoke_ (hstep ⟨m1, ⟨⟨sl2, sa2, sb2⟩, queue1, cat1, closed1, false, err1, told1⟩⟩ t x2 b hxb.symm) hG [1, 0] hmeth rfl rfl rfl rfl rfl ?_
        generalize stepM x2 ⟨m1, ⟨⟨sl2, sa2, sb2⟩, queue1, cat1, closed1, false, err1, told1⟩⟩ = y at hgo ⊢
        cases y with
        | none => simp only at hgo; rw [← hgo] at hK; exact hK.elim
        | some z =>
          obtain ⟨e, s2⟩ := z
          simp only at hgo
          intro t2
          cbv
          refine cond_ hN (fun h3 => ?_) (fun h3 => ?_)
          · rw [cne hN] at h3
            rw [if_pos (by simpa using h3)] at hgo
            rw [← hgo] at hK
            have hK2 : K (.ret (.bool true)) ([.abs (.core (metG atM e s2).c tv td) [0, 1], .abs (pd s2.m t2) [1, 0]] ++ [.arr pt false 2 5 encB xs]) := hK t2
            cbv
            refine op_ hN (call_ (met_spec hm s2 t2 e) hG [0, 1] rfl rfl rfl rfl rfl ?_)
            generalize (metG atM e s2).c = c' at hK2 ⊢
            cbv
            exact hf _ _ (fin_as (.bool true) (fun _ => rfl) (fin_ [] rfl rfl hK2))
          · rw [cne hN] at h3
            rw [if_neg (by simpa using h3)] at hgo
            by_cases hA : s2.c.at_ > 1000000
            · rw [if_pos hA] at hgo; rw [← hgo] at hK; exact hK.elim
            rw [if_neg hA] at hgo
            obtain ⟨m2, ⟨⟨sl3, sa3, sb3⟩, queue3, cat3, closed3, over3, err3, told3⟩⟩ := s2
            simp only at hA hgo
            have hadd : bi .add .i64 (Int.ofNat cat3) 1 = Int.ofNat (cat3 + 1) := inext hN (by omega)
            have hadd2 : bi .add .i64 (Int.ofNat i) 1 = Int.ofNat (i + 1) := inext hN (by omega)
            cbv
            refine op_ hN (op_open rfl 0 2 rfl rfl rfl rfl ?_)
            rintro _ ⟨p3, lo3, len3, cap3, zs, hv3, rfl⟩
            refine load_ ty_ok rfl ?_
            cbv
            simp only [hadd, hadd2]
            refine hn _ (leads_close rfl (.core ⟨⟨sl3, sa3, sb3⟩, queue3, cat3 + 1, closed3, over3, err3, told3⟩ tv td) [0, 1] [5, 6] _ ⟨p3, lo3, len3, cap3, zs, hv3, rfl⟩ rfl ?_)
            exact Leads.nxt (i + 1, ⟨m2, ⟨⟨sl3, sa3, sb3⟩, queue3, cat3 + 1, closed3, over3, err3, told3⟩⟩, t2) [] ⟨hilt, hgo⟩ (by simp only; omega) ⟨⟨rfl, rfl, rfl, rfl, trivial⟩, rfl, Nat.le_of_ble_eq_true rfl⟩
  · rw [clt hN] at h
    simp only [decide_eq_true_eq, decide_eq_false_iff_not, Int.ofNat_eq_natCast, gt_iff_lt, ge_iff_le, Bool.not_eq_true', Bool.not_eq_false', Int.not_lt, Int.not_le] at h
    have hie : i = len := by have : (len : Int) ≤ (i : Int) := h; omega
    rw [hie, ← hlt, List.drop_length] at hgo
    simp only [feedG] at hgo
    rw [← hgo] at hK
    cbv
    exact hf _ _ (fin_as (.bool true) (fun _ => rfl) (fin_ [] rfl rfl (hK t)))
end Hx
/- pull.Core.Close, All. -/
namespace Hx
open Go Sx Go.Proofs
set_option maxRecDepth 100000
set_option maxHeartbeats 4000000
set_option linter.unusedVariables false
set_option linter.unusedSimpArgs false
variable {GOk : Gl → Prop}
def closeG {M : Type} (endM : OS M → Option (Int × OS M)) (atM : M → Option Nat) (s : OS M) : Option (OS M) :=
  if s.c.closed || s.c.over then some { s with c := { s.c with closed := true } }
  else if s.c.scan.left ≠ 0 then some { s with c := { s.c with closed := true, over := true, err := 3 } }
  else match endM { s with c := { s.c with closed := true } } with
    | none => none
    | some (e, s') => some (metG atM e s')
variable {M : Type} {pd : M → Bool → Pd} {tv td : Nat} {stepM : UInt8 → OS M → Option (Int × OS M)} {endM : OS M → Option (Int × OS M)} {atM : M → Option Nat}
theorem close_spec (hm : MachOk GOk pd tv td stepM endM atM) (s : OS M) (t : Bool) :
    Triple (BB Ip GOk) 20 2 2 [.ptr 0 0] [.abs (.core s.c tv td) [0, 1], .abs (pd s.m t) [1, 0]] (fun K => PostF pd tv td [] (.tuple []) K (closeG endM atM s)) := by
  obtain ⟨m, ⟨⟨sl, sa, sb⟩, queue, cat, closed, over, err, told⟩⟩ := s
  refine triple_of BB_ok (tb := ty) rfl (n0 := 4) (fun y : {cs' // Tm (.core ⟨⟨sl, sa, sb⟩, queue, cat, closed, over, err, told⟩ tv td) cs'} => csRen (sg [0, 1] 2) y.1 ++ [.abs (pd m t) [1, 0]]) pl20 Tryz.call20 Tryz.func20 rfl (by kernel_rfl) (Nat.le_of_ble_eq_true rfl) (by decide) rfl (pre_open rfl rfl rfl) ?_
  rintro G hG K hK W bi bc bs bk bu bb bo bg bl bp bn be Ncond Nob Nop Nloop Nscope hN Nfin hf _ ⟨cs', hT⟩
  obtain ⟨p, lo, len, cap, ys, hv, rfl⟩ := id hT
  simp only at hv
  have hcore : ∀ over err, Tm (.core ⟨⟨sl, sa, sb⟩, queue, cat, true, over, err, told⟩ tv td) [.cells 0 td [.iface tv (.ptr 1 0), .ptr 2 0, .vec p 3 3 lo len cap, .int .i64 (Int.ofNat cat), .bool true, .bool over, .int .i64 err, .bool told], .cells 2 94 [.int .i64 sl, .int .u8 sa, .int .u8 sb], .arr p true 3 44 encE ys] :=
    fun over err => ⟨p, lo, len, cap, ys, hv, rfl⟩
  cases closed with
  | true =>
    have hM : closeG endM atM ⟨m, ⟨⟨sl, sa, sb⟩, queue, cat, true, over, err, told⟩⟩ = some ⟨m, ⟨⟨sl, sa, sb⟩, queue, cat, true, over, err, told⟩⟩ := by unfold closeG; rw [if_pos (by simp)]
    rw [hM] at hK
    cbv
    refine cond_T hN rfl ?_
    cbv
    exact hf _ _ (fin_cput 0 [.iface tv (.ptr 1 0), .ptr 2 0, .vec p 3 3 lo len cap, .int .i64 (Int.ofNat cat), .bool true, .bool over, .int .i64 err, .bool told] rfl (fun _ => rfl) (fin_close rfl (.core ⟨⟨sl, sa, sb⟩, queue, cat, true, over, err, told⟩ tv td) [0, 1] [2, 3] _ (hcore _ _) rfl (fin_ [] rfl rfl (hK t))))
  | false =>
    cbv
    refine cond_F hN rfl ?_
    cbv
    cases over with
    | true =>
      have hM : closeG endM atM ⟨m, ⟨⟨sl, sa, sb⟩, queue, cat, false, true, err, told⟩⟩ = some ⟨m, ⟨⟨sl, sa, sb⟩, queue, cat, true, true, err, told⟩⟩ := by unfold closeG; rw [if_pos (by simp)]
      rw [hM] at hK
      refine cond_T hN rfl ?_
      cbv
      exact hf _ _ (fin_cput 0 [.iface tv (.ptr 1 0), .ptr 2 0, .vec p 3 3 lo len cap, .int .i64 (Int.ofNat cat), .bool true, .bool true, .int .i64 err, .bool told] rfl (fun _ => rfl) (fin_close rfl (.core ⟨⟨sl, sa, sb⟩, queue, cat, true, true, err, told⟩ tv td) [0, 1] [2, 3] _ (hcore _ _) rfl (fin_ [] rfl rfl (hK t))))
    | false =>
      refine cond_F hN rfl ?_
      cbv
      refine op_ hN (inline_ BB_ok (tb := ty) rfl pl33 Tryz.call33 Tryz.func33 rfl (by kernel_rfl) (Nat.le_of_ble_eq_true rfl) ?_)
      intro W2 bi2 bc2 bs2 bk2 bu2 bb2 bo2 bg2 bl2 bp2 bn2 be2 Ncond2 Nob2 Nop2 Nloop2 Nscope2 hN2
      cbv
      refine cond_ hN (fun h => ?_) (fun h => ?_)
      · rw [ceq hN2] at h
        have hs : sl ≠ 0 := fun hs => by rw [decide_eq_true hs] at h; exact nomatch h
        have hM : closeG endM atM ⟨m, ⟨⟨sl, sa, sb⟩, queue, cat, false, false, err, told⟩⟩ = some ⟨m, ⟨⟨sl, sa, sb⟩, queue, cat, true, true, 3, told⟩⟩ := by unfold closeG; rw [if_neg (by simp), if_pos hs]
        rw [hM] at hK
        cbv
        refine op_ hN (op_cput 0 [.iface tv (.ptr 1 0), .ptr 2 0, .vec p 3 3 lo len cap, .int .i64 (Int.ofNat cat), .bool true, .bool false, .int .i64 err, .bool told] rfl (fun _ => rfl) (op_close rfl (.core ⟨⟨sl, sa, sb⟩, queue, cat, true, false, err, told⟩ tv td) [0, 1] [2, 3] _ (hcore _ _) rfl rfl ?_))
        refine call_ (fails_spec tv td ⟨⟨sl, sa, sb⟩, queue, cat, true, false, err, told⟩ 3) hG [0, 1] rfl rfl rfl rfl rfl ?_
        cbv
        exact hf _ _ (fin_ [] rfl rfl (hK t))
      · rw [ceq hN2] at h
        have hs : ¬ sl ≠ 0 := fun hs => by rw [decide_eq_false hs] at h; exact nomatch h
        have hM : closeG endM atM ⟨m, ⟨⟨sl, sa, sb⟩, queue, cat, false, false, err, told⟩⟩ = (match endM ⟨m, ⟨⟨sl, sa, sb⟩, queue, cat, true, false, err, told⟩⟩ with
          | none => none
          | some (e, s') => some (metG atM e s')) := by unfold closeG; rw [if_neg (by simp), if_neg hs]
        rw [hM] at hK
        cbv
        refine op_ hN (op_cput 0 [.iface tv (.ptr 1 0), .ptr 2 0, .vec p 3 3 lo len cap, .int .i64 (Int.ofNat cat), .bool true, .bool false, .int .i64 err, .bool told] rfl (fun _ => rfl) (op_close rfl (.core ⟨⟨sl, sa, sb⟩, queue, cat, true, false, err, told⟩ tv td) [0, 1] [2, 3] _ (hcore _ _) rfl rfl ?_))
        obtain ⟨fe, hmeth, hfin⟩ := hm.fin
        refine invoke_ (hfin ⟨m, ⟨⟨sl, sa, sb⟩, queue, cat, true, false, err, told⟩⟩ t) hG [1, 0] hmeth rfl rfl rfl rfl rfl ?_
        generalize endM ⟨m, ⟨⟨sl, sa, sb⟩, queue, cat, true, false, err, told⟩⟩ = y at hK ⊢
        cases y with
        | none => exact hK.elim
        | some z =>
          obtain ⟨e, s2⟩ := z
          intro t2
          have hK2 : K (.ret (.tuple [])) ([.abs (.core (metG atM e s2).c tv td) [0, 1], .abs (pd s2.m t2) [1, 0]] ++ []) := hK t2
          cbv
          refine op_ hN (call_ (met_spec hm s2 t2 e) hG [0, 1] rfl rfl rfl rfl rfl ?_)
          generalize (metG atM e s2).c = c' at hK2 ⊢
          cbv
          exact hf _ _ (fin_ [] rfl rfl hK2)
def allG {M : Type} (stepM : UInt8 → OS M → Option (Int × OS M)) (endM : OS M → Option (Int × OS M)) (atM : M → Option Nat) (text : List UInt8) (s : OS M) : Option (OS M) := match feedG stepM atM text s with
  | none => none
  | some s => closeG endM atM s
def PostA {M : Type} (rest : List (Chunk Pd)) (K : Out → List (Chunk Pd) → Prop) : Option (OS M) → Prop
  | none => False
  | some s => ∀ p lo len cap xs, VecOk p lo len cap xs s.c.queue → K (.ret (.tuple [.vec p 3 3 lo len cap, .int .i64 s.c.err, .int .i64 (Int.ofNat s.c.at_)])) (.arr p true 3 44 encE xs :: rest)
theorem all_spec (hm : MachOk GOk pd tv td stepM endM atM) (s : OS M) (t0 : Bool) (hcl : s.c.closed = false) (pt : Bool) (lo cap : Nat) (len : Nat) (xs text : List UInt8) (hv : VecOk pt lo len cap xs text) (hlen : len < 1000000) :
    Triple (BB Ip GOk) 13 3 4 [.ptr 0 0, .vec pt 2 1 lo len cap] [.abs (.core s.c tv td) [0, 1], .abs (pd s.m t0) [1, 0], .arr pt false 2 5 encB xs]
    (fun K => PostA [.arr pt false 2 5 encB xs] K (allG stepM endM atM text s)) := by
  refine triple_of BB_ok (tb := ty) rfl (n0 := 3) (fun _ : Unit => _) pl13 Tryz.call13 Tryz.func13 rfl (by kernel_rfl) (Nat.le_of_ble_eq_true rfl) (by decide) rfl pre_none ?_
  rintro G hG K hK W bi bc bs bk bu bb bo bg bl bp bn be Ncond Nob Nop Nloop Nscope hN Nfin hf _ _
  cbv
  simp only [allG] at hK
  refine op_ hN (call_ (feed_spec hm s t0 hcl pt lo cap len xs text hv hlen) hG [0, 1, 2] rfl rfl rfl rfl rfl ?_)
  generalize feedG stepM atM text s = y at hK ⊢
  cases y with
  | none => exact hK.elim
  | some s1 =>
    simp only at hK
    intro t1
    cbv
    refine op_ hN (call_ (close_spec hm s1 t1) hG [0, 1] rfl rfl rfl rfl rfl ?_)
    generalize closeG endM atM s1 = y at hK ⊢
    cases y with
    | none => exact hK.elim
    | some s2 =>
      intro t2
      obtain ⟨m, ⟨⟨sl, sa, sb⟩, queue, cat, closed, over, err, told⟩⟩ := s2
      cbv
      repeat' (first | exact True.intro | with_reducible refine dup ?_ | refine And.intro ?_ ?_)
      all_goals
        refine op_ hN (op_open rfl 0 2 rfl rfl rfl rfl ?_)
        rintro _ ⟨p, lo1, len1, cap1, ys, hv1, rfl⟩
        refine load_ ty_ok rfl ?_
        cbv
        repeat' (first | exact True.intro | with_reducible refine dup ?_ | refine And.intro ?_ ?_)
        all_goals
          exact hf _ _ (fin_ [19] rfl rfl (hK p lo1 len1 cap1 ys hv1))
end Hx
/- pull.Core.Feed, All over a block that stood before. -/
namespace Hx
open Go Sx Go.Proofs
set_option maxRecDepth 100000
set_option maxHeartbeats 4000000
set_option linter.unusedVariables false
set_option linter.unusedSimpArgs false
variable {GOk : Gl → Prop}
variable {M : Type} {pd : M → Bool → Pd} {tv td : Nat} {stepM : UInt8 → OS M → Option (Int × OS M)} {endM : OS M → Option (Int × OS M)} {atM : M → Option Nat}
theorem feed_old (hm : MachOk GOk pd tv td stepM endM atM) (s : OS M) (t0 : Bool) (hcl : s.c.closed = false) (pt : Bool) (lo cap : Nat) (len : Nat) (g : Nat) (text : List UInt8) (hlt : text.length = len) (hpr : pt = false → len = 0) (hS : OldB GOk g lo text) (hlen : len < 1000000) :
    Triple (BB Ip GOk) 19 3 3 [.ptr 0 0, .vec pt 2 1 lo len cap] [.abs (.core s.c tv td) [0, 1], .abs (pd s.m t0) [1, 0], .at_ 2 g]
    (fun K => PostF pd tv td [.at_ 2 g] (.bool true) K (feedG stepM atM text s)) := by
  obtain ⟨m, ⟨⟨sl, sa, sb⟩, queue, cat, closed, over, err, told⟩⟩ := s
  simp only at hcl
  subst hcl
  refine triple_of BB_ok (tb := ty) rfl (n0 := 5) (fun y : {cs' // Tm (.core ⟨⟨sl, sa, sb⟩, queue, cat, false, over, err, told⟩ tv td) cs'} => csRen (sg [0, 1] 3) y.1 ++ [.abs (pd m t0) [1, 0], .at_ 2 g]) pl19 Tryz.call19 Tryz.func19 rfl (by kernel_rfl) (Nat.le_of_ble_eq_true rfl) (by decide) rfl (pre_open rfl rfl rfl) ?_
  rintro G hG K hK W bi bc bs bk bu bb bo bg bl bp bn be Ncond Nob Nop Nloop Nscope hN Nfin hf _ ⟨cs', hT⟩
  obtain ⟨p, lo1, len1, cap1, ys, hv1, rfl⟩ := id hT
  cbv
  refine cond_F hN rfl ?_
  cbv
  refine loopN_ hN (loop_ hN ty_ok mixed (ι := Nat × OS M × Bool) (fun y => ⟨[(0, .ptr 0 0), (12, .vec pt 2 1 lo len cap), (13, .int .i64 (Int.ofNat len)), (14, .int .i64 (Int.ofNat y.1))], [.abs (.core y.2.1.c tv td) [0, 1], .abs (pd y.2.1.m y.2.2) [1, 0], .at_ 2 g], 3⟩)
    (fun y => y.1 ≤ len ∧ feedG stepM atM (text.drop y.1) y.2.1 = feedG stepM atM text ⟨m, ⟨⟨sl, sa, sb⟩, queue, cat, false, over, err, told⟩⟩) (fun y => len - y.1) ?_ ?_)
  · refine leads_close rfl (.core ⟨⟨sl, sa, sb⟩, queue, cat, false, over, err, told⟩ tv td) [0, 1] [3, 4] _ hT rfl ?_
    exact Leads.idx (0, ⟨m, ⟨⟨sl, sa, sb⟩, queue, cat, false, over, err, told⟩⟩, t0) [] ⟨Nat.zero_le _, rfl⟩ ⟨⟨rfl, rfl, rfl, rfl, trivial⟩, rfl, Nat.le_of_ble_eq_true rfl⟩
  rintro ⟨i, s1, t⟩ ⟨hi, hgo⟩ Nnext hn _
  simp only at hi hgo
  cbv
  refine cond_ hN (fun h => ?_) (fun h => ?_)
  · rw [clt hN] at h
    simp only [decide_eq_true_eq, decide_eq_false_iff_not, Int.ofNat_eq_natCast, gt_iff_lt, ge_iff_le, Bool.not_eq_true', Bool.not_eq_false', Int.not_lt, Int.not_le] at h
    have hilt : i < len := by have : (i : Int) < (len : Int) := h; omega
    have hpt : pt = true := by
      cases pt with
      | true => rfl
      | false => have := hpr rfl; omega
    have hidx : bp lo (Int.ofNat i) = lo + i := by rw [bp_ hN]; simp
    have hil : i < text.length := by omega
    have hx : text[i]? = some (text[i]'hil) := List.getElem?_eq_getElem hil
    have hdrop : text.drop i = (text[i]'hil) :: text.drop (i + 1) := List.drop_eq_getElem_cons hil
    cbv
    refine ob_ hN ⟨⟨by simp, by simpa using hilt⟩, hpt, trivial⟩ ?_
    cbv
    generalize (text[i]'hil) = x2 at hx hdrop
    rw [hdrop] at hgo
    refine op_ hN (load_old (id := 2) (g := g) ty_ok (by simp [csRen, Chunk.ren, sg]) rfl rfl hG hS hidx hx ?_)
    intro b hxb
    obtain ⟨m1, ⟨⟨sl1, sa1, sb1⟩, queue1, cat1, closed1, over1, err1, told1⟩⟩ := s1
    cbv
    refine op_ hN (op_open rfl 0 2 rfl rfl rfl rfl ?_)
    rintro _ ⟨p, lo1, len1, cap1, ys, hv1, rfl⟩
    simp only at hv1
    have hcore : ∀ sl sa sb cat over err, Tm (.core ⟨⟨sl, sa, sb⟩, queue1, cat, closed1, over, err, told1⟩ tv td) [.cells 0 td [.iface tv (.ptr 1 0), .ptr 2 0, .vec p 3 3 lo1 len1 cap1, .int .i64 (Int.ofNat cat), .bool closed1, .bool over, .int .i64 err, .bool told1], .cells 2 94 [.int .i64 sl, .int .u8 sa, .int .u8 sb], .arr p true 3 44 encE ys] :=
      fun sl sa sb cat over err => ⟨p, lo1, len1, cap1, ys, hv1, rfl⟩
    refine load_ ty_ok rfl ?_
    simp only [feedG] at hgo
    cbv
    refine cond_ hN (fun h2 => ?_) (fun h2 => ?_)
    · subst h2
      rw [if_pos rfl] at hgo
      rw [← hgo] at hK
      cbv
      exact hf _ _ (fin_as (.bool true) (fun _ => rfl) (fin_close rfl (.core ⟨⟨sl1, sa1, sb1⟩, queue1, cat1, closed1, true, err1, told1⟩ tv td) [0, 1] [3, 4] _ (hcore _ _ _ _ _ _) rfl (fin_ [] rfl rfl (hK t))))
    · subst h2
      rw [if_neg (by simp), ← hxb] at hgo
      cbv
      refine op_ hN (call_ (scan_step_spec ⟨sl1, sa1, sb1⟩ b) hG [3] rfl rfl rfl rfl rfl ?_)
      intro r sc hsc
      rw [← hsc] at hgo
      obtain ⟨sl2, sa2, sb2⟩ := sc
      cases r with
      | false =>
        simp only at hgo
        rw [← hgo] at hK
        cbv
        refine cond_T hN rfl ?_
        cbv
        refine op_ hN (op_close rfl (.core ⟨⟨sl2, sa2, sb2⟩, queue1, cat1, closed1, false, err1, told1⟩ tv td) [0, 1] [3, 4] _ (hcore _ _ _ _ _ _) rfl rfl ?_)
        refine call_ (fails_spec tv td ⟨⟨sl2, sa2, sb2⟩, queue1, cat1, closed1, false, err1, told1⟩ 3) hG [0, 1] rfl rfl rfl rfl rfl ?_
        cbv
        exact hf _ _ (fin_as (.bool true) (fun _ => rfl) (fin_ [] rfl rfl (hK t)))
      | true =>
        simp only at hgo
        cbv
        refine cond_F hN rfl ?_
        cbv
        refine op_ hN (op_close rfl (.core ⟨⟨sl2, sa2, sb2⟩, queue1, cat1, closed1, false, err1, told1⟩ tv td) [0, 1] [3, 4] _ (hcore _ _ _ _ _ _) rfl rfl ?_)
        obtain ⟨fs, hmeth, hstep⟩ := hm.step
        refine invoke_ (hstep ⟨m1, ⟨⟨sl2, sa2, sb2⟩, queue1, cat1, closed1, false, err1, told1⟩⟩ t x2 b hxb.symm) hG [1, 0] hmeth rfl rfl rfl rfl rfl ?_
        generalize stepM x2 ⟨m1, ⟨⟨sl2, sa2, sb2⟩, queue1, cat1, closed1, false, err1, told1⟩⟩ = y at hgo ⊢
        cases y with
        | none => simp only at hgo; rw [← hgo] at hK; exact hK.elim
        | some z =>
          obtain ⟨e, s2⟩ := z
          simp only at hgo
          intro t2
          cbv
          refine cond_ hN (fun h3 => ?_) (fun h3 => ?_)
          · rw [cne hN] at h3
            rw [if_pos (by simpa using h3)] at hgo
            rw [← hgo] at hK
            have hK2 : K (.ret (.bool true)) ([.abs (.core (metG atM e s2).c tv td) [0, 1], .abs (pd s2.m t2) [1, 0]] ++ [.at_ 2 g]) := hK t2
            cbv
            refine op_ hN (call_ (met_spec hm s2 t2 e) hG [0, 1] rfl rfl rfl rfl rfl ?_)
            generalize (metG atM e s2).c = c' at hK2 ⊢
            cbv
            exact hf _ _ (fin_as (.bool true) (fun _ => rfl) (fin_ [] rfl rfl hK2))
          · rw [cne hN] at h3
            rw [if_neg (by simpa using h3)] at hgo
            by_cases hA : s2.c.at_ > 1000000
            · rw [if_pos hA] at hgo; rw [← hgo] at hK; exact hK.elim
            rw [if_neg hA] at hgo
            obtain ⟨m2, ⟨⟨sl3, sa3, sb3⟩, queue3, cat3, closed3, over3, err3, told3⟩⟩ := s2
            simp only at hA hgo
            have hadd : bi .add .i64 (Int.ofNat cat3) 1 = Int.ofNat (cat3 + 1) := inext hN (by omega)
            have hadd2 : bi .add .i64 (Int.ofNat i) 1 = Int.ofNat (i + 1) := inext hN (by omega)
            cbv
            refine op_ hN (op_open rfl 0 2 rfl rfl rfl rfl ?_)
            rintro _ ⟨p3, lo3, len3, cap3, zs, hv3, rfl⟩
            refine load_ ty_ok rfl ?_
            cbv
            simp only [hadd, hadd2]
            refine hn _ (leads_close rfl (.core ⟨⟨sl3, sa3, sb3⟩, queue3, cat3 + 1, closed3, over3, err3, told3⟩ tv td) [0, 1] [5, 6] _ ⟨p3, lo3, len3, cap3, zs, hv3, rfl⟩ rfl ?_)
            exact Leads.nxt (i + 1, ⟨m2, ⟨⟨sl3, sa3, sb3⟩, queue3, cat3 + 1, closed3, over3, err3, told3⟩⟩, t2) [] ⟨hilt, hgo⟩ (by simp only; omega) ⟨⟨rfl, rfl, rfl, rfl, trivial⟩, rfl, Nat.le_of_ble_eq_true rfl⟩
  · rw [clt hN] at h
    simp only [decide_eq_true_eq, decide_eq_false_iff_not, Int.ofNat_eq_natCast, gt_iff_lt, ge_iff_le, Bool.not_eq_true', Bool.not_eq_false', Int.not_lt, Int.not_le] at h
    have hie : i = len := by have : (len : Int) ≤ (i : Int) := h; omega
    rw [hie, ← hlt, List.drop_length] at hgo
    simp only [feedG] at hgo
    rw [← hgo] at hK
    cbv
    exact hf _ _ (fin_as (.bool true) (fun _ => rfl) (fin_ [] rfl rfl (hK t)))
theorem all_old (hm : MachOk GOk pd tv td stepM endM atM) (s : OS M) (t0 : Bool) (hcl : s.c.closed = false) (pt : Bool) (lo cap : Nat) (len : Nat) (g : Nat) (text : List UInt8) (hlt : text.length = len) (hpr : pt = false → len = 0) (hS : OldB GOk g lo text) (hlen : len < 1000000) :
    Triple (BB Ip GOk) 13 3 4 [.ptr 0 0, .vec pt 2 1 lo len cap] [.abs (.core s.c tv td) [0, 1], .abs (pd s.m t0) [1, 0], .at_ 2 g]
    (fun K => PostA [.at_ 2 g] K (allG stepM endM atM text s)) := by
  refine triple_of BB_ok (tb := ty) rfl (n0 := 3) (fun _ : Unit => _) pl13 Tryz.call13 Tryz.func13 rfl (by kernel_rfl) (Nat.le_of_ble_eq_true rfl) (by decide) rfl pre_none ?_
  rintro G hG K hK W bi bc bs bk bu bb bo bg bl bp bn be Ncond Nob Nop Nloop Nscope hN Nfin hf _ _
  cbv
  simp only [allG] at hK
  refine op_ hN (call_ (feed_old hm s t0 hcl pt lo cap len g text hlt hpr hS hlen) hG [0, 1, 2] rfl rfl rfl rfl rfl ?_)
  generalize feedG stepM atM text s = y at hK ⊢
  cases y with
  | none => exact hK.elim
  | some s1 =>
    simp only at hK
    intro t1
    cbv
    refine op_ hN (call_ (close_spec hm s1 t1) hG [0, 1] rfl rfl rfl rfl rfl ?_)
    generalize closeG endM atM s1 = y at hK ⊢
    cases y with
    | none => exact hK.elim
    | some s2 =>
      intro t2
      obtain ⟨m, ⟨⟨sl, sa, sb⟩, queue, cat, closed, over, err, told⟩⟩ := s2
      cbv
      repeat' (first | exact True.intro | with_reducible refine dup ?_ | refine And.intro ?_ ?_)
      all_goals
        refine op_ hN (op_open rfl 0 2 rfl rfl rfl rfl ?_)
        rintro _ ⟨p, lo1, len1, cap1, ys, hv1, rfl⟩
        refine load_ ty_ok rfl ?_
        cbv
        repeat' (first | exact True.intro | with_reducible refine dup ?_ | refine And.intro ?_ ?_)
        all_goals
          exact hf _ _ (fin_ [19] rfl rfl (hK p lo1 len1 cap1 ys hv1))
end Hx
