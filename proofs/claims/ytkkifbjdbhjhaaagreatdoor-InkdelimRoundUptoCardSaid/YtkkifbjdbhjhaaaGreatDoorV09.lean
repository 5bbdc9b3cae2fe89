/-
  Part of a proof.
-/
import Derived.Test.YtkkifbjdbhjhaaaGreatDoorV08
set_option linter.unusedVariables false
set_option linter.unusedSimpArgs false
/- events.Check.Step takes an event: the walk. -/
namespace Hx
open Go Sx Go.Proofs
set_option maxRecDepth 100000
set_option maxHeartbeats 8000000
set_option linter.unusedVariables false
set_option linter.unusedSimpArgs false
variable {GOk : Gl → Prop}
def k1234 (k : Int) : Bool := k == 1 || (k == 2 || (k == 3 || k == 4))
def k57a (k : Int) : Bool := k == 5 || (k == 7 || k == 10)
def endOf (k : Int) : Int := if k == 6 then 5 else if k == 9 then 7 else if k == 12 then 10 else 0
def chkOpen (c : Chk) (x : Ev) : Chk := { c with opens := ⟨x.kind, false, false, false, []⟩ :: c.opens }
def chkStep (right : Ev → Bool) (c : Chk) (x : Ev) : Int × Chk :=
  if !right x then (19, c)
  else if k1234 x.kind then (if !chkValue c x then (19, c) else (0, chkStands c x))
  else if k57a x.kind then (if !chkValue c x then (19, c) else if c.opens.length ≥ 6 then (5, c) else (0, chkOpen (chkStands c x) x))
  else match c.opens with
    | [] => (19, c)
    | o :: r =>
      if x.kind == 8 then (if o.kind != 7 || o.key then (19, c) else ((opnNamed o x).1, { c with opens := (opnNamed o x).2 :: r }))
      else if x.kind == 11 then (if o.kind != 10 || o.full then (19, c) else ((opnNamed o x).1, { c with opens := (opnNamed o x).2 :: r }))
      else if o.kind != endOf x.kind || o.key then (19, c) else (0, { c with opens := r })
def endL : List (Sx.Lit × Sx.Lit) := [(.int .i64 6, .int .i64 5), (.int .i64 9, .int .i64 7), (.int .i64 12, .int .i64 10)]
theorem chkStep_le (right : Ev → Bool) (c : Chk) (x : Ev) (h : c.opens.length ≤ 6) : (chkStep right c x).2.opens.length ≤ 6 := by
  have hs : (chkStands c x).opens.length = c.opens.length := by unfold chkStands; split <;> simp [*]
  unfold chkStep
  split
  · exact h
  · split
    · split
      · exact h
      · exact hs ▸ h
    · split
      · split
        · exact h
        · split
          · exact h
          · simp only [chkOpen, List.length_cons, hs]; omega
      · split
        · exact h
        · rename_i o r hc
          have h' : (o :: r).length ≤ 6 := hc ▸ h
          simp only [List.length_cons] at h'
          split
          · split
            · exact h
            · simpa using h'
          · split
            · split
              · exact h
              · simpa using h'
            · split
              · exact h
              · simp only; omega
theorem step_none (right : Ev → Bool) 
    (c : Chk) (x : Ev) (hright : Triple (BB Ip GOk) 87 0 0 [.agg [.int .i64 x.kind, .str x.text, .str x.val]] [] (fun K => ∀ b, b = right x → K (.ret (.bool b)) [])) (h0 : c.opens = []) : Triple (BB Ip GOk) 62 1 1 [.ptr 0 0, .agg [.int .i64 x.kind, .str x.text, .str x.val]] [.abs (.chk c) [0]]
      (fun K => ∀ e c', (e, c') = chkStep right c x → K (.ret (.int .i64 e)) [.abs (.chk c') [0]]) := by
  obtain ⟨kind, text, val⟩ := x
  refine triple_of BB_ok (tb := ty) rfl (n0 := 2) (fun y : {cs' // Tm (.chk c) cs'} => csRen (sg [0] 1) y.1 ++ []) pl62 Tryz.call62 Tryz.func62 rfl (by kernel_rfl) (Nat.le_of_ble_eq_true rfl) (by decide) rfl (pre_open rfl rfl rfl) ?_
  rintro G hG K hK W bi bc bs bk bu bb bo bg bl bp bn be Ncond Nob Nop Nloop Nscope hN Nfin hf _ ⟨cs', hT⟩
  obtain ⟨hle, rfl⟩ := id hT
  have fin : ∀ (e : Int) c' k cs rest, chkStep right c ⟨kind, text, val⟩ = (e, c') → pickC [0] cs = some ([.abs (.chkL c') [0, k]], rest) → Nfin (.ret (.int .i64 e)) cs := by
    intro e c' k cs rest h hp
    exact hf _ _ (fin_close rfl (.chk c') [0] [k] [Chunk.abs (Pd.chkL c') [0, 1]] ⟨by have := chkStep_le right c ⟨kind, text, val⟩ hle; rw [h] at this; exact this, rfl⟩ hp (fin_ [] rfl rfl (hK _ _ h.symm)))
  have h1234 : k1234 kind = (bc .eql kind 1 || (bc .eql kind 2 || (bc .eql kind 3 || bc .eql kind 4))) := by rw [bc_ hN]; rfl
  have h57a : k57a kind = (bc .eql kind 5 || (bc .eql kind 7 || bc .eql kind 10)) := by rw [bc_ hN]; rfl
  cbv
  refine op_ hN (call_ hright hG [] rfl rfl rfl rfl rfl ?_)
  intro b hb1
  cases b with
  | false =>
    cbv
    refine cond_ hN (fun _ => ?_) (fun h => by simp at h)
    cbv
    exact fin 19 c 1 _ _ (by simp [chkStep, ← hb1]) rfl
  | true =>
    have hr := hb1.symm
    clear hb1
    cbv
    refine cond_ hN (fun h => by simp at h) (fun _ => ?_)
    cbv
    refine op_ hN (call_ (last_none c h0) hG [0, 1] rfl rfl rfl rfl rfl ?_)
    cbv
    repeat' (refine cond_ hN (fun _ => ?_) (fun _ => ?_) <;> cbv)
    all_goals first
      | (refine fin 19 c 1 _ _ ?_ rfl
         simp only [chkStep, hr, h1234, h57a, h0]
         simp only [*, Bool.not_true, Bool.false_eq_true, Bool.or_false, Bool.false_or, if_false]
         done)
      | skip
    all_goals try
      refine op_ hN (call_ (value_none c ⟨kind, text, val⟩ h0) hG [0, 1] rfl rfl rfl rfl rfl ?_)
      intro b hb
      have hA : (bc .eql kind 1 || (bc .eql kind 2 || (bc .eql kind 3 || bc .eql kind 4))) = true := by
        simp only [*, Bool.true_or, Bool.or_true, Bool.false_or, Bool.or_false]
        done
      cases b with
      | false =>
        cbv
        refine cond_ hN (fun _ => ?_) (fun h => by simp at h)
        cbv
        refine fin 19 c 1 _ _ ?_ rfl
        simp [chkStep, hr, h1234, hA, ← hb]
      | true =>
        cbv
        refine cond_ hN (fun h => by simp at h) (fun _ => ?_)
        cbv
        refine op_ hN (call_ (stands_none c ⟨kind, text, val⟩ h0) hG [0, 1] rfl rfl rfl rfl rfl ?_)
        intro d hd
        cbv
        refine fin 0 d 1 _ _ ?_ rfl
        simp [chkStep, hr, h1234, hA, ← hb, hd]
    all_goals try
      have hB : (bc .eql kind 1 || (bc .eql kind 2 || (bc .eql kind 3 || bc .eql kind 4))) = false ∧ (bc .eql kind 5 || (bc .eql kind 7 || bc .eql kind 10)) = false := by
        constructor <;> (simp only [*, Bool.true_or, Bool.or_true, Bool.false_or, Bool.or_false]; done)
      refine op_ hN (update_ ty_ok (.int .i64 6) (.int .i64 5) (.inr rfl) rfl rfl rfl rfl rfl rfl (fun _ => rfl) rfl (by simp) (by simp) ?_)
      cbv
      refine op_ hN (update_ ty_ok (.int .i64 9) (.int .i64 7) (.inr rfl) rfl rfl rfl rfl rfl rfl (fun _ => rfl) rfl (by simp [keyK, MapKept.IsKey, Sx.Lit.val]) (by simp) ?_)
      cbv
      refine op_ hN (update_ ty_ok (.int .i64 12) (.int .i64 10) (.inr rfl) rfl rfl rfl rfl rfl rfl (fun _ => rfl) rfl (by simp [keyK, MapKept.IsKey, Sx.Lit.val]) (by simp) ?_)
      cbv
      repeat' (first | refine And.intro ?_ ?_ | exact True.intro)
      all_goals
        refine fin 19 c 1 _ _ ?_ rfl
        simp [chkStep, hr, h1234, h57a, hB.1, hB.2, h0]
    all_goals
      refine op_ hN (call_ (value_none c ⟨kind, text, val⟩ h0) hG [0, 1] rfl rfl rfl rfl rfl ?_)
      intro b hb
      have hB : (bc .eql kind 1 || (bc .eql kind 2 || (bc .eql kind 3 || bc .eql kind 4))) = false ∧ (bc .eql kind 5 || (bc .eql kind 7 || bc .eql kind 10)) = true := by
        constructor <;> (simp only [*, Bool.true_or, Bool.or_true, Bool.false_or, Bool.or_false]; done)
      cases b with
      | false =>
        cbv
        refine cond_ hN (fun _ => ?_) (fun h => by simp at h)
        cbv
        refine fin 19 c 1 _ _ ?_ rfl
        simp [chkStep, hr, h1234, h57a, hB.1, hB.2, ← hb]
      | true =>
        cbv
        refine cond_ hN (fun h => by simp at h) (fun _ => ?_)
        cbv
        refine op_ hN (op_open rfl 0 4 rfl rfl rfl rfl ?_)
        rintro _ ⟨p, lo, len, cap, xs, hT1⟩
        rw [h0] at hT1
        obtain ⟨hv, rfl⟩ := hT1
        have hl : len = 0 := by have := hv.length; simpa using this.symm
        subst hl
        refine load_ ty_ok rfl ?_
        have hT1 : Tm (.chkL c) [.cells 0 127 [.vec p 2 1 lo 0 cap, .bool c.over], .arr p true 2 129 encP xs] := by
          simp only [Tm, h0]; exact ⟨p, lo, 0, cap, xs, hv, rfl⟩
        generalize c.over = ov at *
        cbv
        refine cond_ hN (fun h => by rw [cge hN] at h; simp at h) (fun _ => ?_)
        cbv
        refine op_ hN (op_close rfl (.chkL c) [0, 1] [3] _ hT1 rfl rfl (call_ (stands_none c ⟨kind, text, val⟩ h0) hG [0, 1] rfl rfl rfl rfl rfl ?_))
        intro d hd
        have hd0 : d.opens = [] := by rw [hd]; simp only [chkStands, h0]
        cbv
        repeat' (first | refine And.intro ?_ ?_ | exact True.intro)
        all_goals
          refine op_ hN (op_open rfl 0 4 rfl rfl rfl rfl ?_)
          rintro _ ⟨p2, lo2, len2, cap2, xs2, hT2⟩
          rw [hd0] at hT2
          obtain ⟨hv2, rfl⟩ := hT2
          have hl : len2 = 0 := by have := hv2.length; simpa using this.symm
          subst hl
          refine load_ ty_ok rfl ?_
          generalize hov : d.over = dov at *
          cbv
          repeat' (first | refine And.intro ?_ ?_ | exact True.intro)
          all_goals
            refine op_ hN (op_name 16 rfl fun g => ?_)
            refine append_vec (new := [some g]) (z := none) ty_ok rfl rfl rfl rfl (fun k => by simp) rfl rfl wideP rfl rfl (src_ptr rfl (List.Mem.head _)) hv2.pr hv2.room hv2.fits (by simp) (by decide) ?_
            intro p3 lo3 m3 cap3 xs3 hm3 e1 e2 e3 e4
            have hT3 : Tm (.chkL (chkOpen d ⟨kind, text, val⟩)) [.cells 0 127 [.vec p3 2 1 lo3 m3 cap3, .bool dov], .arr p3 true 2 129 encP xs3, .at_ 1 g, .abs (.opn ⟨kind, false, false, false, []⟩) [1], .abs (.stk []) [3]] := by
              refine ⟨p3, lo3, m3, cap3, xs3, ?_⟩
              simp only [chkOpen, hd0]
              exact ⟨g, [], ⟨e1, e2, e3, by rw [e4]; simp [ptrsOf]⟩, rfl, by rw [hov]⟩
            have hres : chkStep right c ⟨kind, text, val⟩ = (0, chkOpen d ⟨kind, text, val⟩) := by
              simp [chkStep, hr, h1234, h57a, hB.1, hB.2, ← hb, h0, hd]
            cbv
            repeat' (first | refine And.intro ?_ ?_ | exact True.intro)
            all_goals
              refine hf _ _ (fin_cput 16 [.int .i64 kind, .bool false, .bool false, .bool false, .map 14] rfl (fun _ => rfl) ?_)
              refine fin_close rfl (.stk []) [30] [] [] rfl rfl ?_
              refine fin_close rfl (.opn ⟨kind, false, false, false, []⟩) [16] [14] _ ⟨[], rfl, rfl⟩ rfl ?_
              refine fin_close rfl (.chkL (chkOpen d ⟨kind, text, val⟩)) [0, 16] [26, 30] _ hT3 rfl ?_
              exact fin_close rfl (.chk (chkOpen d ⟨kind, text, val⟩)) [0] [16] [Chunk.abs (Pd.chkL (chkOpen d ⟨kind, text, val⟩)) [0, 1]] ⟨by have := chkStep_le right c ⟨kind, text, val⟩ hle; rw [hres] at this; exact this, rfl⟩ rfl (fin_ [] rfl rfl (hK _ _ hres.symm))
end Hx
