/-
  Part of a proof.
-/
import Derived.Test.YtkkifbjdbhjhaaaGreatDoorV09
set_option linter.unusedVariables false
set_option linter.unusedSimpArgs false
/- events.Check.Step takes an event, where something is open: the walk. -/
namespace Hx
open Go Sx Go.Proofs
set_option maxRecDepth 100000
set_option maxHeartbeats 16000000
set_option linter.unusedVariables false
set_option linter.unusedSimpArgs false
variable {GOk : Gl → Prop}
theorem endL_mem {k : Int} {v : Sx.Lit} (h : (Sx.Lit.int .i64 k, v) ∈ endL) : v = .int .i64 (endOf k) := by
  simp only [endL, List.mem_cons, Prod.mk.injEq, Sx.Lit.int.injEq, true_and, List.not_mem_nil, or_false] at h
  rcases h with ⟨rfl, rfl⟩ | ⟨rfl, rfl⟩ | ⟨rfl, rfl⟩ <;> rfl
theorem endL_not {k : Int} (h : ∀ x ∈ endL, x.1 ≠ Sx.Lit.int .i64 k) : endOf k = 0 := by
  have h1 := h _ (List.mem_cons_self ..)
  have h2 := h (.int .i64 9, .int .i64 7) (by simp [endL])
  have h3 := h (.int .i64 12, .int .i64 10) (by simp [endL])
  simp at h1 h2 h3
  simp only [endOf]
  rw [if_neg (by simp; omega), if_neg (by simp; omega), if_neg (by simp; omega)]
theorem step_some (right : Ev → Bool) 
    (c : Chk) (x : Ev) (hright : Triple (BB Ip GOk) 87 0 0 [.agg [.int .i64 x.kind, .str x.text, .str x.val]] [] (fun K => ∀ b, b = right x → K (.ret (.bool b)) [])) (o : Opn) (r : List Opn) (h0 : c.opens = o :: r) : Triple (BB Ip GOk) 62 1 1 [.ptr 0 0, .agg [.int .i64 x.kind, .str x.text, .str x.val]] [.abs (.chk c) [0]]
      (fun K => ∀ e c', (e, c') = chkStep right c x → K (.ret (.int .i64 e)) [.abs (.chk c') [0]]) := by
  obtain ⟨kind, text, val⟩ := x
  refine triple_of BB_ok (tb := ty) rfl (n0 := 2) (fun y : {cs' // Tm (.chk c) cs'} => csRen (sg [0] 1) y.1 ++ []) pl62 Tryz.call62 Tryz.func62 rfl (by kernel_rfl) (Nat.le_of_ble_eq_true rfl) (by decide) rfl (pre_open rfl rfl rfl) ?_
  rintro G hG K hK W bi bc bs bk bu bb bo bg bl bp bn be Ncond Nob Nop Nloop Nscope hN Nfin hf _ ⟨cs', hT⟩
  obtain ⟨hle, rfl⟩ := id hT
  have hlen : r.length ≤ 5 := by rw [h0] at hle; simpa using hle
  have fin : ∀ (e : Int) c' k cs rest, chkStep right c ⟨kind, text, val⟩ = (e, c') → pickC [0] cs = some ([.abs (.chkL c') [0, k]], rest) → Nfin (.ret (.int .i64 e)) cs := by
    intro e c' k cs rest h hp
    exact hf _ _ (fin_close rfl (.chk c') [0] [k] [Chunk.abs (Pd.chkL c') [0, 1]] ⟨by have := chkStep_le right c ⟨kind, text, val⟩ hle; rw [h] at this; exact this, rfl⟩ hp (fin_ [] rfl rfl (hK _ _ h.symm)))
  have h1234 : k1234 kind = (bc .eql kind 1 || (bc .eql kind 2 || (bc .eql kind 3 || bc .eql kind 4))) := by rw [bc_ hN]; rfl
  have h57a : k57a kind = (bc .eql kind 5 || (bc .eql kind 7 || bc .eql kind 10)) := by rw [bc_ hN]; rfl
  have h8 : (kind == 8) = bc .eql kind 8 := by rw [bc_ hN]; rfl
  have h11 : (kind == 11) = bc .eql kind 11 := by rw [bc_ hN]; rfl
  cbv
  refine op_ hN (call_ hright hG [] rfl rfl rfl rfl rfl ?_)
  intro b hb1
  cases b with
  | false =>
    cbv
    refine cond_ hN (fun _ => ?_) (fun h => by simp at h)
    cbv
    exact fin 19 c 1 _ _ (by simp [chkStep, ← hb1]) rfl
  | true =>
    have hr := hb1.symm
    clear hb1
    cbv
    refine cond_ hN (fun h => by simp at h) (fun _ => ?_)
    cbv
    refine op_ hN (call_ (last_some c o r h0 (by omega)) hG [0, 1] rfl rfl rfl rfl rfl ?_)
    cbv
    repeat' (refine cond_ hN (fun _ => ?_) (fun _ => ?_) <;> cbv)
    all_goals try
      refine op_ hN (call_ (value_some c ⟨kind, text, val⟩ o r h0 (by omega)) hG [0, 1] rfl rfl rfl rfl rfl ?_)
      intro b hb
      have hA : (bc .eql kind 1 || (bc .eql kind 2 || (bc .eql kind 3 || bc .eql kind 4))) = true := by
        simp only [*, Bool.true_or, Bool.or_true, Bool.false_or, Bool.or_false]
        done
      cases b with
      | false =>
        cbv
        refine cond_ hN (fun _ => ?_) (fun h => by simp at h)
        cbv
        refine fin 19 c 1 _ _ ?_ rfl
        simp [chkStep, hr, h1234, hA, ← hb]
      | true =>
        cbv
        refine cond_ hN (fun h => by simp at h) (fun _ => ?_)
        cbv
        refine op_ hN (call_ (stands_some c ⟨kind, text, val⟩ o r h0 (by omega)) hG [0, 1] rfl rfl rfl rfl rfl ?_)
        intro d hd
        cbv
        refine fin 0 d 1 _ _ ?_ rfl
        simp [chkStep, hr, h1234, hA, ← hb, hd]
    all_goals try
      have hB : (bc .eql kind 1 || (bc .eql kind 2 || (bc .eql kind 3 || bc .eql kind 4))) = false ∧ (bc .eql kind 5 || (bc .eql kind 7 || bc .eql kind 10)) = false := by
        constructor <;> (simp only [*, Bool.true_or, Bool.or_true, Bool.false_or, Bool.or_false]; done)
      refine op_ hN (op_open rfl 0 4 rfl rfl rfl rfl ?_)
      rintro _ ⟨p, lo, len, cap, xs, hT1⟩
      rw [h0] at hT1
      obtain ⟨g, l, hv, hlr, rfl⟩ := hT1
      refine op_open rfl 1 4 rfl rfl rfl rfl ?_
      obtain ⟨okind, okey, otext, ofull, ohad⟩ := o
      rintro _ ⟨es, hes, rfl⟩
      refine load_ ty_ok rfl ?_
      have hT2 : ∀ o2 : Opn, Tm (.chkL { c with opens := o2 :: r }) [.cells 0 127 [.vec p 2 1 lo len cap, .bool c.over], .arr p true 2 129 encP xs, .at_ 1 g, .abs (.opn o2) [1], .abs (.stk l) [3]] :=
        fun o2 => ⟨p, lo, len, cap, xs, g, l, hv, hlr, rfl⟩
      have hT0 : Tm (.chkL c) [.cells 0 127 [.vec p 2 1 lo len cap, .bool c.over], .arr p true 2 129 encP xs, .at_ 1 g, .abs (.opn ⟨okind, okey, otext, ofull, ohad⟩) [1], .abs (.stk l) [3]] := by
        refine ⟨p, lo, len, cap, xs, ?_⟩; rw [h0]; exact ⟨g, l, hv, hlr, rfl⟩
      generalize hov : c.over = ov at *
      cbv
      repeat' (refine cond_ hN (fun _ => ?_) (fun _ => ?_) <;> cbv)
      all_goals first
        | (refine hf _ _ (fin_close rfl (.opn ⟨okind, okey, otext, ofull, ohad⟩) [1] [7] _ ⟨es, hes, rfl⟩ rfl (fin_close rfl (.chkL c) [0, 1] [3, 4] _ hT0 rfl (fin_close rfl (.chk c) [0] [1] [Chunk.abs (Pd.chkL c) [0, 1]] ⟨hle, rfl⟩ rfl (fin_ [] rfl rfl (hK 19 c ?_)))))
           simp only [cne hN] at *
           simp_all [chkStep]
           done)
        | (refine op_ hN (op_close rfl (.opn ⟨okind, okey, otext, ofull, ohad⟩) [1] [7] _ ⟨es, hes, rfl⟩ rfl rfl (call_ (named_spec ⟨okind, okey, otext, ofull, ohad⟩ ⟨kind, text, val⟩) hG [1] rfl rfl rfl rfl rfl ?_))
           intro e o2 ho
           have ho1 : e = (opnNamed ⟨okind, okey, otext, ofull, ohad⟩ ⟨kind, text, val⟩).1 := by rw [← ho]
           have ho2 : o2 = (opnNamed ⟨okind, okey, otext, ofull, ohad⟩ ⟨kind, text, val⟩).2 := by rw [← ho]
           clear ho
           have hT4 := hT2 o2
           generalize hd : ({ opens := o2 :: r, over := ov } : Chk) = d at hT4
           have hdle : d.opens.length ≤ 6 := by rw [← hd]; simp only [List.length_cons]; omega
           cbv
           refine hf _ _ (fin_close rfl (.chkL d) [0, 1] [3, 4] _ hT4 rfl (fin_close rfl (.chk d) [0] [1] [Chunk.abs (Pd.chkL d) [0, 1]] ⟨hdle, rfl⟩ rfl (fin_ [] rfl rfl (hK e _ ?_))))
           subst hd
           simp only [cne hN] at *
           simp_all [chkStep]
           done)
        | skip
    all_goals try
      refine op_ hN (call_ (value_some c ⟨kind, text, val⟩ o r h0 (by omega)) hG [0, 1] rfl rfl rfl rfl rfl ?_)
      intro b hb
      have hB : (bc .eql kind 1 || (bc .eql kind 2 || (bc .eql kind 3 || bc .eql kind 4))) = false ∧ (bc .eql kind 5 || (bc .eql kind 7 || bc .eql kind 10)) = true := by
        constructor <;> (simp only [*, Bool.true_or, Bool.or_true, Bool.false_or, Bool.or_false]; done)
      cases b with
      | false =>
        cbv
        refine cond_ hN (fun _ => ?_) (fun h => by simp at h)
        cbv
        refine fin 19 c 1 _ _ ?_ rfl
        simp [chkStep, hr, h1234, h57a, hB.1, hB.2, ← hb]
      | true =>
        cbv
        refine cond_ hN (fun h => by simp at h) (fun _ => ?_)
        cbv
        refine op_ hN (op_open rfl 0 4 rfl rfl rfl rfl ?_)
        rintro _ ⟨p, lo, len, cap, xs, hT1⟩
        rw [h0] at hT1
        obtain ⟨g, l, hv, hlr, rfl⟩ := hT1
        have hl : len = r.length + 1 := by have := hv.length; rw [← hlr]; simp [ptrsOf] at this ⊢; omega
        refine load_ ty_ok rfl ?_
        have hT0 : Tm (.chkL c) [.cells 0 127 [.vec p 2 1 lo len cap, .bool c.over], .arr p true 2 129 encP xs, .at_ 1 g, .abs (.opn o) [1], .abs (.stk l) [3]] := by
          refine ⟨p, lo, len, cap, xs, ?_⟩; rw [h0]; exact ⟨g, l, hv, hlr, rfl⟩
        generalize c.over = ov at *
        cbv
        refine cond_ hN (fun h => ?_) (fun h => ?_)
        · cbv
          refine hf _ _ (fin_close rfl (.chkL c) [0, 1] [3, 4] _ hT0 rfl (fin_close rfl (.chk c) [0] [1] [Chunk.abs (Pd.chkL c) [0, 1]] ⟨hle, rfl⟩ rfl (fin_ [] rfl rfl (hK 5 c ?_))))
          rw [cge hN] at h; simp at h
          simp [chkStep, hr, h1234, h57a, hB.1, hB.2, ← hb, h0]
          omega
        · cbv
          rw [cge hN] at h; simp at h
          have hge : ¬ c.opens.length ≥ 6 := by rw [h0]; simp only [List.length_cons]; omega
          refine op_ hN (op_close rfl (.chkL c) [0, 1] [3, 4] _ hT0 rfl rfl (call_ (stands_some c ⟨kind, text, val⟩ o r h0 (by omega)) hG [0, 1] rfl rfl rfl rfl rfl ?_))
          intro d hd
          have hd0 : d.opens = { o with key := false, full := true, text := kind == 4 } :: r := by rw [hd]; simp only [chkStands, h0]
          generalize ({ o with key := false, full := true, text := kind == 4 } : Opn) = o1 at hd0
          cbv
          repeat' (first | refine And.intro ?_ ?_ | exact True.intro)
          all_goals
            refine op_ hN (op_open rfl 0 4 rfl rfl rfl rfl ?_)
            rintro _ ⟨p2, lo2, len2, cap2, xs2, hT2⟩
            rw [hd0] at hT2
            obtain ⟨g2, l2, hv2, hlr2, rfl⟩ := hT2
            refine load_ ty_ok rfl ?_
            generalize hov : d.over = dov at *
            cbv
            repeat' (first | refine And.intro ?_ ?_ | exact True.intro)
            all_goals
              refine op_ hN (op_name 16 rfl fun g => ?_)
              refine append_vec (new := [some g]) (z := none) ty_ok rfl rfl rfl rfl (fun k => by simp) rfl rfl wideP rfl rfl (src_ptr rfl (List.Mem.head _)) hv2.pr hv2.room hv2.fits (by have := hv2.length; simp [ptrsOf, ← hlr2] at this hlen ⊢; omega) (by decide) ?_
              intro p3 lo3 m3 cap3 xs3 hm3 e1 e2 e3 e4
              have hT3 : Tm (.chkL (chkOpen d ⟨kind, text, val⟩)) [.cells 0 127 [.vec p3 2 1 lo3 m3 cap3, .bool dov], .arr p3 true 2 129 encP xs3, .at_ 1 g, .abs (.opn ⟨kind, false, false, false, []⟩) [1], .abs (.stk ((g2, o1) :: l2)) [3]] := by
                refine ⟨p3, lo3, m3, cap3, xs3, ?_⟩
                simp only [chkOpen, hd0]
                exact ⟨g, (g2, o1) :: l2, ⟨e1, e2, e3, by rw [e4, hv2.eq]; simp [ptrsOf]⟩, by simp [hlr2], by rw [hov]⟩
              have hres : chkStep right c ⟨kind, text, val⟩ = (0, chkOpen d ⟨kind, text, val⟩) := by
                simp [chkStep, hr, h1234, h57a, hB.1, hB.2, ← hb, hge, hd]
              cbv
              repeat' (first | refine And.intro ?_ ?_ | exact True.intro)
              all_goals
                refine hf _ _ (fin_cput 16 [.int .i64 kind, .bool false, .bool false, .bool false, .map 14] rfl (fun _ => rfl) ?_)
                refine fin_close rfl (.stk ((g2, o1) :: l2)) [30] [1, 23] _ rfl rfl ?_
                refine fin_close rfl (.opn ⟨kind, false, false, false, []⟩) [16] [14] _ ⟨[], rfl, rfl⟩ rfl ?_
                refine fin_close rfl (.chkL (chkOpen d ⟨kind, text, val⟩)) [0, 16] [26, 30] _ hT3 rfl ?_
                exact fin_close rfl (.chk (chkOpen d ⟨kind, text, val⟩)) [0] [16] [Chunk.abs (Pd.chkL (chkOpen d ⟨kind, text, val⟩)) [0, 1]] ⟨by have := chkStep_le right c ⟨kind, text, val⟩ hle; rw [hres] at this; exact this, rfl⟩ rfl (fin_ [] rfl rfl (hK _ _ hres.symm))
    all_goals
      have hB : (bc .eql kind 1 || (bc .eql kind 2 || (bc .eql kind 3 || bc .eql kind 4))) = false ∧ (bc .eql kind 5 || (bc .eql kind 7 || bc .eql kind 10)) = false := by
        constructor <;> (simp only [*, Bool.true_or, Bool.or_true, Bool.false_or, Bool.or_false]; done)
      have h8f : (kind == 8) = false := by simp only [h8, *]
      have h11f : (kind == 11) = false := by simp only [h11, *]
      refine op_ hN (op_open rfl 0 4 rfl rfl rfl rfl ?_)
      rintro _ ⟨p, lo, len, cap, xs, hT1⟩
      rw [h0] at hT1
      obtain ⟨g, l, hv, hlr, rfl⟩ := hT1
      refine op_open rfl 1 4 rfl rfl rfl rfl ?_
      obtain ⟨okind, okey, otext, ofull, ohad⟩ := o
      rintro _ ⟨es, hes, rfl⟩
      refine update_ ty_ok (.int .i64 6) (.int .i64 5) (.inr rfl) rfl rfl rfl rfl rfl rfl (fun _ => rfl) rfl (by simp) (by simp) ?_
      have hT0 : Tm (.chkL c) [.cells 0 127 [.vec p 2 1 lo len cap, .bool c.over], .arr p true 2 129 encP xs, .at_ 1 g, .abs (.opn ⟨okind, okey, otext, ofull, ohad⟩) [1], .abs (.stk l) [3]] := by
        refine ⟨p, lo, len, cap, xs, ?_⟩; rw [h0]; exact ⟨g, l, hv, hlr, rfl⟩
      have hstep : chkStep right c ⟨kind, text, val⟩ = if bc .neq okind (endOf kind) || okey then (19, c) else (0, { c with opens := r }) := by
        simp only [chkStep, hr, h1234, h57a, hB.1, hB.2, h0, h8f, h11f, cne hN]
        simp
      have hlen2 : len = l.length + 1 := by have := hv.length; simp [ptrsOf] at this; omega
      have hll : l.length ≤ 5 := by rw [← hlr] at hlen; simpa using hlen
      have hv2 : VecOk p lo l.length cap xs (ptrsOf l) := by
        refine ⟨hv.pr, hv.room, by have := hv.fits; omega, ?_⟩
        have := congrArg (List.take l.length) hv.eq
        rw [List.take_take, Nat.min_eq_left (by omega), ptrsOf_cons] at this
        rw [this, List.take_append_of_le_length (by simp [ptrsOf])]
        exact List.take_of_length_le (by simp [ptrsOf])
      have hsub : bi .sub .i64 (Int.ofNat len) 1 = Int.ofNat l.length := by rw [isub hN (by simp; omega) (by simp; omega)]; simp; omega
      have hob : obsP [.le3 0 (bi .sub .i64 (Int.ofNat len) 1) (Int.ofNat cap)] := ⟨⟨by simp, by rw [hsub]; simp, by rw [hsub]; have := hv2.fits; simp; omega⟩, trivial⟩
      have hb1 : bo lo 0 cap = lo := by rw [bo_ hN]; simp [sloff]
      have hb2 : bg (bi .sub .i64 (Int.ofNat len) 1) 0 = l.length := by rw [hsub, bg_ hN]; simp
      have hb3 : bl cap 0 = cap := by rw [bl_ hN]; simp
      generalize hov : c.over = ov at *
      have hdle : ({ opens := r, over := ov } : Chk).opens.length ≤ 6 := by simp only; omega
      cbv
      refine op_ hN (update_ ty_ok (.int .i64 9) (.int .i64 7) (.inr rfl) rfl rfl rfl rfl rfl rfl (fun _ => rfl) rfl (by simp [keyK, MapKept.IsKey, Sx.Lit.val]) (by simp) ?_)
      cbv
      refine op_ hN (update_ ty_ok (.int .i64 12) (.int .i64 10) (.inr rfl) rfl rfl rfl rfl rfl rfl (fun _ => rfl) rfl (by simp [keyK, MapKept.IsKey, Sx.Lit.val]) (by simp) ?_)
      cbv
      repeat' (first | exact True.intro | with_reducible refine dup ?_ | refine And.intro ?_ ?_)
      all_goals
        refine op_ hN (lookup_ ty_ok (.int .i64 kind) rfl rfl rfl rfl rfl rfl rfl rfl (by simp [keyK, MapKept.IsKey, Sx.Lit.val]) ?_ ?_)
        · intro v hv1
          obtain rfl := endL_mem hv1
          generalize endOf kind = en at hstep
          cbv
          repeat' (first | refine And.intro ?_ ?_ | exact True.intro | (refine ob_ hN hob ?_; try cbv) | (refine cond_ hN (fun _ => ?_) (fun _ => ?_) <;> try cbv))
          all_goals first
            | (refine hf _ _ (fin_close rfl (.opn ⟨okind, okey, otext, ofull, ohad⟩) [1] [8] _ ⟨es, hes, rfl⟩ rfl (fin_close rfl (.chkL c) [0, 1] [4, 5] _ hT0 rfl (fin_close rfl (.chk c) [0] [1] [Chunk.abs (Pd.chkL c) [0, 1]] ⟨hle, rfl⟩ rfl (fin_ [] rfl rfl (hK 19 c (hstep.symm ▸ ?_))))))
               simp only [*, Bool.true_or, Bool.or_true, if_true]
               done)
            | skip
          all_goals
            have hstep2 : chkStep right c ⟨kind, text, val⟩ = (0, { opens := r, over := ov }) := by
              rw [hstep]; simp only [*, Bool.false_or, Bool.false_eq_true, if_false]
            simp only [hb1, hb2, hb3]
            refine hf _ _ ?_
            cases hl : l with
            | nil =>
              have hr0 : r = [] := by rw [← hlr, hl]; rfl
              refine fin_close rfl (.chkL { opens := r, over := ov }) [0, 1] [4] [.cells 0 127 [.vec p 2 1 lo 0 cap, .bool ov], .arr p true 2 129 encP xs] ⟨p, lo, 0, cap, xs, ?_⟩ rfl (fin_close rfl (.chk { opens := r, over := ov }) [0] [1] [Chunk.abs (Pd.chkL { opens := r, over := ov }) [0, 1]] ⟨hdle, rfl⟩ rfl (fin_ [] rfl rfl (hK 0 _ hstep2.symm)))
              rw [hr0]; exact ⟨by have := hv2; rw [hl] at this; exact this, rfl⟩
            | cons y l2 =>
              obtain ⟨g2, o2⟩ := y
              refine fin_open rfl 5 4 100 rfl rfl rfl rfl rfl ?_
              rintro _ rfl
              refine fin_close rfl (.chkL { opens := r, over := ov }) [0, 100] [4, 101] [.cells 0 127 [.vec p 2 1 lo (l2.length + 1) cap, .bool ov], .arr p true 2 129 encP xs, .at_ 1 g2, .abs (.opn o2) [1], .abs (.stk l2) [3]] ⟨p, lo, l2.length + 1, cap, xs, ?_⟩ rfl (fin_close rfl (.chk { opens := r, over := ov }) [0] [100] [Chunk.abs (Pd.chkL { opens := r, over := ov }) [0, 1]] ⟨hdle, rfl⟩ rfl (fin_ [] rfl rfl (hK 0 _ hstep2.symm)))
              have hr0 : r = o2 :: l2.map (·.2) := by rw [← hlr, hl]; rfl
              rw [hr0]; exact ⟨g2, l2, by have := hv2; rw [hl] at this; exact this, rfl, rfl⟩
        · intro hv1
          rw [endL_not hv1] at hstep
          cbv
          repeat' (first | refine And.intro ?_ ?_ | exact True.intro | (refine ob_ hN hob ?_; try cbv) | (refine cond_ hN (fun _ => ?_) (fun _ => ?_) <;> try cbv))
          all_goals first
            | (refine hf _ _ (fin_close rfl (.opn ⟨okind, okey, otext, ofull, ohad⟩) [1] [8] _ ⟨es, hes, rfl⟩ rfl (fin_close rfl (.chkL c) [0, 1] [4, 5] _ hT0 rfl (fin_close rfl (.chk c) [0] [1] [Chunk.abs (Pd.chkL c) [0, 1]] ⟨hle, rfl⟩ rfl (fin_ [] rfl rfl (hK 19 c (hstep.symm ▸ ?_))))))
               simp only [*, Bool.true_or, Bool.or_true, if_true]
               done)
            | skip
          all_goals
            have hstep2 : chkStep right c ⟨kind, text, val⟩ = (0, { opens := r, over := ov }) := by
              rw [hstep]; simp only [*, Bool.false_or, Bool.false_eq_true, if_false]
            simp only [hb1, hb2, hb3]
            refine hf _ _ ?_
            cases hl : l with
            | nil =>
              have hr0 : r = [] := by rw [← hlr, hl]; rfl
              refine fin_close rfl (.chkL { opens := r, over := ov }) [0, 1] [4] [.cells 0 127 [.vec p 2 1 lo 0 cap, .bool ov], .arr p true 2 129 encP xs] ⟨p, lo, 0, cap, xs, ?_⟩ rfl (fin_close rfl (.chk { opens := r, over := ov }) [0] [1] [Chunk.abs (Pd.chkL { opens := r, over := ov }) [0, 1]] ⟨hdle, rfl⟩ rfl (fin_ [] rfl rfl (hK 0 _ hstep2.symm)))
              rw [hr0]; exact ⟨by have := hv2; rw [hl] at this; exact this, rfl⟩
            | cons y l2 =>
              obtain ⟨g2, o2⟩ := y
              refine fin_open rfl 5 4 100 rfl rfl rfl rfl rfl ?_
              rintro _ rfl
              refine fin_close rfl (.chkL { opens := r, over := ov }) [0, 100] [4, 101] [.cells 0 127 [.vec p 2 1 lo (l2.length + 1) cap, .bool ov], .arr p true 2 129 encP xs, .at_ 1 g2, .abs (.opn o2) [1], .abs (.stk l2) [3]] ⟨p, lo, l2.length + 1, cap, xs, ?_⟩ rfl (fin_close rfl (.chk { opens := r, over := ov }) [0] [100] [Chunk.abs (Pd.chkL { opens := r, over := ov }) [0, 1]] ⟨hdle, rfl⟩ rfl (fin_ [] rfl rfl (hK 0 _ hstep2.symm)))
              have hr0 : r = o2 :: l2.map (·.2) := by rw [← hlr, hl]; rfl
              rw [hr0]; exact ⟨g2, l2, by have := hv2; rw [hl] at this; exact this, rfl, rfl⟩
end Hx
