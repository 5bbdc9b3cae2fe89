/-
  Part of a proof.
-/
import Derived.Test.YtkkifbjdbhjhaaaGreatDoorV16
import Derived.Test.YtkkifbjdbhjhaaaGreatDoorV17
set_option linter.unusedVariables false
set_option linter.unusedSimpArgs false
/- carry.look.delim's rows: the walk. -/
namespace Hx
open Go Sx Go.Proofs
set_option maxRecDepth 100000
set_option maxHeartbeats 4000000
set_option linter.unusedVariables false
set_option linter.unusedSimpArgs false
variable {GOk : Gl → Prop}
theorem cl1_spec (d : Nat) (hd : d + 2 < 10) (nk : Int) (nt nv : ByteArray) (np : Bool) (ng no nc nlen : Nat) (nkids : List Nd) (hnlen : nkids.length = nlen) (hOn : OldN GOk (.mk nk nt nv np ng no nc nkids)) (hsm : ∀ k ∈ nkids, k.kids.length ≤ 1000000) (i : Nat) (k : Nd) (hk : nkids[i]? = some k) :
    Cb3Ok GOk 42 d (rowLook (headOf (.mk nk nt nv np ng no nc nkids))) [.int .i64 nk, .str nt, .str nv, .gsl np ng no 4 nlen nc] i k := by
  unfold Cb3Ok
  obtain ⟨d1, hd1⟩ : ∃ x, x = d + 1 := ⟨_, rfl⟩
  rw [← hd1]
  have hOk : OldN GOk k := hOn.kid hk
  have hkm := hsm k (List.mem_of_getElem? hk)
  obtain ⟨k0, hk0⟩ : ∃ k0, nkids[0]? = some k0 := by
    have := (List.getElem?_eq_some_iff.1 hk).1
    exact ⟨nkids[0]'(by omega), List.getElem?_eq_getElem (by omega)⟩
  have hn0 : 0 < nlen := by have := (List.getElem?_eq_some_iff.1 hk0).1; omega
  have hO0 : OldN GOk k0 := hOn.kid hk0
  have hkm0 := hsm k0 (List.mem_of_getElem? hk0)
  have hhead : headOf (.mk nk nt nv np ng no nc nkids) = k0.kids.map Nd.text := by
    cases nkids with
    | nil => simp at hk0
    | cons a r => simp only [List.getElem?_cons_zero, Option.some.injEq] at hk0; subst hk0; rfl
  rw [hhead]
  obtain ⟨kk, kt, kv, kp, kg, ko, kc, kks⟩ := k
  obtain ⟨klen, hkl⟩ : ∃ x, kks.length = x := ⟨_, rfl⟩
  have hsv : Nd.sv (.mk kk kt kv kp kg ko kc kks) = .agg [.int .i64 kk, .str kt, .str kv, .gsl kp kg ko 4 klen kc] := by simp [Nd.sv, Nd.row, Nd.sl, Nd.kind, Nd.text, Nd.val, Nd.p, Nd.g, Nd.off, Nd.kids, Nd.cap, hkl]
  obtain ⟨zk, zt, zv, zp, zg, zo, zc, zks⟩ := k0
  obtain ⟨zlen, hzl⟩ : ∃ x, zks.length = x := ⟨_, rfl⟩
  have hsv0 : Nd.sv (.mk zk zt zv zp zg zo zc zks) = .agg [.int .i64 zk, .str zt, .str zv, .gsl zp zg zo 4 zlen zc] := by simp [Nd.sv, Nd.row, Nd.sl, Nd.kind, Nd.text, Nd.val, Nd.p, Nd.g, Nd.off, Nd.kids, Nd.cap, hzl]
  simp only [Nd.kids] at hkm hkm0
  have hKk : Triple (BB Ip GOk) 41 0 1 [.agg [.int .i64 kk, .str kt, .str kv, .gsl kp kg ko 4 klen kc]] [] _ := keys_spec kk kt kv kp kg ko kc klen kks hkl hOk (by omega)
  have hK0 : Triple (BB Ip GOk) 41 0 1 [.agg [.int .i64 zk, .str zt, .str zv, .gsl zp zg zo 4 zlen zc]] [] _ := keys_spec zk zt zv zp zg zo zc zlen zks hzl hO0 (by omega)
  have hT := kids_spec 44 d1 (by omega) (fun f => f.kids.all fun v => decide (v.kind = 4)) kk kt kv kp kg ko kc klen kks hkl hOk (fun i k hi => cl2_spec d1 (by omega) i k (hOk.kid hi))
  rw [hsv]
  refine triple_of BB_ok (tb := ty) rfl (n0 := 4) (fun _ : Unit => _) [(1, q42_60)] Tryz.call42 Tryz.func42 (c := q42c) rfl q42_ok (Nat.le_of_ble_eq_true rfl) (by decide) rfl pre_none ?_
  rintro G hG K hK W bi bc bs bk bu bb bo bg bl bp bn be Ncond Nob Nop Nloop Nscope hN Nfin hf _ _
  obtain ⟨hK1, hK2⟩ := hK
  have hrl : rowLook (List.map Nd.text (Nd.mk zk zt zv zp zg zo zc zks).kids) (.mk kk kt kv kp kg ko kc kks) = (decide (kk = 7) && (decide (kks ≠ [] ∧ kks.length ≤ 8) && (decide (kks.map Nd.text = zks.map Nd.text) && kks.all (fun f => f.kids.all fun v => decide (v.kind = 4))))) := rfl
  rw [hrl] at hK1 hK2
  generalize kks.all (fun f => f.kids.all fun v => decide (v.kind = 4)) = bc4 at hT hK1 hK2
  have hob0 : obsP [.inb 0 (Int.ofNat nlen), .tru np] := ⟨⟨by simp, by simpa using hn0⟩, hOn.p hG (i := 0) (by simp only [Nd.kids]; omega), trivial⟩
  have hp0 : bp 0 0 = 0 := by rw [bp_ hN]; rfl
  have hcne : bc .neq kk 7 = !decide (kk = 7) := by rw [cne hN]
  have hceq : bc .eql (Int.ofNat klen) 0 = decide (klen = 0) := by
    rw [ceq hN]
    by_cases h : klen = 0
    · rw [h]; rfl
    · have h2 : ¬ ((klen : Int) = 0) := by omega
      simp [h]
  have hcgt : bc .gtr (Int.ofNat klen) 8 = decide (8 < klen) := by
    rw [cgt hN]
    by_cases h : 8 < klen
    · have h2 : (8 : Int) < (klen : Int) := by omega
      simp [h, h2]
    · have h2 : ¬ ((8 : Int) < (klen : Int)) := by omega
      simp [h, h2]
  have hne : kks ≠ [] ↔ klen ≠ 0 := by rw [← hkl]; cases kks <;> simp
  obtain ⟨beq0, hbeq⟩ : ∃ b, decide (kks.map Nd.text = zks.map Nd.text) = b := ⟨_, rfl⟩
  have hKe : ∀ qa loa na ca ysa qb lob nb cb ysb, VecOk qa loa na ca ysa (kks.map Nd.text) → VecOk qb lob nb cb ysb (zks.map Nd.text) → Triple (BB Ip GOk) 43 2 2 [.vec qa 0 1 loa na ca, .vec qb 1 1 lob nb cb] [.arr qa true 0 9 encS ysa, .arr qb true 1 9 encS ysb] (fun K => ∀ b, b = beq0 → K (.ret (.bool b)) []) := fun qa loa na ca ysa qb lob nb cb ysb ha hb => by
    rw [← hbeq]
    exact equal_spec qa loa na ca ysa _ qb lob nb cb ysb _ ha hb ⟨by rw [← ha.length, List.length_map]; omega, by rw [← hb.length, List.length_map]; omega⟩
  rw [hbeq] at hK1 hK2
  obtain ⟨len8, hl8⟩ : ∃ b, decide (kks ≠ [] ∧ kks.length ≤ 8) = b := ⟨_, rfl⟩
  rw [hl8] at hK1 hK2
  have hl8' : len8 = (!decide (klen = 0) && !decide (8 < klen)) := by
    rw [← hl8, hkl]
    have : (kks ≠ [] ∧ klen ≤ 8) ↔ ¬ klen = 0 ∧ ¬ 8 < klen := by rw [hne]; omega
    simp only [this, Bool.decide_and, decide_not]
  obtain ⟨c1, hc1⟩ : ∃ c, bc .neq kk 7 = c := ⟨_, rfl⟩
  obtain ⟨c2, hc2⟩ : ∃ c, bc .eql (Int.ofNat klen) 0 = c := ⟨_, rfl⟩
  obtain ⟨c3, hc3⟩ : ∃ c, bc .gtr (Int.ofNat klen) 8 = c := ⟨_, rfl⟩
  rw [hc1] at hcne
  rw [hc2] at hceq
  rw [hc3] at hcgt
  have hb1 : c1 = true → (decide (kk = 7) && (len8 && (beq0 && bc4))) = false := fun h => by
    have : decide (kk = 7) = false := by rw [h] at hcne; cases hx : decide (kk = 7) <;> rw [hx] at hcne <;> first | rfl | cases hcne
    rw [this]; rfl
  have hb2 : c2 = true → (decide (kk = 7) && (len8 && (beq0 && bc4))) = false := fun h => by
    rw [hl8', ← hceq, h]; cases decide (kk = 7) <;> rfl
  have hb3 : c3 = true → (decide (kk = 7) && (len8 && (beq0 && bc4))) = false := fun h => by
    rw [hl8', ← hcgt, h]; cases decide (kk = 7) <;> cases (!decide (klen = 0)) <;> rfl
  have hgood : c1 = false → c2 = false → c3 = false → (decide (kk = 7) && (len8 && (beq0 && bc4))) = (beq0 && bc4) := fun h1 h2 h3 => by
    have : decide (kk = 7) = true := by rw [h1] at hcne; cases hx : decide (kk = 7) <;> rw [hx] at hcne <;> first | rfl | cases hcne
    rw [this, hl8', ← hceq, ← hcgt, h2, h3]; rfl
  clear hl8' hl8 hcne hceq hcgt hbeq
  cbv
  simp only [hc1, hc2, hc3]
  cases c1 with
  | true =>
    have hKb := hK2 (hb1 rfl)
    clear hb1 hb2 hb3 hgood hKk hK0 hKe hT hK1 hK2
    cbv
    repeat' (first
      | exact True.intro
      | with_reducible refine dup ?_
      | refine And.intro ?_ ?_
      | (refine cond_T hN rfl ?_; cbv)
      | (refine cond_F hN rfl ?_; cbv)
      | (refine op_ hN (call_ (fails_spec' d1) hG [0] rfl rfl rfl rfl rfl ?_); intro v; cbv; exact hf _ _ (fin_ [] rfl rfl (hKb v))))
  | false =>
    cbv
    repeat' (first | exact True.intro | with_reducible refine dup ?_ | refine And.intro ?_ ?_)
    refine cond_F hN rfl ?_
    cbv
    repeat' (first | exact True.intro | with_reducible refine dup ?_ | refine And.intro ?_ ?_)
    simp only [hc2]
    cases c2 with
    | true =>
      have hKb := hK2 (hb2 rfl)
      clear hb1 hb2 hb3 hgood hKk hK0 hKe hT hK1 hK2
      cbv
      repeat' (first
        | exact True.intro
        | with_reducible refine dup ?_
        | refine And.intro ?_ ?_
        | (refine cond_T hN rfl ?_; cbv)
        | (refine cond_F hN rfl ?_; cbv)
        | (refine op_ hN (call_ (fails_spec' d1) hG [0] rfl rfl rfl rfl rfl ?_); intro v; cbv; exact hf _ _ (fin_ [] rfl rfl (hKb v))))
    | false =>
      cbv
      repeat' (first | exact True.intro | with_reducible refine dup ?_ | refine And.intro ?_ ?_)
      refine cond_F hN rfl ?_
      cbv
      repeat' (first | exact True.intro | with_reducible refine dup ?_ | refine And.intro ?_ ?_)
      simp only [hc3]
      cases c3 with
      | true =>
        have hKb := hK2 (hb3 rfl)
        clear hb1 hb2 hb3 hgood hKk hK0 hKe hT hK1 hK2
        cbv
        repeat' (first
          | exact True.intro
          | with_reducible refine dup ?_
          | refine And.intro ?_ ?_
          | (refine cond_T hN rfl ?_; cbv)
          | (refine cond_F hN rfl ?_; cbv)
          | (refine op_ hN (call_ (fails_spec' d1) hG [0] rfl rfl rfl rfl rfl ?_); intro v; cbv; exact hf _ _ (fin_ [] rfl rfl (hKb v))))
      | false =>
        have hg := hgood rfl rfl rfl
        rw [hg] at hK1 hK2
        clear hb1 hb2 hb3 hgood hg
        cbv
        repeat' (first | exact True.intro | with_reducible refine dup ?_ | refine And.intro ?_ ?_)
        refine cond_F hN rfl ?_
        cbv
        repeat' (first
          | exact True.intro
          | with_reducible refine dup ?_
          | refine And.intro ?_ ?_
          | (refine ob_ hN hob0 ?_; cbv; simp only [hp0])
          | (refine op_ hN (load_kid ty_ok hG hOn hk0 rfl rfl rfl rfl rfl ?_); rw [hsv0]; cbv)
          | (refine op_ hN (call_ hKk hG [] rfl rfl rfl rfl rfl ?_); intro qa loa na ca ysa hva; cbv)
          | (refine op_ hN (call_ hK0 hG [] rfl rfl rfl rfl rfl ?_); intro qb lob nb cb ysb hvb; cbv)
          | (refine op_ hN (call_ (hKe qa loa na ca ysa qb lob nb cb ysb hva hvb) hG [33, 34] rfl rfl rfl rfl rfl ?_); intro b hb; cases b <;> cbv)
          | (refine op_ hN (call_ (hKe qa loa na ca ysa qb lob nb cb ysb hva hvb) hG [34, 33] rfl rfl rfl rfl rfl ?_); intro b hb; cases b <;> cbv)
          | (refine cond_T hN rfl ?_; cbv)
          | (refine cond_F hN rfl ?_; cbv)
          | (refine op_ hN (call_ (fails_spec' d1) hG [0] rfl rfl rfl rfl rfl ?_); intro v; cbv; exact hf _ _ (fin_ [] rfl rfl (hK2 (by rw [← hb]; rfl) v)))
          | (refine op_ hN (call_ hT hG [0, 1] rfl rfl rfl rfl rfl ⟨fun hok => ?_, fun hno v => ?_⟩)
             · cbv
               exact hf _ _ (fin_ [] rfl rfl (hK1 (by rw [← hb, hok]; rfl)))
             · cbv
               exact hf _ _ (fin_ [] rfl rfl (hK2 (by rw [← hb, hno]; rfl) v))))
end Hx
