/-
  Part of a proof.
-/
import Derived.Test.YtkkifbjdbhjhaaaGreatDoorV18
import Derived.Test.YtkkifbjdbhjhaaaGreatDoorV16
import Derived.Test.YtkkifbjdbhjhaaaGreatDoorV15
set_option linter.unusedVariables false
set_option linter.unusedSimpArgs false
/- carry.look.delim, carry.Of at Delim: the walks. -/
namespace Hx
open Go Sx Go.Proofs
set_option maxRecDepth 100000
set_option maxHeartbeats 4000000
set_option linter.unusedVariables false
set_option linter.unusedSimpArgs false
variable {GOk : Gl → Prop}
theorem delim_spec (nk : Int) (nt nv : ByteArray) (np : Bool) (ng no nc nlen : Nat) (nkids : List Nd) (hnlen : nkids.length = nlen) (hOn : OldN GOk (.mk nk nt nv np ng no nc nkids)) (hsm : ∀ k ∈ nkids, k.kids.length ≤ 1000000) :
    Triple (BB Ip GOk) 25 1 1 [.ptr 0 0, .agg [.int .i64 nk, .str nt, .str nv, .gsl np ng no 4 nlen nc]] [.abs (.lk 0) [0]]
      (fun K => (lookM (.mk nk nt nv np ng no nc nkids) = true → K (.ret (.tuple [])) []) ∧ (lookM (.mk nk nt nv np ng no nc nkids) = false → ∀ v, K (.pan (noV v)) [])) := by
  have hT := kids3_spec 42 0 (by omega) (rowLook (headOf (.mk nk nt nv np ng no nc nkids))) nk nt nv np ng no nc nlen nkids hnlen hOn (fun i k hk => cl1_spec 0 (by omega) nk nt nv np ng no nc nlen nkids hnlen hOn hsm i k hk)
  refine triple_of BB_ok (tb := ty) rfl (n0 := 1) (fun _ : Unit => _) pl25 Tryz.call25 Tryz.func25 rfl (by kernel_rfl) (Nat.le_of_ble_eq_true rfl) (by decide) rfl pre_none ?_
  rintro G hG K hK W bi bc bs bk bu bb bo bg bl bp bn be Ncond Nob Nop Nloop Nscope hN Nfin hf _ _
  obtain ⟨hK1, hK2⟩ := hK
  have hlm : lookM (.mk nk nt nv np ng no nc nkids) = (decide (nk = 5) && nkids.all (rowLook (headOf (.mk nk nt nv np ng no nc nkids)))) := rfl
  rw [hlm] at hK1 hK2
  generalize nkids.all (rowLook (headOf (.mk nk nt nv np ng no nc nkids))) = bl0 at hT hK1 hK2
  cbv
  refine cond_ hN ?_ ?_ <;> intro h
  · rw [cne hN] at h
    have h' : decide (nk = 5) = false := by simpa using h
    cbv
    refine op_ hN (call_ (fails_spec' 0) hG [0] rfl rfl rfl rfl rfl ?_)
    intro v
    cbv
    exact hf _ _ (fin_ [] rfl rfl (hK2 (by rw [h']; rfl) v))
  · rw [cne hN] at h
    have h' : decide (nk = 5) = true := by simpa using h
    rw [h', Bool.true_and] at hK1 hK2
    cbv
    refine op_ hN (call_ hT hG [0, 1, 3, 2] rfl rfl rfl rfl rfl ⟨fun hok => ?_, fun hno v => ?_⟩)
    · cbv
      exact hf _ _ (fin_ [] rfl rfl (hK1 hok))
    · cbv
      exact hf _ _ (fin_ [] rfl rfl (hK2 hno v))
theorem of_cl_ret : DTriple (BB Ip GOk) 20 2 [.ptr 0 0, .ptr 1 0] [.cells 0 27 [.nilslice], .cells 1 28 [.int .i64 0]] .returning (fun K => K [.cells 0 27 [.nilslice], .cells 1 28 [.int .i64 0]]) := by
  refine dcall_first BB_ok (tb := ty) rfl pl20 Tryz.func20 rfl (by kernel_rfl) rfl rfl rfl rfl rfl rfl rfl rfl .niliface (fun _ => rfl) ?_
  rintro G hG K hK W bi bc bs bk bu bb bo bg bl bp bn be Ncond Nob Nop Nloop Nscope hN Nfin hf _
  cbv
  exact hf _ (FinD.of [] rfl hK)
theorem of_cl_pan (v : Bool × Nat × Nat × Nat × Nat) : DTriple (BB Ip GOk) 20 2 [.ptr 0 0, .ptr 1 0] [.cells 0 27 [.nilslice], .cells 1 28 [.int .i64 0]] (.panicking [{ v := (noV v).den id, recovered := false }]) (fun K => K [.cells 0 27 [slG v], .cells 1 28 [.int .i64 20]]) := by
  obtain ⟨p, g, off, len, cap⟩ := v
  refine dcall_first BB_ok (tb := ty) rfl pl20 Tryz.func20 rfl (by kernel_rfl) rfl rfl rfl rfl rfl rfl rfl rfl (noV (p, g, off, len, cap)) (fun _ => rfl) ?_
  rintro G hG K hK W bi bc bs bk bu bb bo bg bl bp bn be Ncond Nob Nop Nloop Nscope hN Nfin hf _
  cbv
  exact hf _ (FinD.of [] rfl hK)
def ofM (right : Ev → Bool) (n : Nd) : Int := if walkM right n ≠ 0 then walkM right n else if lookM n then 0 else 20
variable {right : Ev → Bool}
theorem of_spec (hb : RgtOk GOk right) (kind : Int) (text val : ByteArray) (p : Bool) (g off cap len : Nat) (kids : List Nd) (hlen : kids.length = len) (hO : OldN GOk (.mk kind text val p g off cap kids)) (hle : (evs (.mk kind text val p g off cap kids)).length ≤ 1000000) (hoke : ∀ x ∈ evs (.mk kind text val p g off cap kids), okE x) (hsm : ∀ k ∈ kids, k.kids.length ≤ 1000000) :
    Triple (BB Ip GOk) 11 0 0 [.int .i64 5, .agg [.int .i64 kind, .str text, .str val, .gsl p g off 4 len cap]] [] (fun K => ∀ e, e = ofM right (.mk kind text val p g off cap kids) → ∀ v, K (.ret (.tuple [.raw v, .int .i64 e])) []) := by
  have hM := tmay_spec hb kind text val p g off cap len kids hlen hO hle hoke
  have hD := delim_spec kind text val p g off cap len kids hlen hO hsm
  refine triple_defer2 BB_ok (tb := ty) rfl (rs := [_, _, _]) (n0 := 0) (fun _ : Unit => _) pl11 Tryz.call11 Tryz.call20 Tryz.func11 rfl (by kernel_rfl) (by kernel_rfl) rfl rfl rfl rfl rfl rfl rfl rfl rfl rfl rfl rfl rfl rfl pre_none ?_
  rintro G hG K hK W bi bc bs bk bu bb bo bg bl bp bn be Ncond Nob Nop Nloop Nscope hN Nfin hf _ _
  unfold ofM at hK
  generalize lookM (.mk kind text val p g off cap kids) = lk at hK hD
  generalize walkM right (.mk kind text val p g off cap kids) = wk at hK hM
  cbv
  refine cond_F hN (by rw [clt hN]; rfl) ?_
  cbv
  refine cond_F hN (by rw [cgt hN]; rfl) ?_
  cbv
  refine op_ hN (call_ hM hG [] rfl rfl rfl rfl rfl ?_)
  rintro e rfl
  cbv
  refine cond_ hN ?_ ?_ <;> intro h <;> rw [cne hN] at h
  · have h' : e ≠ 0 := by simpa using h
    rw [if_pos h'] at hK
    cbv
    exact hf _ _ (fin_forget (fun x => .ret (.tuple [x, .int .i64 e])) _ (fun ρ e h => by cases e <;> exact h) fun u => fin_ [] rfl rfl (hK e rfl u))
  have h' : e = 0 := by simpa using h
  subst h'
  rw [if_neg (by simp)] at hK
  cbv
  refine ⟨[.ptr 1 0, .ptr 2 0], 1, 2, rfl, rfl, rfl, rfl, rfl, ?_⟩
  clear hN
  intro D kv W bi bc bs bk bu bb bo bg bl bp bn be Ncond Nob Nop Nloop Nscope hN
  cbv
  refine cond_F hN (by rw [ceq hN]; rfl) ?_
  cbv
  refine cond_F hN (by rw [ceq hN]; rfl) ?_
  cbv
  refine cond_F hN (by rw [ceq hN]; rfl) ?_
  cbv
  refine cond_F hN (by rw [ceq hN]; rfl) ?_
  cbv
  refine cond_T hN (by rw [ceq hN]; rfl) ?_
  cbv
  refine op_ hN (op_noArr true 4 5 3 encI [] rfl rfl (op_cput 3 [.vec false 4 1 0 0 0] rfl (fun _ => rfl) (op_close rfl (.lk 0) [3] [4] _ ⟨false, 0, 0, 0, [], [], ⟨fun _ => rfl, Nat.le_refl _, Nat.le_refl _, rfl⟩, ⟨rfl, Nat.zero_le _⟩, rfl⟩ rfl rfl (nodeD ?_))))
  refine call_ hD hG [3] rfl rfl rfl rfl rfl ⟨fun hok => ?_, fun hno v => ?_⟩
  · have hK0 := hK 0 (by rw [hok]; rfl)
    cbv
    exact dend2_ of_cl_ret hG [1, 2] rfl rfl rfl rfl rfl rfl ⟨_, rfl, fin_forget (fun x => .ret (.tuple [x, .int .i64 0])) .nilslice (fun ρ e h => by cases e <;> exact h) fun u => fin_ [] rfl rfl (hK0 u)⟩
  · have hK20 := hK 20 (by rw [hno]; rfl)
    cbv
    exact ⟨(noV v).den id, fun _ => rfl, dend2_ (of_cl_pan v) hG [1, 2] rfl rfl rfl rfl rfl rfl ⟨_, rfl, fin_forget (fun x => .ret (.tuple [x, .int .i64 20])) (slG v) (fun ρ e h => by cases e <;> exact h) fun u => fin_ [] rfl rfl (hK20 u)⟩⟩
end Hx
/- inkdelim.Print: the walk. -/
namespace Hx
open Go Sx Go.Proofs
set_option maxRecDepth 100000
set_option maxHeartbeats 4000000
set_option linter.unusedVariables false
set_option linter.unusedSimpArgs false
variable {GOk : Gl → Prop}
theorem print1_spec (k : Nd) : Triple (BB Ip GOk) 13 0 0 [k.sv] [] (fun K => ∀ t, t = k.text → K (.ret (.str t)) []) := by
  obtain ⟨kk, kt, kv, kp, kg, ko, kc, kks⟩ := k
  obtain ⟨klen, hkl⟩ : ∃ x, kks.length = x := ⟨_, rfl⟩
  have hsv : Nd.sv (.mk kk kt kv kp kg ko kc kks) = .agg [.int .i64 kk, .str kt, .str kv, .gsl kp kg ko 4 klen kc] := by simp [Nd.sv, Nd.row, Nd.sl, Nd.kind, Nd.text, Nd.val, Nd.p, Nd.g, Nd.off, Nd.kids, Nd.cap, hkl]
  rw [hsv]
  refine triple_of BB_ok (tb := ty) rfl (n0 := 0) (fun _ : Unit => _) pl13 Tryz.call13 Tryz.func13 rfl (by kernel_rfl) (Nat.le_of_ble_eq_true rfl) (by decide) rfl pre_none ?_
  rintro G hG K hK W bi bc bs bk bu bb bo bg bl bp bn be Ncond Nob Nop Nloop Nscope hN Nfin hf _ _
  cbv
  exact hf _ _ (fin_ [] rfl rfl (hK kt rfl))
/-- a field's cell, as a text -/
def ft2 (f : Nd) : ByteArray := match f.kids with
  | [] => ⟨#[]⟩
  | v :: _ => v.text
theorem ft2_cell (f : Nd) : (ft2 f).data.toList = cellOf f := by
  unfold ft2 cellOf
  cases f.kids <;> rfl
theorem print2_spec (k : Nd) (hO : OldN GOk k) (h1 : k.kids.length = 1) : Triple (BB Ip GOk) 14 0 0 [k.sv] [] (fun K => ∀ t, t = ft2 k → K (.ret (.str t)) []) := by
  obtain ⟨kk, kt, kv, kp, kg, ko, kc, kks⟩ := k
  simp only [Nd.kids] at h1
  obtain ⟨v, rfl⟩ : ∃ v, kks = [v] := List.length_eq_one_iff.1 h1
  obtain ⟨klen, hkl⟩ : ∃ x, ([v] : List Nd).length = x := ⟨_, rfl⟩
  have hsv : Nd.sv (.mk kk kt kv kp kg ko kc [v]) = .agg [.int .i64 kk, .str kt, .str kv, .gsl kp kg ko 4 klen kc] := by simp [Nd.sv, Nd.row, Nd.sl, Nd.kind, Nd.text, Nd.val, Nd.p, Nd.g, Nd.off, Nd.kids, Nd.cap, ← hkl]
  have hk1 : klen = 1 := by rw [← hkl]; rfl
  rw [hsv]
  refine triple_of BB_ok (tb := ty) rfl (n0 := 0) (fun _ : Unit => _) pl14 Tryz.call14 Tryz.func14 rfl (by kernel_rfl) (Nat.le_of_ble_eq_true rfl) (by decide) rfl pre_none ?_
  rintro G hG K hK W bi bc bs bk bu bb bo bg bl bp bn be Ncond Nob Nop Nloop Nscope hN Nfin hf _ _
  have hpt : kp = true := hO.p hG (i := 0) (by simp [Nd.kids])
  have hp0 : bp 0 0 = 0 := by rw [bp_ hN]; rfl
  have hft : ft2 (.mk kk kt kv kp kg ko kc [v]) = v.text := rfl
  rw [hft] at hK
  obtain ⟨vt, hvt⟩ : ∃ x, v.text = x := ⟨_, rfl⟩
  rw [hvt] at hK
  cbv
  refine ob_ hN ⟨⟨by simp, by rw [hk1]; simp⟩, hpt, trivial⟩ ?_
  cbv
  simp only [hp0]
  refine op_ hN (load_kidF ty_ok hG hO (nd := .mk kk kt kv kp kg ko kc [v]) (k := v) (i := 0) (f := 1) (v := .str vt) rfl (by simp [Nd.row, hvt]) rfl rfl rfl rfl ?_)
  cbv
  exact hf _ _ (fin_ [] rfl rfl (hK vt rfl))
theorem rgt_ok (hT : GTab GOk) : RgtOk GOk rightM := fun x hx => right_spec hT x hx
theorem print_spec (hT : GTab GOk) (kind : Int) (text val : ByteArray) (p : Bool) (g off cap len : Nat) (kids : List Nd) (hlen : kids.length = len) (hO : OldN GOk (.mk kind text val p g off cap kids)) (hle : (evs (.mk kind text val p g off cap kids)).length ≤ 1000000) (hoke : ∀ x ∈ evs (.mk kind text val p g off cap kids), okE x) (hsm : ∀ k ∈ kids, k.kids.length ≤ 1000000) (hl1 : len ≤ 1000) :
    Triple (BB Ip GOk) 6 0 0 [.agg [.int .i64 kind, .str text, .str val, .gsl p g off 4 len cap]] [] (fun K => ∀ e s v, e = ofM rightM (.mk kind text val p g off cap kids) →
      (e = 0 → s.data.toList = tableP (kids.map rowOf) ((headOf (.mk kind text val p g off cap kids)).map fun s => s.data.toList)) → K (.ret (.tuple [.str s, .raw v, .int .i64 e])) []) := by
  have hOf := of_spec (rgt_ok hT) kind text val p g off cap len kids hlen hO hle hoke hsm
  have hmx : IntKind.i64.max = 9223372036854775807 := by rfl
  refine triple_of BB_ok (tb := ty) rfl (n0 := 0) (fun _ : Unit => _) pl6 Tryz.call6 Tryz.func6 rfl (by kernel_rfl) (Nat.le_of_ble_eq_true rfl) (by decide) rfl pre_none ?_
  rintro G hG K hK W bi bc bs bk bu bb bo bg bl bp bn be Ncond Nob Nop Nloop Nscope hN Nfin hf _ _
  have hsh : ofM rightM (.mk kind text val p g off cap kids) = 0 → ∀ k ∈ kids, (k.kids ≠ [] ∧ k.kids.length ≤ 8) ∧ ∀ f ∈ k.kids, f.text.size ≤ 48 ∧ (cellOf f).length ≤ 48 ∧ f.kids.length = 1 := by
    intro h
    unfold ofM at h
    by_cases hw : walkM rightM (.mk kind text val p g off cap kids) = 0
    rotate_left
    · rw [if_pos hw] at h; exact absurd h hw
    rw [if_neg (by simpa using hw)] at h
    cases hl : lookM (.mk kind text val p g off cap kids) with
    | false => rw [hl] at h; simp at h
    | true => exact shape_law _ hw hl
  cbv
  refine op_ hN (call_ hOf hG [] rfl rfl rfl rfl rfl ?_)
  intro e he v
  rw [← he] at hsh
  cbv
  refine cond_ hN ?_ ?_ <;> intro h <;> rw [cne hN] at h
  · have h' : e ≠ 0 := by simpa using h
    cbv
    exact hf _ _ (fin_ [] rfl rfl (hK e ⟨#[]⟩ v he (fun h0 => absurd h0 h')))
  have h' : e = 0 := by simpa using h
  replace hsh := hsh h'
  subst h'
  have hceq : bc .eql (Int.ofNat len) 0 = decide (len = 0) := by
    rw [ceq hN]
    by_cases h : len = 0
    · rw [h]; rfl
    · have h2 : ¬ ((len : Int) = 0) := by omega
      simp [h]
  cbv
  refine cond_ hN ?_ ?_ <;> intro h0 <;> rw [hceq] at h0
  · have h0 : len = 0 := of_decide_eq_true h0
    have hk0 : kids = [] := List.eq_nil_of_length_eq_zero (by omega)
    cbv
    exact hf _ _ (fin_forget (fun x => .ret (.tuple [.str ⟨#[]⟩, x, .int .i64 0])) _ (fun ρ e h => by cases e <;> exact h) fun u => fin_ [] rfl rfl (hK 0 ⟨#[]⟩ u he (fun _ => by rw [hk0]; rfl)))
  have h0 : ¬ len = 0 := of_decide_eq_false h0
  have hpt : p = true := hO.p hG (i := 0) (by simp only [Nd.kids]; omega)
  have hp0 : bp 0 0 = 0 := by rw [bp_ hN]; rfl
  obtain ⟨k0, hk0⟩ : ∃ k0, kids[0]? = some k0 := ⟨kids[0]'(by omega), List.getElem?_eq_getElem (by omega)⟩
  have hhead : headOf (.mk kind text val p g off cap kids) = k0.kids.map Nd.text := by
    cases kids with
    | nil => simp at hk0
    | cons a r => simp only [List.getElem?_cons_zero, Option.some.injEq] at hk0; subst hk0; rfl
  have hne : kids.map rowOf ≠ [] := by intro h; have := congrArg List.length h; simp at this; subst this; simp at hlen; omega
  rw [hhead] at hK
  unfold tableP at hK
  rw [if_neg hne] at hK
  have hO0 : OldN GOk k0 := hO.kid hk0
  have hs0 := hsh k0 (List.mem_of_getElem? hk0)
  obtain ⟨zk, zt, zv, zp, zg, zo, zc, zks⟩ := k0
  obtain ⟨zlen, hzl⟩ : ∃ x, zks.length = x := ⟨_, rfl⟩
  simp only [Nd.kids] at hs0 hK
  have hL := line_spec' hT 13 Nd.text zk zt zv zp zg zo zc zlen zks hzl hO0 (by have := hs0.1.2; omega) (fun f hf => (hs0.2 f hf).1) (fun f _ => print1_spec f)
  have hh48 : ∀ s ∈ (zks.map fun f => f.text.data.toList), s.length ≤ 48 := fun s hs => by
    obtain ⟨f, hf, rfl⟩ := List.mem_map.1 hs
    rw [Array.length_toList]; exact (hs0.2 f hf).1
  have hlh := lineP_len hh48 (by rw [List.length_map]; exact hs0.1.2)
  rw [List.map_map] at hK
  have hcomp : ((fun s : ByteArray => s.data.toList) ∘ Nd.text) = fun f => f.text.data.toList := rfl
  rw [hcomp] at hK
  generalize lineP (zks.map fun f => f.text.data.toList) = hd at hL hlh hK
  cbv
  refine ob_ hN ⟨⟨by simp, by simp; omega⟩, hpt, trivial⟩ ?_
  cbv
  simp only [hp0]
  refine op_ hN (load_kidF ty_ok hG hO (k := .mk zk zt zv zp zg zo zc zks) (i := 0) (f := 3) (v := .gsl zp zg zo 4 zlen zc) hk0 (by simp [Nd.row, Nd.sl, Nd.p, Nd.g, Nd.off, Nd.cap, Nd.kids, hzl]) rfl rfl rfl rfl ?_)
  cbv
  refine op_ hN (call_ hL hG [] rfl rfl rfl rfl rfl ?_)
  intro s0 hs0'
  have hsz0 : s0.size ≤ 800 := by
    have h2 : s0.data.toList.length = s0.size := by simp
    rw [hs0'] at h2; omega
  cbv
  refine loopN_ hN (loop_ hN ty_ok mixed (ι := Nat × ByteArray) (fun y => ⟨[(7, .str y.2), (30, .gsl p g off 4 len cap), (31, .int .i64 (Int.ofNat len)), (32, .int .i64 (Int.ofNat y.1))], [], 0⟩)
    (fun y => y.1 ≤ len ∧ y.2.data.toList = hd ++ ((kids.take y.1).map rowOf).flatMap lineP ∧ y.2.size ≤ 800 * (y.1 + 1)) (fun y => len - y.1) ?_ ?_)
  · exact Leads.idx (0, s0) [] ⟨Nat.zero_le _, by rw [hs0']; simp, by simp only; omega⟩ ⟨⟨rfl, rfl, rfl, rfl, trivial⟩, rfl, Nat.le_of_ble_eq_true rfl⟩
  clear hs0' hsz0 hL hlh
  rintro ⟨i, s⟩ ⟨hi, hgo, hsz⟩ Nnext hn _
  simp only at hi hgo hsz
  cbv
  refine cond_ hN (fun h => ?_) (fun h => ?_)
  · rw [clt hN] at h
    simp only [decide_eq_true_eq, decide_eq_false_iff_not, Int.ofNat_eq_natCast, gt_iff_lt, ge_iff_le, Bool.not_eq_true', Bool.not_eq_false', Int.not_lt, Int.not_le] at h
    have hilt : i < len := by have : (i : Int) < (len : Int) := h; omega
    obtain ⟨k, hk⟩ : ∃ k, kids[i]? = some k := ⟨kids[i]'(by omega), List.getElem?_eq_getElem (by omega)⟩
    have hkm := List.mem_of_getElem? hk
    have hOk := hO.kid hk
    have hsk := hsh k hkm
    have htake : ((kids.take (i + 1)).map rowOf).flatMap lineP = ((kids.take i).map rowOf).flatMap lineP ++ lineP (rowOf k) := by rw [List.take_add_one, hk]; simp
    have hpi : bp 0 (Int.ofNat i) = i := plus0 hN i
    have hnx : bi .add .i64 (Int.ofNat i) 1 = Int.ofNat (i + 1) := inext hN (by omega)
    obtain ⟨kk, kt, kv, kp, kg, ko, kc, kks⟩ := k
    obtain ⟨klen, hkl⟩ : ∃ x, kks.length = x := ⟨_, rfl⟩
    have hsv : Nd.sv (.mk kk kt kv kp kg ko kc kks) = .agg [.int .i64 kk, .str kt, .str kv, .gsl kp kg ko 4 klen kc] := by simp [Nd.sv, Nd.row, Nd.sl, Nd.kind, Nd.text, Nd.val, Nd.p, Nd.g, Nd.off, Nd.kids, Nd.cap, hkl]
    simp only [Nd.kids] at hsk
    have hrow : rowOf (.mk kk kt kv kp kg ko kc kks) = kks.map fun f => (ft2 f).data.toList := List.map_congr_left fun f _ => (ft2_cell f).symm
    have hLk := line_spec' hT 14 ft2 kk kt kv kp kg ko kc klen kks hkl hOk (by have := hsk.1.2; omega) (fun f hf => by
      have h1 := (hsk.2 f hf).2.1
      rw [← ft2_cell, Array.length_toList] at h1; exact h1) (fun f hf => print2_spec f (OldN.mem hOk hf) (hsk.2 f hf).2.2)
    have hl8 := lineP_len (l := rowOf (.mk kk kt kv kp kg ko kc kks)) (fun s hs => by
      obtain ⟨f, hf, rfl⟩ := List.mem_map.1 hs
      exact (hsk.2 f hf).2.1) (by simp only [rowOf, List.length_map, Nd.kids]; exact hsk.1.2)
    rw [← hrow] at hLk
    generalize lineP (rowOf (.mk kk kt kv kp kg ko kc kks)) = ln at hLk hl8 htake
    cbv
    refine ob_ hN ⟨⟨by simp, by simpa using hilt⟩, hpt, trivial⟩ ?_
    cbv
    simp only [hpi]
    refine op_ hN (load_kid ty_ok hG hO hk rfl rfl rfl rfl rfl ?_)
    rw [hsv]
    cbv
    refine op_ hN (call_ hLk hG [] rfl rfl rfl rfl rfl ?_)
    intro r hr
    have hrs : r.size ≤ 800 := by
      have h2 : r.data.toList.length = r.size := by simp
      rw [hr] at h2; omega
    obtain ⟨x1, hx1⟩ : ∃ x, bk s r = x := ⟨_, rfl⟩
    have ex1 : x1 = s ++ r := by rw [← hx1, bk_ hN]
    have hxs : x1.size = s.size + r.size := by rw [ex1, ByteArray.size_append]
    cbv
    refine ob_ hN ⟨?_, trivial⟩ ?_
    · show ((s.size + r.size : Nat) : Int) ≤ _
      rw [hmx]; omega
    cbv
    simp only [hx1, hnx]
    exact hn _ (Leads.nxt (i + 1, x1) [] ⟨hilt, by rw [htake, ex1, ← List.append_assoc, ← hgo, ← hr]; simp, by simp only; omega⟩ (by simp only; omega) ⟨⟨rfl, rfl, rfl, rfl, trivial⟩, rfl, Nat.le_of_ble_eq_true rfl⟩)
  · rw [clt hN] at h
    simp only [decide_eq_true_eq, decide_eq_false_iff_not, Int.ofNat_eq_natCast, gt_iff_lt, ge_iff_le, Bool.not_eq_true', Bool.not_eq_false', Int.not_lt, Int.not_le] at h
    have hie : i = len := by have : (len : Int) ≤ (i : Int) := h; omega
    rw [List.take_of_length_le (by omega)] at hgo
    cbv
    exact hf _ _ (fin_forget (fun x => .ret (.tuple [.str s, x, .int .i64 0])) _ (fun ρ e h => by cases e <;> exact h) fun u => fin_ [] rfl rfl (hK 0 s u he (fun _ => hgo)))
end Hx
/- The law's own look: lives. -/
namespace Hx
open Go Sx Go.Proofs
set_option maxRecDepth 100000
set_option maxHeartbeats 4000000
set_option linter.unusedVariables false
set_option linter.unusedSimpArgs false
variable {GOk : Gl → Prop}
theorem triple_weak {B : Base Pd} {f : FuncId} {nin nout : Nat} {args : List SV} {pre : List (Chunk Pd)} {p q : (Out → List (Chunk Pd) → Prop) → Prop} (h : Triple B f nin nout args pre p) (hi : ∀ K, q K → p K) : Triple B f nin nout args pre q :=
  ⟨h.call, fun G hG K hK => h.goes G hG K (hi K hK)⟩
def tmS : ByteArray := ⟨#[120, 34, 121]⟩
def tm8 : ByteArray := ⟨#[97]⟩
def outS : ByteArray := ⟨#[97, 10, 34, 120, 34, 34, 121, 34, 10]⟩
def liv4 : Nd := .mk 4 tmS ⟨#[]⟩ false 0 0 0 []
def liv8 (a : Nat) : Nd := .mk 8 tm8 ⟨#[]⟩ true a 0 1 [liv4]
def liv7 (a b : Nat) : Nd := .mk 7 ⟨#[]⟩ ⟨#[]⟩ true b 0 1 [liv8 a]
def liv5 (a b c : Nat) : Nd := .mk 5 ⟨#[]⟩ ⟨#[]⟩ true c 0 1 [liv7 a b]
theorem liv_evs (a b c : Nat) : evs (liv5 a b c) = [ev0 5, ev0 7, ⟨8, tm8, ⟨#[]⟩⟩, ⟨4, tmS, ⟨#[]⟩⟩, ev0 9, ev0 6] := rfl
theorem liv_of (a b c : Nat) : ofM rightM (liv5 a b c) = 0 := by
  have hw : walkM rightM (liv5 a b c) = 0 := by unfold walkM; rw [liv_evs]; decide
  have hl : lookM (liv5 a b c) = true := by rfl
  unfold ofM
  rw [if_neg (by simp [hw]), hl]; rfl
theorem liv_out (a b c : Nat) : tableP ((liv5 a b c).kids.map rowOf) ((headOf (liv5 a b c)).map fun s => s.data.toList) = outS.data.toList := by rfl
theorem frz_tab (hT : GTab GOk) {G : Gl} (hG : GOk G) {w : World} {Ps : List HP} (h : Sat G Ps w) : GTab (fun G' => G' = frz w) := by
  rintro G' rfl w' h1 h2
  refine hT G hG w' (fun b hb => ?_) (Nat.le_trans h.size h2)
  have hb2 : b < w.heap.size := Nat.lt_of_lt_of_le hb h.size
  exact (h1 b hb2).trans (h.old.old b hb)
theorem ilives_spec (hT : GTab GOk) : Triple (BB Ip GOk) 5 0 0 [] [] (fun K => K (.ret (.bool true)) []) := by
  refine triple_of BB_ok (tb := ty) rfl (n0 := 0) (fun _ : Unit => _) pl5 Tryz.call5 Tryz.func5 rfl (by kernel_rfl) (Nat.le_of_ble_eq_true rfl) (by decide) rfl pre_none ?_
  rintro G hG K hK W bi bc bs bk bu bb bo bg bl bp bn be Ncond Nob Nop Nloop Nscope hN Nfin hf _ _
  cbv
  refine op_ hN (call_frozen (B := BB Ip GOk) (nout := 0) (post := fun K => ∀ v, K (.ret (.tuple [.str outS, .raw v, .int .i64 0])) []) Tryz.call6 (fun ρ F w h => ?_) rfl ?_)
  · refine ⟨[.agg [.int .i64 5, .str ⟨#[]⟩, .str ⟨#[]⟩, .gsl true (ρ 2) 0 4 1 1]], by simp [SV.denL, SV.den, gad], ?_⟩
    have h2 := SatC.cell (id := 2) h rfl
    have h1 := SatC.cell (id := 1) h rfl
    have h0 := SatC.cell (id := 0) h rfl
    have lt : ∀ {b : Nat} {o : Obj}, w.heap[b]? = some o → b < w.heap.size := fun e => (Array.getElem?_eq_some_iff.1 e).1
    have hO : OldN (fun G' => G' = frz w) (liv5 (ρ 0) (ρ 1) (ρ 2)) := by
      rintro G' rfl
      refine ⟨Nat.le_refl _, by decide, (fun h => nomatch h), ⟨lt h2, _, _, _, h2, ?_⟩, ⟨Nat.le_refl _, by decide, (fun h => nomatch h), ⟨lt h1, _, _, _, h1, ?_⟩, ⟨Nat.le_refl _, by decide, (fun h => nomatch h), ⟨lt h0, _, _, _, h0, ?_⟩, ⟨Nat.le_refl _, by decide, (fun _ => rfl), trivial⟩, trivial⟩, trivial⟩, trivial⟩ <;> (intro f v hv; simpa [SV.denL, SV.den, Nd.row, Nd.sl, liv7, liv8, liv4, Nd.kind, Nd.text, Nd.val, Nd.p, Nd.g, Nd.off, Nd.kids, Nd.cap, tmS, tm8, gad] using hv)
    refine triple_weak (print_spec (frz_tab hT hG h) 5 ⟨#[]⟩ ⟨#[]⟩ true (ρ 2) 0 1 1 [liv7 (ρ 0) (ρ 1)] rfl hO (by rw [show Nd.mk 5 ⟨#[]⟩ ⟨#[]⟩ true (ρ 2) 0 1 [liv7 (ρ 0) (ρ 1)] = liv5 (ρ 0) (ρ 1) (ρ 2) from rfl, liv_evs]; decide) ?_ ?_ (by decide)) ?_
    · intro x hx
      rw [show Nd.mk 5 ⟨#[]⟩ ⟨#[]⟩ true (ρ 2) 0 1 [liv7 (ρ 0) (ρ 1)] = liv5 (ρ 0) (ρ 1) (ρ 2) from rfl, liv_evs] at hx
      simp only [List.mem_cons, List.not_mem_nil, or_false] at hx
      rcases hx with rfl | rfl | rfl | rfl | rfl | rfl <;> exact ⟨by decide, by decide, by decide, trivial⟩
    · intro k hk
      rw [List.mem_singleton.1 hk]; exact (by decide : (1 : Nat) ≤ 1000000)
    · intro K hK e s v he hs
      rw [show Nd.mk 5 ⟨#[]⟩ ⟨#[]⟩ true (ρ 2) 0 1 [liv7 (ρ 0) (ρ 1)] = liv5 (ρ 0) (ρ 1) (ρ 2) from rfl] at he hs
      rw [liv_of] at he
      have h3 := (hs he).trans (liv_out (ρ 0) (ρ 1) (ρ 2))
      have h4 : s = outS := by
        obtain ⟨⟨s⟩⟩ := s
        exact congrArg ByteArray.mk (Array.toList_inj.1 h3)
      rw [he, h4]
      exact hK v
  intro v
  cbv
  refine cond_T hN ?_ ?_
  · rw [seq_eq hN]; rfl
  cbv
  have hb : bc .eql 0 0 = true := by rw [ceq hN]; rfl
  simp only [hb]
  exact hf _ _ (fin_ [] rfl rfl hK)
end Hx
