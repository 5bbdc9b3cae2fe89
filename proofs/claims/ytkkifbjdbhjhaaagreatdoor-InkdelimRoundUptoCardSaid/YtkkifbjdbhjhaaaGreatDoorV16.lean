/-
  Part of a proof.
-/
import Derived.Test.YtkkifbjdbhjhaaaGreatDoorV15
import Derived.Test.YtkkifbjdbhjhaaaGreatDoorV11
import Derived.Test.YtkkifbjdbhjhaaaGreatDoorV06
set_option linter.unusedVariables false
set_option linter.unusedSimpArgs false
/- carry.look.delim: the walks. -/
namespace Hx
open Go Sx Go.Proofs
set_option maxRecDepth 100000
set_option maxHeartbeats 4000000
set_option linter.unusedVariables false
set_option linter.unusedSimpArgs false
variable {GOk : Gl → Prop}
def Cb3Ok (GOk : Gl → Prop) (fcb : Nat) (d : Nat) (ok : Nd → Bool) (ctx : List SV) (i : Nat) (k : Nd) : Prop :=
  Triple (BB Ip GOk) fcb 4 4 [.int .i64 (Int.ofNat i), k.sv, .ptr 2 0, .ptr 3 0, .ptr 1 0] [.abs (.lk (d + 1)) [0], .cells 1 61 [.ptr 0 0], .cells 2 82 [.fn (.func 41) [] []], .cells 3 24 ctx]
    (fun K => (ok k = true → K (.ret (.tuple [])) [.abs (.lk (d + 1)) [0], .cells 1 61 [.ptr 0 0], .cells 2 82 [.fn (.func 41) [] []], .cells 3 24 ctx]) ∧ (ok k = false → ∀ v, K (.pan (noV v)) []))
theorem kids3_spec (fcb d : Nat) (hd : d < 10) (ok : Nd → Bool) (kind : Int) (text val : ByteArray) (p : Bool) (g off cap len : Nat) (kids : List Nd) (hlen : kids.length = len) (hO : OldN GOk (.mk kind text val p g off cap kids))
    (hcb : ∀ i k, kids[i]? = some k → Cb3Ok GOk fcb d ok [.int .i64 kind, .str text, .str val, .gsl p g off 4 len cap] i k) :
    Triple (BB Ip GOk) 36 4 4 [.ptr 0 0, .agg [.int .i64 kind, .str text, .str val, .gsl p g off 4 len cap], .fn (.func fcb) [] [.ptr 2 0, .ptr 3 0, .ptr 1 0]] [.abs (.lk d) [0], .cells 1 61 [.ptr 0 0], .cells 2 82 [.fn (.func 41) [] []], .cells 3 24 [.int .i64 kind, .str text, .str val, .gsl p g off 4 len cap]]
      (fun K => (kids.all ok = true → K (.ret (.tuple [])) [.abs (.lk d) [0], .cells 1 61 [.ptr 0 0], .cells 2 82 [.fn (.func 41) [] []], .cells 3 24 [.int .i64 kind, .str text, .str val, .gsl p g off 4 len cap]]) ∧ (kids.all ok = false → ∀ v, K (.pan (noV v)) [])) := by
  refine triple_of BB_ok (tb := ty) rfl (n0 := 4) (fun _ : Unit => _) pl36 Tryz.call36 Tryz.func36 rfl (by kernel_rfl) (Nat.le_of_ble_eq_true rfl) (by decide) rfl pre_none ?_
  rintro G hG K hK W bi bc bs bk bu bb bo bg bl bp bn be Ncond Nob Nop Nloop Nscope hN Nfin hf _ _
  obtain ⟨hK1, hK2⟩ := hK
  have hlenb : len ≤ 9223372036854775807 := by have := hO.len hG; simp only [Nd.kids] at this; omega
  cbv
  refine loopN_ hN (loop_ hN ty_ok mixed (ι := Nat) (fun y => ⟨[(0, .ptr 0 0), (2, .fn (.func fcb) [] [.ptr 2 0, .ptr 3 0, .ptr 1 0]), (9, .gsl p g off 4 len cap), (10, .int .i64 (Int.ofNat len)), (11, .int .i64 (Int.ofNat y))],
    [.abs (.lk d) [0], .cells 1 61 [.ptr 0 0], .cells 2 82 [.fn (.func 41) [] []], .cells 3 24 [.int .i64 kind, .str text, .str val, .gsl p g off 4 len cap]], 4⟩) (fun y => y ≤ len ∧ (kids.take y).all ok = true) (fun y => len - y) ?_ ?_)
  · exact Leads.idx 0 [] ⟨Nat.zero_le _, rfl⟩ ⟨⟨rfl, rfl, rfl, rfl, rfl, trivial⟩, rfl, Nat.le_of_ble_eq_true rfl⟩
  rintro i ⟨hi, hgo⟩ Nnext hn _
  cbv
  refine cond_ hN (fun h => ?_) (fun h => ?_)
  · rw [clt hN] at h
    simp only [decide_eq_true_eq, decide_eq_false_iff_not, Int.ofNat_eq_natCast, gt_iff_lt, ge_iff_le, Bool.not_eq_true', Bool.not_eq_false', Int.not_lt, Int.not_le] at h
    have hilt : i < len := by have : (i : Int) < (len : Int) := h; omega
    have hpt : p = true := by
      have := hO.p hG (i := i) (by simp only [Nd.kids]; omega)
      exact this
    obtain ⟨k, hk⟩ : ∃ k, kids[i]? = some k := ⟨kids[i]'(by omega), List.getElem?_eq_getElem (by omega)⟩
    have htake : kids.take (i + 1) = kids.take i ++ [k] := by rw [List.take_add_one, hk]; rfl
    have hp0 : bp 0 (Int.ofNat i) = i := plus0 hN i
    have hnx : bi .add .i64 (Int.ofNat i) 1 = Int.ofNat (i + 1) := inext hN (by omega)
    have hT := hcb i k hk
    unfold Cb3Ok at hT
    have hokk : ok k = false → kids.all ok = false := fun h => by
      have hm : k ∈ kids := List.mem_of_getElem? hk
      rw [← Bool.not_eq_true, List.all_eq_true]
      intro hall
      rw [hall k hm] at h; cases h
    generalize hokb : ok k = okb at hT hokk
    obtain ⟨kk, kt, kv, kp, kg, ko, kc, kks⟩ := k
    obtain ⟨klen, hkl⟩ : ∃ x, kks.length = x := ⟨_, rfl⟩
    have hsv : Nd.sv (.mk kk kt kv kp kg ko kc kks) = .agg [.int .i64 kk, .str kt, .str kv, .gsl kp kg ko 4 klen kc] := by simp [Nd.sv, Nd.row, Nd.sl, Nd.kind, Nd.text, Nd.val, Nd.p, Nd.g, Nd.off, Nd.kids, Nd.cap, hkl]
    cbv
    refine ob_ hN ⟨⟨by simp, by simpa using hilt⟩, hpt, trivial⟩ ?_
    cbv
    simp only [hp0]
    refine op_ hN (load_kid ty_ok hG hO hk rfl rfl rfl rfl rfl ?_)
    rw [hsv] at hT ⊢
    cbv
    refine op_ hN (op_open rfl 0 1 rfl rfl rfl rfl ?_)
    rintro _ ⟨p1, lo1, len1, cap1, xs1, l1, hv1, hl1, rfl⟩
    have hvl := hv1.length
    refine load_ ty_ok rfl ?_
    cbv
    refine op_ hN (append_vec (new := [(Int.ofNat i)]) (z := 0) ty_ok rfl rfl rfl rfl (fun k => by simp) rfl rfl wideI rfl rfl (src_cells wideI rfl (fun _ _ _ _ => rfl) rfl) hv1.pr hv1.room hv1.fits (by simp; omega) (by decide) ?_)
    intro p2 lo2 len2 cap2 xs2 hm2 e1 e2 e3 e4
    have hv2 : VecOk p2 lo2 len2 cap2 xs2 (l1 ++ [Int.ofNat i]) := ⟨e1, e2, e3, by rw [e4, hv1.eq]⟩
    generalize hl2 : l1 ++ [Int.ofNat i] = l2 at hv2
    have hl2n : l2.length = d + 1 ∧ d + 1 ≤ 10 := ⟨by rw [← hl2]; simp; omega, by omega⟩
    obtain ⟨d1, hd1⟩ : ∃ x, x = d + 1 := ⟨_, rfl⟩
    rw [← hd1] at hT hl2n
    clear hl2 e4 hm2
    cbv
    refine op_ hN (op_close rfl (.lk d1) [0] [7] _ ⟨p2, lo2, len2, cap2, xs2, l2, hv2, hl2n, rfl⟩ rfl rfl ?_)
    refine call_ hT hG [0, 1, 2, 3] rfl rfl rfl rfl rfl ⟨fun hok => ?_, fun hno v => ?_⟩
    · clear hv2 hl2n hv1 hl1 hT
      cbv
      repeat' (first | exact True.intro | with_reducible refine dup ?_ | refine And.intro ?_ ?_)
      all_goals
        refine op_ hN (op_open rfl 0 1 rfl rfl rfl rfl ?_)
        rintro _ ⟨p3, lo3, len3, cap3, xs3, l3, hv3, hl3, rfl⟩
        refine load_ ty_ok rfl ?_
        have hvl3 := hv3.length
        have hlen3 : len3 = d + 1 := by omega
        have hv4 := vec_pop (len := d) (hlen3 ▸ hv3)
        have hfits3 := hv3.fits
        have hl4 : (l3.take d).length = d ∧ d ≤ 10 := ⟨by rw [List.length_take]; omega, by omega⟩
        generalize l3.take d = l4 at hv4 hl4
        have hsub : bi .sub .i64 (Int.ofNat len3) 1 = Int.ofNat d := by rw [isub hN (by simp; omega) (by simp; omega)]; simp; omega
        have hob2 : obsP [.le3 0 (Int.ofNat d) (Int.ofNat cap3)] := ⟨⟨by simp, by simp, by simp; omega⟩, trivial⟩
        have hb1 : bo lo3 0 cap3 = lo3 := by rw [bo_ hN]; simp [sloff]
        have hb2 : bg (Int.ofNat d) 0 = d := by rw [bg_ hN]; simp
        have hb3 : bl cap3 0 = cap3 := by rw [bl_ hN]; simp
        clear hv3 hl3
        cbv
        simp only [hsub]
        repeat' (first | exact True.intro | with_reducible refine dup ?_ | refine And.intro ?_ ?_ | (refine ob_ hN hob2 ?_; (try simp only [hb1, hb2, hb3]); cbv))
        all_goals
          simp only [hnx]
          exact hn _ (leads_close rfl (.lk d) [0] [23] _ ⟨p3, lo3, d, cap3, xs3, l4, hv4, hl4, rfl⟩ rfl (Leads.nxt (i + 1) [] ⟨hilt, by rw [htake, List.all_append, hgo]; simp only [List.all_cons, List.all_nil, Bool.and_true, Bool.true_and]; rw [hokb]; exact hok⟩ (by omega) ⟨⟨rfl, rfl, rfl, rfl, rfl, trivial⟩, rfl, Nat.le_of_ble_eq_true rfl⟩))
    · cbv
      exact hf _ _ (fin_ [] rfl rfl (hK2 (hokk hno) v))
  · rw [clt hN] at h
    simp only [decide_eq_true_eq, decide_eq_false_iff_not, Int.ofNat_eq_natCast, gt_iff_lt, ge_iff_le, Bool.not_eq_true', Bool.not_eq_false', Int.not_lt, Int.not_le] at h
    have hie : i = len := by have : (len : Int) ≤ (i : Int) := h; omega
    rw [List.take_of_length_le (by omega)] at hgo
    cbv
    exact hf _ _ (fin_ [] rfl rfl (hK1 hgo))


/-- the names of a row's fields -/
theorem keys_spec (kind : Int) (text val : ByteArray) (p : Bool) (g off cap len : Nat) (kids : List Nd) (hlen : kids.length = len) (hO : OldN GOk (.mk kind text val p g off cap kids)) (hsm : len ≤ 1000000) :
    Triple (BB Ip GOk) 41 0 1 [.agg [.int .i64 kind, .str text, .str val, .gsl p g off 4 len cap]] [] (fun K => ∀ q lo n c ys, VecOk q lo n c ys (kids.map Nd.text) → K (.ret (.vec q 0 1 lo n c)) [.arr q true 0 9 encS ys]) := by
  refine triple_of BB_ok (tb := ty) rfl (n0 := 0) (fun _ : Unit => _) pl41 Tryz.call41 Tryz.func41 rfl (by kernel_rfl) (Nat.le_of_ble_eq_true rfl) (by decide) rfl pre_none ?_
  rintro G hG K hK W bi bc bs bk bu bb bo bg bl bp bn be Ncond Nob Nop Nloop Nscope hN Nfin hf _ _
  cbv
  refine loopN_ hN (loop_ hN ty_ok mixed (ι := Nat × Bool × Nat × Nat × Nat × List ByteArray) (fun y => ⟨[(3, .vec y.2.1 1 1 y.2.2.1 y.2.2.2.1 y.2.2.2.2.1), (7, .gsl p g off 4 len cap), (8, .int .i64 (Int.ofNat len)), (9, .int .i64 (Int.ofNat y.1))], [.cells 0 24 [.int .i64 kind, .str text, .str val, .gsl p g off 4 len cap], .arr y.2.1 true 1 9 encS y.2.2.2.2.2], 2⟩)
    (fun y => y.1 ≤ len ∧ VecOk y.2.1 y.2.2.1 y.2.2.2.1 y.2.2.2.2.1 y.2.2.2.2.2 ((kids.take y.1).map Nd.text)) (fun y => len - y.1) ?_ ?_)
  · refine leads_noArr true 1 2 9 encS [] rfl ?_
    refine leads_eset 3 .nilslice (.vec false 1 1 0 0 0) rfl (fun _ => rfl) ?_
    exact Leads.idx (0, false, 0, 0, 0, []) [0, 1] ⟨Nat.zero_le _, ⟨fun _ => rfl, Nat.le_refl _, Nat.le_refl _, rfl⟩⟩ ⟨⟨rfl, rfl, rfl, rfl, trivial⟩, rfl, Nat.le_of_ble_eq_true rfl⟩
  rintro ⟨i, q, lo, n, c, ys⟩ ⟨hi, hv⟩ Nnext hn _
  simp only at hi hv
  cbv
  refine cond_ hN (fun h => ?_) (fun h => ?_)
  · rw [clt hN] at h
    simp only [decide_eq_true_eq, decide_eq_false_iff_not, Int.ofNat_eq_natCast, gt_iff_lt, ge_iff_le, Bool.not_eq_true', Bool.not_eq_false', Int.not_lt, Int.not_le] at h
    have hilt : i < len := by have : (i : Int) < (len : Int) := h; omega
    have hpt : p = true := by
      have := hO.p hG (i := i) (by simp only [Nd.kids]; omega)
      exact this
    obtain ⟨k, hk⟩ : ∃ k, kids[i]? = some k := ⟨kids[i]'(by omega), List.getElem?_eq_getElem (by omega)⟩
    have htake : (kids.take (i + 1)).map Nd.text = (kids.take i).map Nd.text ++ [k.text] := by rw [List.take_add_one, hk]; simp
    have hp0 : bp 0 (Int.ofNat i) = i := plus0 hN i
    have hnx : bi .add .i64 (Int.ofNat i) 1 = Int.ofNat (i + 1) := inext hN (by omega)
    have hvl := hv.length
    have hnl : n ≤ i := by rw [← hvl, List.length_map, List.length_take]; omega
    generalize (kids.take i).map Nd.text = l at hv htake hvl
    obtain ⟨kk, kt, kv, kp, kg, ko, kc, kks⟩ := k
    obtain ⟨klen, hkl⟩ : ∃ x, kks.length = x := ⟨_, rfl⟩
    have hsv : Nd.sv (.mk kk kt kv kp kg ko kc kks) = .agg [.int .i64 kk, .str kt, .str kv, .gsl kp kg ko 4 klen kc] := by simp [Nd.sv, Nd.row, Nd.sl, Nd.kind, Nd.text, Nd.val, Nd.p, Nd.g, Nd.off, Nd.kids, Nd.cap, hkl]
    simp only [Nd.text] at htake
    cbv
    refine ob_ hN ⟨⟨by simp, by simpa using hilt⟩, hpt, trivial⟩ ?_
    cbv
    simp only [hp0]
    refine op_ hN (load_kid ty_ok hG hO hk rfl rfl rfl rfl rfl ?_)
    rw [hsv]
    cbv
    refine op_ hN (append_vec (new := [kt]) (z := ⟨#[]⟩) ty_ok rfl rfl rfl rfl (fun k => by simp) rfl rfl wideS rfl rfl (src_cells wideS rfl (fun _ _ _ _ => rfl) rfl) hv.pr hv.room hv.fits (by simp; omega) (by decide) ?_)
    intro p' lo' m' cap' xs' hm' e1 e2 e3 e4
    cbv
    simp only [hnx]
    exact hn _ (Leads.nxt (i + 1, p', lo', m', cap', xs') [0, 4] ⟨hilt, ⟨e1, e2, e3, by rw [e4, htake, hv.eq]⟩⟩ (by simp only; omega) ⟨⟨rfl, rfl, rfl, rfl, trivial⟩, rfl, Nat.le_of_ble_eq_true rfl⟩)
  · rw [clt hN] at h
    simp only [decide_eq_true_eq, decide_eq_false_iff_not, Int.ofNat_eq_natCast, gt_iff_lt, ge_iff_le, Bool.not_eq_true', Bool.not_eq_false', Int.not_lt, Int.not_le] at h
    have hie : i = len := by have : (len : Int) ≤ (i : Int) := h; omega
    rw [List.take_of_length_le (by omega)] at hv
    cbv
    exact hf _ _ (fin_ [1] rfl rfl (hK q lo n c ys hv))
theorem vec_get {α : Type} {p : Bool} {lo len cap : Nat} {xs l : List α} (hv : VecOk p lo len cap xs l) {i : Nat} (hi : i < len) : ∃ x, l[i]? = some x ∧ xs[lo + i]? = some x ∧ lo + i < xs.length := by
  have hl := hv.length
  have hr := hv.room
  have hf := hv.fits
  refine ⟨l[i]'(by omega), List.getElem?_eq_getElem _, ?_, by omega⟩
  have h5 : ((xs.drop lo).take len)[i]? = some (l[i]'(by omega)) := by rw [hv.eq]; exact List.getElem?_eq_getElem _
  rw [List.getElem?_take, if_pos hi, List.getElem?_drop] at h5
  exact h5
theorem take_eq_next {α : Type} {a b : List α} {i : Nat} {x : α} (h : a.take i = b.take i) (ha : a[i]? = some x) (hb : b[i]? = some x) : a.take (i + 1) = b.take (i + 1) := by
  rw [List.take_add_one, List.take_add_one, h, ha, hb]
theorem take_ne_next {α : Type} {a b : List α} {i : Nat} {x y : α} (ha : a[i]? = some x) (hb : b[i]? = some y) (hxy : x ≠ y) : a ≠ b := by
  rintro rfl; rw [ha] at hb; exact hxy (Option.some.inj hb)
theorem equal_spec (p : Bool) (lo len cap : Nat) (xs l : List ByteArray) (q : Bool) (lo2 len2 cap2 : Nat) (ys m : List ByteArray) (hv : VecOk p lo len cap xs l) (hw : VecOk q lo2 len2 cap2 ys m) (hsm : len ≤ 1000000 ∧ len2 ≤ 1000000) :
    Triple (BB Ip GOk) 43 2 2 [.vec p 0 1 lo len cap, .vec q 1 1 lo2 len2 cap2] [.arr p true 0 9 encS xs, .arr q true 1 9 encS ys] (fun K => ∀ b, b = decide (l = m) → K (.ret (.bool b)) []) := by
  refine triple_of BB_ok (tb := ty) rfl (n0 := 2) (fun _ : Unit => _) pl43 Tryz.call43 Tryz.func43 rfl (by kernel_rfl) (Nat.le_of_ble_eq_true rfl) (by decide) rfl pre_none ?_
  rintro G hG K hK W bi bc bs bk bu bb bo bg bl bp bn be Ncond Nob Nop Nloop Nscope hN Nfin hf _ _
  have hl1 := hv.length
  have hl2 := hw.length
  have hroom := hv.room
  have hfits := hv.fits
  have hroom2 := hw.room
  have hfits2 := hw.fits
  cbv
  refine cond_ hN ?_ ?_ <;> intro h <;> rw [cne hN] at h
  · have h' : len ≠ len2 := fun e => by subst e; simp at h
    cbv
    exact hf _ _ (fin_as (.bool false) (fun _ => rfl) (fin_ [] rfl rfl (hK false (by rw [decide_eq_false]; rintro rfl; omega))))
  have h' : len = len2 := by have : (len : Int) = (len2 : Int) := by simpa using h
                             omega
  subst h'
  clear h
  cbv
  refine loopN_ hN (loop_ hN ty_ok mixed (ι := Nat) (fun y => ⟨[(0, .vec p 0 1 lo len cap), (1, .vec q 1 1 lo2 len cap2), (12, .int .i64 (Int.ofNat len)), (13, .int .i64 (Int.ofNat y))], [.arr p true 0 9 encS xs, .arr q true 1 9 encS ys], 2⟩)
    (fun y => y ≤ len ∧ l.take y = m.take y) (fun y => len - y) ?_ ?_)
  · exact Leads.idx 0 [] ⟨Nat.zero_le _, rfl⟩ ⟨⟨rfl, rfl, rfl, rfl, trivial⟩, rfl, Nat.le_of_ble_eq_true rfl⟩
  rintro i ⟨hi, hgo⟩ Nnext hn _
  cbv
  refine cond_ hN (fun h => ?_) (fun h => ?_)
  · rw [clt hN] at h
    simp only [decide_eq_true_eq, decide_eq_false_iff_not, Int.ofNat_eq_natCast, gt_iff_lt, ge_iff_le, Bool.not_eq_true', Bool.not_eq_false', Int.not_lt, Int.not_le] at h
    have hilt : i < len := by have : (i : Int) < (len : Int) := h; omega
    have hpt : p = true := by
      cases p with
      | true => rfl
      | false => have := hv.pr rfl; omega
    have hqt : q = true := by
      cases q with
      | true => rfl
      | false => have := hw.pr rfl; omega
    obtain ⟨x, hx1, hx2, hx3⟩ := vec_get hv hilt
    obtain ⟨y, hy1, hy2, hy3⟩ := vec_get hw hilt
    have hidx1 : bp lo (Int.ofNat i) = lo + i := by rw [bp_ hN]; simp
    have hidx2 : bp lo2 (Int.ofNat i) = lo2 + i := by rw [bp_ hN]; simp
    have hob1 : obsP [.inb (Int.ofNat i) (Int.ofNat len), .tru p] := ⟨⟨by simp, by simpa using hilt⟩, hpt, trivial⟩
    have hob2 : obsP [.inb (Int.ofNat i) (Int.ofNat len), .tru q] := ⟨⟨by simp, by simpa using hilt⟩, hqt, trivial⟩
    have hnx : bi .add .i64 (Int.ofNat i) 1 = Int.ofNat (i + 1) := inext hN (by omega)
    cbv
    repeat' (first
      | exact True.intro
      | with_reducible refine dup ?_
      | refine And.intro ?_ ?_
      | (refine ob_ hN hob1 ?_; cbv)
      | (refine ob_ hN hob2 ?_; cbv)
      | (refine op_ hN (load_arr ty_ok rfl hpt rfl wideS (Nat.le_of_ble_eq_true rfl) (by rw [hidx1]; omega) ?_); intro z hz; rw [hidx1, hx2] at hz; obtain rfl := Option.some.inj hz; clear hz; cbv)
      | (refine op_ hN (load_arr ty_ok rfl hqt rfl wideS (Nat.le_of_ble_eq_true rfl) (by rw [hidx2]; omega) ?_); intro z hz; rw [hidx2, hy2] at hz; obtain rfl := Option.some.inj hz; clear hz; cbv))
    all_goals
      refine cond_ hN ?_ ?_ <;> intro h2 <;> rw [sne_eq hN] at h2
      · have h3 : x ≠ y := by simpa using h2
        cbv
        exact hf _ _ (fin_as (.bool false) (fun _ => rfl) (fin_ [] rfl rfl (hK false (by rw [decide_eq_false (take_ne_next hx1 hy1 h3)]))))
      · have h3 : x = y := by simpa using h2
        cbv
        simp only [hnx]
        exact hn _ (Leads.nxt (i + 1) [] ⟨hilt, take_eq_next hgo hx1 (h3 ▸ hy1)⟩ (by omega) ⟨⟨rfl, rfl, rfl, rfl, trivial⟩, rfl, Nat.le_of_ble_eq_true rfl⟩)
  · rw [clt hN] at h
    simp only [decide_eq_true_eq, decide_eq_false_iff_not, Int.ofNat_eq_natCast, gt_iff_lt, ge_iff_le, Bool.not_eq_true', Bool.not_eq_false', Int.not_lt, Int.not_le] at h
    have hie : i = len := by have : (len : Int) ≤ (i : Int) := h; omega
    rw [List.take_of_length_le (by omega), List.take_of_length_le (by omega)] at hgo
    cbv
    exact hf _ _ (fin_as (.bool true) (fun _ => rfl) (fin_ [] rfl rfl (hK true (by rw [decide_eq_true hgo]))))
end Hx
/- inkdelim.cell; strings.Join, ReplaceAll, ContainsFunc: the walks. -/
namespace Hx
open Go Sx Go.Proofs
set_option maxRecDepth 100000
set_option maxHeartbeats 4000000
set_option linter.unusedVariables false
set_option linter.unusedSimpArgs false
variable {GOk : Gl → Prop}
theorem join_spec' (q : Bool) (lo len cap : Nat) (xs l : List ByteArray) (hv : VecOk q lo len cap xs l) (hl : l.length ≤ 1000000) (hsz : (joinC (l.map (·.data.toList))).length ≤ 1000000000) :
    Triple (BB Ip GOk) 27 1 1 [.vec q 0 1 lo len cap, .str ⟨#[44]⟩] [.arr q true 0 9 encS xs] (fun K => ∀ r : ByteArray, r.data.toList = joinC (l.map (·.data.toList)) → K (.ret (.str r)) [.arr q true 0 9 encS xs]) := by
  have hlen := hv.length
  have hroom := hv.room
  have hfits := hv.fits
  refine triple_libM (.ret (.str ⟨(joinC (l.map (·.data.toList))).toArray⟩)) (fun K h => h _ rfl) Tryz.call27 fun G hG ρ F w hs => ?_
  cases q with
  | false =>
    have hl0 : l = [] := List.eq_nil_of_length_eq_zero (by have := hv.pr rfl; omega)
    obtain rfl : len = 0 := by rw [hl0] at hlen; simpa using hlen.symm
    subst hl0
    refine (Tryz.strings_Join_none none cap ⟨#[44]⟩ w).mono ?_
    rintro e w' ⟨rfl, rfl⟩
    exact ⟨rfl, Nat.le_refl _, fun _ _ => rfl, rfl⟩
  | true =>
    obtain ⟨fz, hb⟩ := hs.arrAt (List.Mem.head _)
    have hbk : ρ 0 < w.heap.size := (Array.getElem?_eq_some_iff.1 hb).1
    subst hlen
    refine (Tryz.strings_Join (ρ 0) (lo * 1) cap l ⟨#[44]⟩ w (fun j x hj => ?_) hbk (by omega) hfits (by rw [join_joinC]; omega)).mono ?_
    · have hjl : j < l.length := (List.getElem?_eq_some_iff.1 hj).1
      obtain ⟨y, hy1, hy2, hy3⟩ := vec_get hv hjl
      rw [hj] at hy1
      obtain rfl := Option.some.inj hy1
      simp only [World.cell?, hb, Option.isSome_none, Bool.false_eq_true, if_false]
      have hc : arrCells encS xs = (xs.map fun s => Value.string s).toArray := by
        unfold arrCells
        congr 1
        clear hv hroom hy2 hy3 hb hs
        induction xs with
        | nil => rfl
        | cons a r ih => simp only [List.flatMap_cons, List.map_append, List.map_cons, ih]; rfl
      rw [hc]
      simp [Nat.mul_one, hy2]
    · rintro e w' ⟨rfl, h⟩
      exact ⟨by rw [join_joinC]; rfl, h.size, h.block, Prod.ext h.os h.output⟩
theorem replace_all_spec (hT : GTab GOk) (s : ByteArray) (hs : s.size ≤ 1000000) : Triple (BB Ip GOk) 48 0 0 [.str s, .str ⟨#[34]⟩, .str ⟨#[34, 34]⟩] [] (fun K => ∀ r : ByteArray, r.data.toList = dbl s.data.toList → K (.ret (.str r)) []) := by
  refine triple_lib (.ret (.str ⟨(dbl s.data.toList).toArray⟩)) (fun K h => h _ rfl) Tryz.call48 fun G hG ρ w h1 h2 => ?_
  obtain ⟨m, hm⟩ := (hT G hG w h1 h2).max
  have hcb : Lib.countB s ⟨#[34]⟩ ≤ s.size := by
    have := Lib.countB_mul_le ⟨#[34]⟩ (by decide) s.size s (Nat.le_refl _)
    have h0 : (⟨#[34]⟩ : ByteArray).size = 1 := rfl
    rw [h0] at this; omega
  refine (Tryz.strings_ReplaceAll s ⟨#[34]⟩ ⟨#[34, 34]⟩ m w (by omega) hm (by decide) (by have h0 : (⟨#[34, 34]⟩ : ByteArray).size = 2 := rfl; rw [h0]; omega)).mono ?_
  rintro e w' ⟨rfl, h⟩
  exact ⟨by rw [← replaceAll_dbl]; rfl, h.size, h.block, Prod.ext h.os h.output⟩
def oddI (r : Int) : Bool := decide (r < 32) || (decide (r = 34) || decide (r = 44))
theorem cell1_spec (r : Int) : Triple (BB Ip GOk) 46 0 0 [.int .i32 r] [] (fun K => ∀ b, b = oddI r → K (.ret (.bool b)) []) := by
  refine triple_of BB_ok (tb := ty) rfl (n0 := 0) (fun _ : Unit => _) pl46 Tryz.call46 Tryz.func46 rfl (by kernel_rfl) (Nat.le_of_ble_eq_true rfl) (by decide) rfl pre_none ?_
  rintro G hG K hK W bi bc bs bk bu bb bo bg bl bp bn be Ncond Nob Nop Nloop Nscope hN Nfin hf _ _
  cbv
  refine cond_ hN ?_ ?_ <;> intro h1 <;> rw [clt hN] at h1
  · have h1 : r < 32 := by simpa using h1
    cbv
    exact hf _ _ (fin_as (.bool true) (fun _ => rfl) (fin_ [] rfl rfl (hK true (by simp [oddI, h1]))))
  have h1 : ¬ r < 32 := by simpa using h1
  cbv
  refine cond_ hN ?_ ?_ <;> intro h2
  · have h2' : r = 34 := by rw [ceq hN] at h2; simpa using h2
    cbv
    exact hf _ _ (fin_as (.bool true) (fun _ => rfl) (fin_ [] rfl rfl (hK true (by simp [oddI, h2']))))
  have h2' : ¬ r = 34 := by rw [ceq hN] at h2; simpa using h2
  obtain ⟨b3, hb3⟩ : ∃ b, bc .eql r 44 = b := ⟨_, rfl⟩
  cbv
  simp only [hb3]
  exact hf _ _ (fin_ [] rfl rfl (hK b3 (by rw [← hb3, ceq hN]; simp [oddI, h1, h2'])))
def oddN (s : ByteArray) (j : Nat) : Prop := j < s.size ∧ ((s.get! j).toNat < 32 ∨ (s.get! j).toNat = 34 ∨ (s.get! j).toNat = 44)
theorem get_list (s : ByteArray) (j : Nat) (h : j < s.size) : s.data.toList[j]? = some (s.get! j) := by
  have h2 : j < s.data.size := h
  rw [Array.getElem?_toList, Array.getElem?_eq_getElem h2]
  exact congrArg some (getElem!_pos s.data j h2).symm
theorem needQ_iff (s : ByteArray) : needQ s.data.toList = true ↔ ∃ j, oddN s j := by
  unfold needQ oddN
  rw [List.any_eq_true]
  constructor
  · rintro ⟨b, hb, h⟩
    obtain ⟨j, hj⟩ := List.getElem?_of_mem hb
    have hlt : j < s.size := by have := (List.getElem?_eq_some_iff.1 hj).1; simpa using this
    rw [get_list s j hlt] at hj
    obtain rfl := Option.some.inj hj
    refine ⟨j, hlt, ?_⟩
    simp only [Bool.or_eq_true, decide_eq_true_eq, beq_iff_eq, UInt8.lt_iff_toNat_lt, ← UInt8.toNat_inj] at h
    exact h
  · rintro ⟨j, hlt, h⟩
    refine ⟨s.get! j, List.mem_of_getElem? (get_list s j hlt), ?_⟩
    simp only [Bool.or_eq_true, decide_eq_true_eq, beq_iff_eq, UInt8.lt_iff_toNat_lt, ← UInt8.toNat_inj]
    exact h
theorem rune_facts (s : ByteArray) (p : Nat) (hp : p < s.size) : 1 ≤ (Utf8.decode s p).2 ∧ (oddI ((Utf8.decode s p).1 : Int) = true → oddN s p) ∧ (oddI ((Utf8.decode s p).1 : Int) = false → ∀ j, p ≤ j → j < p + (Utf8.decode s p).2 → ¬ oddN s j) := by
  have hg : s.get! p = s[p]'hp := by have := get_at s p hp; simpa using this
  by_cases ha : (s[p]'hp).toNat < 128
  · rw [decode_ascii s p hp ha]
    refine ⟨Nat.le_refl _, fun h => ⟨hp, ?_⟩, fun h j h1 h2 => ?_⟩
    · rw [hg]
      simp only [oddI, Bool.or_eq_true, decide_eq_true_eq] at h
      omega
    · obtain rfl : j = p := by simp only at h2; omega
      rintro ⟨_, h3⟩
      rw [hg] at h3
      simp only [oddI, Bool.or_eq_false_iff, decide_eq_false_iff_not] at h
      omega
  · have h1 := decode_high s p hp (by omega)
    refine ⟨h1.2, fun h => ?_, fun h j h2 h3 => ?_⟩
    · simp only [oddI, Bool.or_eq_true, decide_eq_true_eq] at h
      omega
    · have h4 := decode_bytes s p (by rw [hg]; omega) (j - p) (by omega)
      rw [show p + (j - p) = j by omega] at h4
      rintro ⟨_, h5⟩
      omega
theorem index_func_spec (s : ByteArray) (hs : s.size ≤ 1000000) : Triple (BB Ip GOk) 102 0 0 [.str s, .fn (.func 46) [] [], .tt] [] (fun K => ∀ r : Int, (0 ≤ r ↔ needQ s.data.toList = true) → K (.ret (.int .i64 r)) []) := by
  refine triple_of BB_ok (tb := ty) rfl (n0 := 0) (fun _ : Unit => _) pl102 Tryz.call102 Tryz.func102 rfl (by kernel_rfl) (Nat.le_of_ble_eq_true rfl) (by decide) rfl pre_none ?_
  rintro G hG K hK W bi bc bs bk bu bb bo bg bl bp bn be Ncond Nob Nop Nloop Nscope hN Nfin hf _ _
  cbv
  refine op_ hN (range_str ty_ok rfl rfl rfl ?_)
  cbv
  refine loopN_ hN (loop_ hN ty_ok mixed (ι := Nat) (fun y => ⟨[(1, .fn (.func 46) [] []), (2, .tt), (10, .ptr 0 0)], [.obj 0 (.stringIter s y)], 1⟩)
    (fun y => ∀ j, j < y → ¬ oddN s j) (fun y => s.size - y) ?_ ?_)
  · exact Leads.idx 0 [0] (fun j h => absurd h (Nat.not_lt_zero j)) ⟨⟨rfl, rfl, rfl, trivial⟩, rfl, Nat.le_of_ble_eq_true rfl⟩
  rintro pos hinv Nnext hn _
  cbv
  refine op_ hN (next_str ty_ok rfl (fun hlt => ?_) (fun hlt => ?_))
  · obtain ⟨hw, ho1, ho2⟩ := rune_facts s pos hlt
    generalize (Utf8.decode s pos).2 = wd at hw ho1 ho2 ⊢
    generalize (Utf8.decode s pos).1 = r at ho1 ho2 ⊢
    obtain ⟨pos2, hpos2⟩ : ∃ x, x = pos + wd := ⟨_, rfl⟩
    rw [← hpos2]
    obtain ⟨ri, hri⟩ : ∃ x : Int, x = (r : Int) := ⟨_, rfl⟩
    rw [← hri] at ho1 ho2
    simp only [← hri]
    cbv
    refine op_ hN (call_ (cell1_spec ri) hG [] rfl rfl rfl rfl rfl ?_)
    intro b hb
    cases b with
    | true =>
      have hq : needQ s.data.toList = true := (needQ_iff s).2 ⟨pos, ho1 hb.symm⟩
      cbv
      refine cond_T hN rfl ?_
      cbv
      exact hf _ _ (fin_ [] rfl rfl (hK (Int.ofNat pos) (by rw [hq]; simp)))
    | false =>
      have hno := ho2 hb.symm
      cbv
      refine cond_F hN rfl ?_
      cbv
      exact hn _ (Leads.nxt pos2 [0] (fun j hj hodd => by
        rcases Nat.lt_or_ge j pos with h | h
        · exact hinv j h hodd
        · exact hno j h (by omega) hodd) (by omega) ⟨⟨rfl, rfl, rfl, trivial⟩, rfl, Nat.le_of_ble_eq_true rfl⟩)
  · have hq : needQ s.data.toList = false := by
      rw [← Bool.not_eq_true, needQ_iff]
      rintro ⟨j, hj⟩
      exact hinv j (by have := hj.1; omega) hj
    cbv
    exact hf _ _ (fin_ [] rfl rfl (hK (-1) (by rw [hq]; simp)))


theorem contains_func_spec (s : ByteArray) (hs : s.size ≤ 1000000) : Triple (BB Ip GOk) 47 0 0 [.str s, .fn (.func 46) [] []] [] (fun K => ∀ b, b = needQ s.data.toList → K (.ret (.bool b)) []) := by
  refine triple_of BB_ok (tb := ty) rfl (n0 := 0) (fun _ : Unit => _) pl47 Tryz.call47 Tryz.func47 rfl (by kernel_rfl) (Nat.le_of_ble_eq_true rfl) (by decide) rfl pre_none ?_
  rintro G hG K hK W bi bc bs bk bu bb bo bg bl bp bn be Ncond Nob Nop Nloop Nscope hN Nfin hf _ _
  cbv
  refine op_ hN (inline_ BB_ok (tb := ty) rfl pl78 Tryz.call78 Tryz.func78 rfl (by kernel_rfl) (Nat.le_of_ble_eq_true rfl) ?_)
  intro W2 bi2 bc2 bs2 bk2 bu2 bb2 bo2 bg2 bl2 bp2 bn2 be2 Ncond2 Nob2 Nop2 Nloop2 Nscope2 hN2
  cbv
  refine op_ hN2 (call_ (index_func_spec s hs) hG [] rfl rfl rfl rfl rfl ?_)
  intro r hr
  obtain ⟨b, hb⟩ : ∃ b, bc .geq r 0 = b := ⟨_, rfl⟩
  cbv
  simp only [hb]
  exact hf _ _ (fin_ [] rfl rfl (hK b (by
    rw [← hb, cge hN]
    cases hq : needQ s.data.toList with
    | true => have := hr.2 hq; simpa using this
    | false => rw [hq] at hr; simpa using hr)))
theorem cell_spec (hT : GTab GOk) (s : ByteArray) (hs : s.size ≤ 100000) : Triple (BB Ip GOk) 26 0 0 [.str s] [] (fun K => ∀ r : ByteArray, r.data.toList = cellP s.data.toList → K (.ret (.str r)) []) := by
  refine triple_of BB_ok (tb := ty) rfl (n0 := 0) (fun _ : Unit => _) pl26 Tryz.call26 Tryz.func26 rfl (by kernel_rfl) (Nat.le_of_ble_eq_true rfl) (by decide) rfl pre_none ?_
  rintro G hG K hK W bi bc bs bk bu bb bo bg bl bp bn be Ncond Nob Nop Nloop Nscope hN Nfin hf _ _
  have hmx : IntKind.i64.max = 9223372036854775807 := by rfl
  unfold cellP at hK
  cbv
  refine op_ hN (call_ (contains_func_spec s (by omega)) hG [] rfl rfl rfl rfl rfl ?_)
  intro b hb
  rw [← hb] at hK
  cases b with
  | false =>
    rw [if_neg (by simp)] at hK
    cbv
    refine cond_T hN rfl ?_
    cbv
    exact hf _ _ (fin_ [] rfl rfl (hK s rfl))
  | true =>
    rw [if_pos rfl] at hK
    cbv
    refine cond_F hN rfl ?_
    cbv
    refine op_ hN (call_ (replace_all_spec hT s (by omega)) hG [] rfl rfl rfl rfl rfl ?_)
    intro r hr
    have hrs : r.size ≤ 200000 := by
      have h1 := dbl_len s.data.toList
      rw [← hr] at h1
      have h2 : r.data.toList.length = r.size := by simp
      have h3 : s.data.toList.length = s.size := by simp
      omega
    obtain ⟨x1, hx1⟩ : ∃ x, bk ⟨#[34]⟩ r = x := ⟨_, rfl⟩
    obtain ⟨x2, hx2⟩ : ∃ x, bk x1 ⟨#[34]⟩ = x := ⟨_, rfl⟩
    have e1 : x1 = ⟨#[34]⟩ ++ r := by rw [← hx1, bk_ hN]
    have e2 : x2 = x1 ++ ⟨#[34]⟩ := by rw [← hx2, bk_ hN]
    have s1 : x1.size = r.size + 1 := by rw [e1, ByteArray.size_append]; have : (⟨#[34]⟩ : ByteArray).size = 1 := rfl; omega
    have hl : x2.data.toList = 34 :: (dbl s.data.toList ++ [34]) := by
      rw [e2, e1, ← hr]
      simp
    cbv
    refine ob_ hN ⟨?_, trivial⟩ ?_
    · show (((⟨#[34]⟩ : ByteArray).size + r.size : Nat) : Int) ≤ _
      have : (⟨#[34]⟩ : ByteArray).size = 1 := rfl
      rw [hmx]; omega
    simp only [hx1]
    refine ob_ hN ⟨?_, trivial⟩ ?_
    · show ((x1.size + (⟨#[34]⟩ : ByteArray).size : Nat) : Int) ≤ _
      have : (⟨#[34]⟩ : ByteArray).size = 1 := rfl
      rw [hmx]; omega
    cbv
    simp only [hx2]
    exact hf _ _ (fin_ [] rfl rfl (hK x2 hl))
end Hx
/- events.Check.Step, by what is known of the events that may be. -/
namespace Hx
open Go Sx Go.Proofs
set_option maxRecDepth 100000
set_option maxHeartbeats 4000000
set_option linter.unusedVariables false
set_option linter.unusedSimpArgs false
variable {GOk : Gl → Prop}
/-- which events are right -/
def RgtOk (GOk : Gl → Prop) (right : Ev → Bool) : Prop :=
  ∀ x, okE x → Triple (BB Ip GOk) 87 0 0 [.agg [.int .i64 x.kind, .str x.text, .str x.val]] [] (fun K => ∀ b, b = right x → K (.ret (.bool b)) [])
variable {right : Ev → Bool}
theorem step_spec' (hb : RgtOk GOk right) (c : Chk) (x : Ev) (hx : okE x) : Triple (BB Ip GOk) 62 1 1 [.ptr 0 0, .agg [.int .i64 x.kind, .str x.text, .str x.val]] [.abs (.chk c) [0]]
      (fun K => ∀ e c', (e, c') = chkStep right c x → K (.ret (.int .i64 e)) [.abs (.chk c') [0]]) := by
  cases h : c.opens with
  | nil => exact step_none right c x (hb x hx) h
  | cons o r => exact step_some right c x (hb x hx) o r h
end Hx
/- tree.walk, Walk, May: the walks. -/
namespace Hx
open Go Sx Go.Proofs
set_option maxRecDepth 100000
set_option maxHeartbeats 4000000
set_option linter.unusedVariables false
set_option linter.unusedSimpArgs false
variable {GOk : Gl → Prop}
section
variable {G0 : Gl} {yv : Value} {σT : Type} {ok : σT → Ev → Prop} {go : σT → Ev → σT → Prop} {S : σT → HP} {D : σT → Ev → HP} {E : σT → Ev → Value → HP}
theorem walk1_spec (hY : YOk (BB Ip (fun G' => G' = G0)) G0 yv evV ok go S D E) (kind : Int) (text val : ByteArray) (p : Bool) (g off cap len : Nat) (kids : List Nd) (hlen : kids.length = len) (hO : OldN (fun G' => G' = G0) (.mk kind text val p g off cap kids)) (st0 : σT)
    (hok : ∀ a x b st, evs (.mk kind text val p g off cap kids) = a ++ x :: b → Reach go a st0 st → ok st x) :
    Triple (BB Ip (fun G' => G' = G0)) 85 1 1 [.raw yv, .ptr 0 0] ([.cells 0 24 [.int .i64 kind, .str text, .str val, .gsl p g off 4 len cap]] ++ [.own 0 (S st0)])
      (IterPost ok (fun st => Reach go (evs (.mk kind text val p g off cap kids)) st0 st) [.cells 0 24 [.int .i64 kind, .str text, .str val, .gsl p g off 4 len cap]] S D E) := by
  have hsv : Nd.sv (.mk kind text val p g off cap kids) = .agg [.int .i64 kind, .str text, .str val, .gsl p g off 4 len cap] := by simp [Nd.sv, Nd.row, Nd.sl, Nd.kind, Nd.text, Nd.val, Nd.p, Nd.g, Nd.off, Nd.kids, Nd.cap, hlen]
  have hT := goes_all hY _ _ (Nat.le_refl _) hO st0 hok
  rw [hsv] at hT
  refine triple_iter BB_ok (tb := ty) rfl (n0 := 1) (fun _ : Unit => _) pl85 Tryz.call85 Tryz.func85 rfl (by kernel_rfl) (Nat.le_of_ble_eq_true rfl) (by decide) rfl pre_none ?_
  rintro G hG K hK W bi bc bs bk bu bb bo bg bl bp bn be Ncond Nob Nop Nloop Nscope hN Nfin hf _ _
  obtain ⟨hK1, hK2, hK3⟩ := hK
  cbv
  refine op_ hN (call_ hT hG [] rfl rfl rfl rfl rfl ⟨fun st hr => ?_, fun st x hx => ?_, fun st x v hx => ?_⟩)
  · cbv
    exact hf _ _ (fin_ [] rfl rfl (hK1 st hr))
  · cbv
    exact hf _ _ (fin_ [] rfl rfl (hK2 st x hx))
  · cbv
    exact hf _ _ (fin_ [] rfl rfl (hK3 st x v hx))
 end
section
variable {right : Ev → Bool}
def wkGo (right : Ev → Bool) (st : Chk × List Ev) (x : Ev) (st' : Chk × List Ev) : Prop := chkStep right st.1 x = (0, st'.1) ∧ st'.2 = st.2 ++ [x]
theorem wk_reach : ∀ {a : List Ev} {st st' : Chk × List Ev}, Reach (wkGo right) a st st' → stepsC right st.1 a = some st'.1 ∧ st'.2 = st.2 ++ a
  | [], st, st', h => by simp only [Reach] at h; subst h; simp [stepsC]
  | x :: a, st, st', ⟨c, h1, h2⟩ => by
    obtain ⟨h3, h4⟩ := wk_reach h2
    obtain ⟨h5, h6⟩ := h1
    refine ⟨?_, by rw [h4, h6]; simp⟩
    simp only [stepsC, h5, if_true]
    exact h3
theorem stepsE_at {l : List Ev} : ∀ {a : List Ev} {c c' : Chk}, stepsC right c a = some c' → stepsE right c (a ++ l) = stepsE right c' l
  | [], c, c', h => by simp only [stepsC, Option.some.injEq] at h; subst h; rfl
  | x :: a, c, c', h => by
    simp only [stepsC] at h
    split at h
    · rename_i h0
      simp only [List.cons_append, stepsE, if_pos h0]
      exact stepsE_at h
    · cases h
def wkOk (right : Ev → Bool) (l : List Ev) (st : Chk × List Ev) (x : Ev) : Prop := ∃ a b, l = a ++ x :: b ∧ Reach (wkGo right) a (chk0, []) st
theorem wk_bad {l : List Ev} {st : Chk × List Ev} {x : Ev} (h : wkOk right l st x) (he : (chkStep right st.1 x).1 ≠ 0) : (stepsE right chk0 l).1 = (chkStep right st.1 x).1 := by
  obtain ⟨a, b, rfl, hr⟩ := h
  rw [stepsE_at (wk_reach hr).1]
  simp only [stepsE, if_neg he]
theorem wk_fin {l : List Ev} {st : Chk × List Ev} (hr : Reach (wkGo right) l (chk0, []) st) : stepsE right chk0 l = (0, st.1) ∧ st.2 = l := by
  obtain ⟨h1, h2⟩ := wk_reach hr
  have := stepsE_at (l := []) h1
  rw [List.append_nil] at this
  exact ⟨this, by simpa using h2⟩
/-- what the rounds of Walk keep -/
def wkCs (st : Chk × List Ev) : List (Chunk Pd) := [.cells 1 31 [.nilslice], .cells 2 28 [.int .i64 0], .cells 4 104 [.ptr 3 0], .abs (.chk st.1) [3], .abs (.evl st.2) [5]]
theorem walk_spec (hb : RgtOk GOk right) (kind : Int) (text val : ByteArray) (p : Bool) (g off cap len : Nat) (kids : List Nd) (hlen : kids.length = len) (hO : OldN GOk (.mk kind text val p g off cap kids)) (hle : (evs (.mk kind text val p g off cap kids)).length ≤ 1000000) (hoke : ∀ x ∈ evs (.mk kind text val p g off cap kids), okE x) :
    Triple (BB Ip GOk) 34 0 0 [.agg [.int .i64 kind, .str text, .str val, .gsl p g off 4 len cap]] [] (fun K => ∀ e, e = walkM right (.mk kind text val p g off cap kids) → ∀ v, K (.ret (.tuple [.raw v, .int .i64 e])) []) := by
  refine triple_range BB_ok (tb := ty) rfl (rs := [_, _, _]) (rs2 := [_]) (n0 := 0) (fun _ : Unit => _) pl34 Tryz.call34 Tryz.func34 rfl (by kernel_rfl) (by kernel_rfl) rfl rfl rfl pre_none ?_
  rintro G hG K hK W bi bc bs bk bu bb bo bg bl bp bn be Ncond Nob Nop Nloop Nscope hN Nr hR _
  unfold walkM at hK
  have hO1 : OldN (fun G' => G' = G) (.mk kind text val p g off cap kids) := fun G' hG' => hO G' (by rw [hG']; exact hG)
  have hev := fun (yv : Value) (S : Chk × List Ev → HP) (D : Chk × List Ev → Ev → HP) (E : Chk × List Ev → Ev → Value → HP) (hY : YOk (BB Ip GOk) G yv evV (wkOk right (evs (.mk kind text val p g off cap kids))) (wkGo right) S D E) =>
    walk1_spec (G0 := G) hY.only kind text val p g off cap len kids hlen hO1 (chk0, []) (fun a x b st h1 h2 => ⟨a, b, h1, h2⟩)
  generalize evs (.mk kind text val p g off cap kids) = l at hK hle hoke hev
  cbv
  refine op_ hN (call_ (ev_new_spec) hG [] rfl rfl rfl rfl rfl ?_)
  cbv
  refine op_ hN (op_noArr true 6 7 56 encE [] rfl rfl (op_cput 5 [.vec false 6 3 0 0 0] rfl (fun _ => rfl) (op_close rfl (.evl []) [5] [6] _ ⟨false, 0, 0, 0, [], ⟨fun _ => rfl, Nat.le_refl _, Nat.le_refl _, rfl⟩, Nat.zero_le _, rfl⟩ rfl rfl ?_)))
  refine inline_ BB_ok (tb := ty) rfl pl61 Tryz.call61 Tryz.func61 rfl (by kernel_rfl) (Nat.le_of_ble_eq_true rfl) ?_
  intro W2 bi2 bc2 bs2 bk2 bu2 bb2 bo2 bg2 bl2 bp2 bn2 be2 Ncond2 Nob2 Nop2 Nloop2 Nscope2 hN2
  cbv
  refine hR _ (range_at (B := BB Ip GOk) BB_ok Tryz.func34 (tb := ty) rfl rfl wkCs 8
    (fun x : Ev => [.agg [.int .i64 x.kind, .str x.text, .str x.val]]) evV (wkOk right l) (wkGo right)
    (fun e st x cs => e = .ret ∧ (chkStep right st.1 x).1 ≠ 0 ∧ cs = [.cells 1 31 [.nilslice], .cells 2 28 [.int .i64 (chkStep right st.1 x).1]]) (fun _ _ _ _ => False) (fun st => Reach (wkGo right) l (chk0, []) st) (chk0, []) [7]
    (fun yv S D E hY => hev yv S D E hY)
    rfl rfl (fun ρ x => rfl) (fun x => rfl) rfl rfl (fun yv => rfl) rfl rfl rfl (by kernel_rfl) (by kernel_rfl) (by kernel_rfl) ?_ ?_ ?_ ?_ (fun _ _ _ _ _ h => h.elim))
  · rintro lp ⟨c, o⟩ ⟨xk, xt, xv⟩ hx W2 bi2 bc2 bs2 bk2 bu2 bb2 bo2 bg2 bl2 bp2 bn2 be2 Ncond2 Nob2 Nop2 Nloop2 Nscope2 hN2 Nend hE -
    have hx2 := hx
    obtain ⟨a, b, hab, hra⟩ := hx2
    have hoa : o = a := by have := (wk_reach hra).2; simpa using this
    have hle2 : o.length + 1 ≤ 1000000 := by rw [hab] at hle; simp at hle; rw [hoa]; omega
    have hokx : okE ⟨xk, xt, xv⟩ := hoke _ (by rw [hab]; simp)
    clear hab hra hoa hx
    cbv
    refine op_ hN2 (call_ (step_spec' hb c ⟨xk, xt, xv⟩ hokx) hG [3] rfl rfl rfl rfl rfl ?_)
    intro e c' he
    have hchk : chkStep right c ⟨xk, xt, xv⟩ = (e, c') := he.symm
    have hE1 : ∀ cs, Fin (BB Ip GOk) G (fun _ cs' => ∃ st', wkGo right (c, o) ⟨xk, xt, xv⟩ st' ∧ cs' = wkCs st') 8 (.ret (.tuple [])) cs → Nend .normal cs := fun cs h => hE .normal cs h
    have hE2 : ∀ cs, Fin (BB Ip GOk) G (fun _ cs' => SX.ret = .ret ∧ (chkStep right c ⟨xk, xt, xv⟩).1 ≠ 0 ∧ cs' = [.cells 1 31 [.nilslice], .cells 2 28 [.int .i64 (chkStep right c ⟨xk, xt, xv⟩).1]]) 8 (.ret (.tuple [])) cs → Nend .ret cs := fun cs h => hE .ret cs h
    clear hE
    rw [hchk] at hE2
    clear he
    cbv
    refine cond_ hN2 (fun h => ?_) (fun h => ?_)
    · rw [cne hN2] at h
      have h' : e ≠ 0 := by simpa using h
      cbv
      exact hE2 _ (fin_ [] (out' := .ret (.tuple [])) rfl rfl ⟨rfl, h', rfl⟩)
    · rw [cne hN2] at h
      have h' : e = 0 := by simpa using h
      cbv
      refine op_ hN2 (op_open rfl 5 1 rfl rfl rfl rfl ?_)
      rintro _ ⟨p1, lo1, len1, cap1, xs1, hv1, hl1, rfl⟩
      have hvl := hv1.length
      refine load_ ty_ok rfl ?_
      cbv
      refine op_ hN2 (append_vec (new := [(⟨xk, xt, xv⟩ : Ev)]) (z := ⟨0, ⟨#[]⟩, ⟨#[]⟩⟩) ty_ok rfl rfl rfl rfl (fun k => by simp) rfl rfl wideE rfl rfl (src_cells wideE rfl (fun _ _ _ _ => rfl) rfl) hv1.pr hv1.room hv1.fits (by simp; omega) (by decide) ?_)
      intro p2 lo2 len2 cap2 xs2 hm2 e1 e2 e3 e4
      cbv
      exact hE1 _ (fin_close rfl (.evl (o ++ [⟨xk, xt, xv⟩])) [5] [11] _ ⟨p2, lo2, len2, cap2, xs2, ⟨e1, e2, e3, by rw [e4, hv1.eq]⟩, by simp; omega, rfl⟩ rfl (fin_ [] (out' := .ret (.tuple [])) rfl rfl ⟨(c', o ++ [⟨xk, xt, xv⟩]), ⟨by rw [hchk, h'], rfl⟩, rfl⟩))
  · intro cs hcs D W2 bi2 bc2 bs2 bk2 bu2 bb2 bo2 bg2 bl2 bp2 bn2 be2 Ncond2 Nob2 Nop2 Nloop2 Nscope2 hN2 Nfin2 hf2 _
    rcases hcs with ⟨⟨c, o⟩, hfin, rfl⟩ | ⟨_, _, _, h, _⟩
    · obtain ⟨h1, h2⟩ := wk_fin hfin
      rw [h1] at hK
      simp only [not_true_eq_false, ne_eq, if_false] at hK
      clear hfin h1 h2
      cbv
      refine op_ hN2 (call_ (done_spec c) hG [3] rfl rfl rfl rfl rfl ?_)
      intro b hbd
      have hbd : chkDone c = b := hbd.symm
      rw [hbd] at hK
      cases b with
      | true =>
        rw [if_pos rfl] at hK
        cbv
        refine cond_F hN2 rfl ?_
        cbv
        refine op_ hN2 (op_open rfl 5 1 rfl rfl rfl rfl ?_)
        rintro _ ⟨p1, lo1, len1, cap1, xs1, hv1, hl1, rfl⟩
        refine load_ ty_ok rfl ?_
        cbv
        exact hf2 _ _ (fin_forget (fun x => .ret (.tuple [x, .int .i64 0])) _ (fun ρ e h => by cases e <;> exact h) fun u => fin_ [] rfl rfl (hK 0 rfl u))
      | false =>
        rw [if_neg (by simp)] at hK
        cbv
        refine cond_T hN2 rfl ?_
        cbv
        exact hf2 _ _ (fin_forget (fun x => .ret (.tuple [x, .int .i64 19])) _ (fun ρ e h => by cases e <;> exact h) fun u => fin_ [] rfl rfl (hK 19 rfl u))
    · exact nomatch h
  · rintro ⟨c, o⟩ x cs hx ⟨_, he, rfl⟩
    have hbad := wk_bad hx he
    rw [hbad, if_pos he] at hK
    generalize (chkStep right c x).1 = e at hK he ⊢
    cbv
    exact fin_forget (fun x => .ret (.tuple [x, .int .i64 e])) _ (fun ρ e h => by cases e <;> exact h) fun u => fin_ [] rfl rfl (hK e rfl u)
  · rintro st x cs j _ ⟨h, _⟩
    exact nomatch h
theorem tmay_spec (hb : RgtOk GOk right) (kind : Int) (text val : ByteArray) (p : Bool) (g off cap len : Nat) (kids : List Nd) (hlen : kids.length = len) (hO : OldN GOk (.mk kind text val p g off cap kids)) (hle : (evs (.mk kind text val p g off cap kids)).length ≤ 1000000) (hoke : ∀ x ∈ evs (.mk kind text val p g off cap kids), okE x) :
    Triple (BB Ip GOk) 19 0 0 [.agg [.int .i64 kind, .str text, .str val, .gsl p g off 4 len cap]] [] (fun K => ∀ e, e = walkM right (.mk kind text val p g off cap kids) → K (.ret (.int .i64 e)) []) := by
  refine triple_of BB_ok (tb := ty) rfl (n0 := 0) (fun _ : Unit => _) pl19 Tryz.call19 Tryz.func19 rfl (by kernel_rfl) (Nat.le_of_ble_eq_true rfl) (by decide) rfl pre_none ?_
  rintro G hG K hK W bi bc bs bk bu bb bo bg bl bp bn be Ncond Nob Nop Nloop Nscope hN Nfin hf _ _
  cbv
  refine op_ hN (call_ (walk_spec hb kind text val p g off cap len kids hlen hO hle hoke) hG [] rfl rfl rfl rfl rfl ?_)
  intro e he v
  cbv
  exact hf _ _ (fin_ [] rfl rfl (hK e he))
 end
end Hx
/- inkdelim.line, Print: the walks. -/
namespace Hx
open Go Sx Go.Proofs
set_option maxRecDepth 100000
set_option maxHeartbeats 4000000
set_option linter.unusedVariables false
set_option linter.unusedSimpArgs false
variable {GOk : Gl → Prop}
theorem shape_law (n : Nd) (hw : walkM rightM n = 0) (hl : lookM n = true) : ∀ k ∈ n.kids, (k.kids ≠ [] ∧ k.kids.length ≤ 8) ∧ ∀ f ∈ k.kids, f.text.size ≤ 48 ∧ (cellOf f).length ≤ 48 ∧ f.kids.length = 1 := by
  unfold walkM at hw
  by_cases h1 : (stepsE rightM chk0 (evs n)).1 = 0
  rotate_left
  · rw [if_pos h1] at hw; exact absurd hw h1
  have hs := stepsE_ok h1
  simp only [lookM, Bool.and_eq_true, List.all_eq_true] at hl
  obtain ⟨hk, hrows⟩ := hl
  have hk := of_decide_eq_true hk
  generalize (stepsE rightM chk0 (evs n)).2 = c' at hs
  generalize hh : headOf n = h at hrows
  obtain ⟨kd, t, v, p, g, of_, cp, kids⟩ := n
  have hk : kd = 5 := hk
  have hrows : ∀ k ∈ kids, rowLook h k = true := hrows
  subst hk
  have hev : evs (.mk 5 t v p g of_ cp kids) = ⟨5, t, v⟩ :: (evsL kids ++ [ev0 6]) := by
    rw [evs, if_neg (by simp [oddK, leafK, endK])]; rfl
  rw [hev] at hs
  have hrt := stepsC_right hs ⟨5, t, v⟩ (by simp)
  simp only [stepsC] at hs
  by_cases hx : (chkStep rightM chk0 ⟨5, t, v⟩).1 = 0
  rotate_left
  · rw [if_neg hx] at hs; exact nomatch hs
  rw [if_pos hx, stepsC_append] at hs
  have hc : (chkStep rightM chk0 ⟨5, t, v⟩).2.opens = [⟨5, false, false, false, []⟩] := by
    unfold chkStep
    rw [if_neg (by rw [hrt]; simp), if_neg (show ¬ k1234 5 = true by decide), if_pos (show k57a 5 = true from rfl), if_neg (by simp [chkValue, chk0]), if_neg (by simp [chk0])]
    rfl
  cases h3 : stepsC rightM (chkStep rightM chk0 ⟨5, t, v⟩).2 (evsL kids) with
  | none => rw [h3] at hs; exact nomatch hs
  | some c3 =>
    obtain ⟨_, hE, hR⟩ := rows_law h kids _ c3 _ [] hc rfl hrows h3
    intro k hk
    have hk : k ∈ kids := hk
    have := hrows k hk
    simp only [rowLook, Bool.and_eq_true] at this
    have h2 := of_decide_eq_true this.2.1
    refine ⟨h2, fun f hf => ?_⟩
    obtain ⟨a1, a2, a3⟩ := (hR k hk).2 f hf
    refine ⟨?_, a2.1, a3⟩
    have := a1.1
    rw [Array.length_toList] at this
    exact this
/-- inkdelim.line over the kids of a node, by what is told of each -/
theorem line_spec' (hT : GTab GOk) (fcb : Nat) (ft : Nd → ByteArray) (kind : Int) (text val : ByteArray) (p : Bool) (g off cap len : Nat) (kids : List Nd) (hlen : kids.length = len) (hO : OldN GOk (.mk kind text val p g off cap kids)) (hsm : len ≤ 1000) (h48 : ∀ k ∈ kids, (ft k).size ≤ 48)
    (hcb : ∀ k ∈ kids, Triple (BB Ip GOk) fcb 0 0 [k.sv] [] (fun K => ∀ t, t = ft k → K (.ret (.str t)) [])) :
    Triple (BB Ip GOk) 12 0 0 [.gsl p g off 4 len cap, .fn (.func fcb) [] []] [] (fun K => ∀ r : ByteArray, r.data.toList = lineP (kids.map fun k => (ft k).data.toList) → K (.ret (.str r)) []) := by
  have hmx : IntKind.i64.max = 9223372036854775807 := by rfl
  refine triple_of BB_ok (tb := ty) rfl (n0 := 0) (fun _ : Unit => _) pl12 Tryz.call12 Tryz.func12 rfl (by kernel_rfl) (Nat.le_of_ble_eq_true rfl) (by decide) rfl pre_none ?_
  rintro G hG K hK W bi bc bs bk bu bb bo bg bl bp bn be Ncond Nob Nop Nloop Nscope hN Nfin hf _ _
  cbv
  refine loopN_ hN (loop_ hN ty_ok mixed (ι := Nat × Bool × Nat × Nat × Nat × List ByteArray × List ByteArray) (fun y => ⟨[(1, .fn (.func fcb) [] []), (5, .vec y.2.1 0 1 y.2.2.1 y.2.2.2.1 y.2.2.2.2.1), (8, .gsl p g off 4 len cap), (9, .int .i64 (Int.ofNat len)), (10, .int .i64 (Int.ofNat y.1))], [.arr y.2.1 true 0 9 encS y.2.2.2.2.2.1], 1⟩)
    (fun y => y.1 ≤ len ∧ VecOk y.2.1 y.2.2.1 y.2.2.2.1 y.2.2.2.2.1 y.2.2.2.2.2.1 y.2.2.2.2.2.2 ∧ y.2.2.2.2.2.2.map (·.data.toList) = (kids.take y.1).map (fun k => cellP (ft k).data.toList)) (fun y => len - y.1) ?_ ?_)
  · refine leads_noArr true 0 1 9 encS [] rfl ?_
    refine leads_eset 5 .nilslice (.vec false 0 1 0 0 0) rfl (fun _ => rfl) ?_
    exact Leads.idx (0, false, 0, 0, 0, [], []) [0] ⟨Nat.zero_le _, ⟨fun _ => rfl, Nat.le_refl _, Nat.le_refl _, rfl⟩, rfl⟩ ⟨⟨rfl, rfl, rfl, rfl, rfl, trivial⟩, rfl, Nat.le_of_ble_eq_true rfl⟩
  rintro ⟨i, q, lo, n, c, ys, l⟩ ⟨hi, hv, hmap⟩ Nnext hn _
  simp only at hi hv hmap
  cbv
  refine cond_ hN (fun h => ?_) (fun h => ?_)
  · rw [clt hN] at h
    simp only [decide_eq_true_eq, decide_eq_false_iff_not, Int.ofNat_eq_natCast, gt_iff_lt, ge_iff_le, Bool.not_eq_true', Bool.not_eq_false', Int.not_lt, Int.not_le] at h
    have hilt : i < len := by have : (i : Int) < (len : Int) := h; omega
    have hpt : p = true := by
      have := hO.p hG (i := i) (by simp only [Nd.kids]; omega)
      exact this
    obtain ⟨k, hk⟩ : ∃ k, kids[i]? = some k := ⟨kids[i]'(by omega), List.getElem?_eq_getElem (by omega)⟩
    have hkm := List.mem_of_getElem? hk
    have htake : (kids.take (i + 1)).map (fun k => cellP (ft k).data.toList) = (kids.take i).map (fun k => cellP (ft k).data.toList) ++ [cellP (ft k).data.toList] := by rw [List.take_add_one, hk]; simp
    have hp0 : bp 0 (Int.ofNat i) = i := plus0 hN i
    have hnx : bi .add .i64 (Int.ofNat i) 1 = Int.ofNat (i + 1) := inext hN (by omega)
    have hvl := hv.length
    have hnl : l.length = i := by have := congrArg List.length hmap; simp only [List.length_map, List.length_take] at this; omega
    have h48k := h48 k hkm
    have hcbk := hcb k hkm
    rw [← hmap] at htake
    generalize ft k = tx at h48k hcbk htake
    obtain ⟨kk, kt, kv, kp, kg, ko, kc, kks⟩ := k
    obtain ⟨klen, hkl⟩ : ∃ x, kks.length = x := ⟨_, rfl⟩
    have hsv : Nd.sv (.mk kk kt kv kp kg ko kc kks) = .agg [.int .i64 kk, .str kt, .str kv, .gsl kp kg ko 4 klen kc] := by simp [Nd.sv, Nd.row, Nd.sl, Nd.kind, Nd.text, Nd.val, Nd.p, Nd.g, Nd.off, Nd.kids, Nd.cap, hkl]
    cbv
    refine ob_ hN ⟨⟨by simp, by simpa using hilt⟩, hpt, trivial⟩ ?_
    cbv
    simp only [hp0]
    refine op_ hN (load_kid ty_ok hG hO hk rfl rfl rfl rfl rfl ?_)
    rw [hsv] at hcbk ⊢
    cbv
    refine op_ hN (call_ hcbk hG [] rfl rfl rfl rfl rfl ?_)
    intro tx2 htx
    obtain rfl : tx = tx2 := htx.symm
    cbv
    refine op_ hN (call_ (cell_spec hT tx (by omega)) hG [] rfl rfl rfl rfl rfl ?_)
    intro ct hct
    cbv
    refine op_ hN (append_vec (new := [ct]) (z := ⟨#[]⟩) ty_ok rfl rfl rfl rfl (fun k => by simp) rfl rfl wideS rfl rfl (src_cells wideS rfl (fun _ _ _ _ => rfl) rfl) hv.pr hv.room hv.fits (by simp; omega) (by decide) ?_)
    intro p' lo' m' cap' xs' hm' e1 e2 e3 e4
    cbv
    simp only [hnx]
    exact hn _ (Leads.nxt (i + 1, p', lo', m', cap', xs', l ++ [ct]) [3] ⟨hilt, ⟨e1, e2, e3, by rw [e4, hv.eq]⟩, by rw [htake, List.map_append, ← hct]; rfl⟩ (by simp only; omega) ⟨⟨rfl, rfl, rfl, rfl, rfl, trivial⟩, rfl, Nat.le_of_ble_eq_true rfl⟩)
  · rw [clt hN] at h
    simp only [decide_eq_true_eq, decide_eq_false_iff_not, Int.ofNat_eq_natCast, gt_iff_lt, ge_iff_le, Bool.not_eq_true', Bool.not_eq_false', Int.not_lt, Int.not_le] at h
    have hie : i = len := by have : (len : Int) ≤ (i : Int) := h; omega
    rw [List.take_of_length_le (by omega)] at hmap
    have hnl : l.length = len := by have := congrArg List.length hmap; simp only [List.length_map] at this; omega
    have hjl := joinC_len (l.map (·.data.toList)) (by
      rw [hmap]
      intro s hs
      obtain ⟨k, hk, rfl⟩ := List.mem_map.1 hs
      exact cellP_len (by have := h48 k hk; rw [Array.length_toList]; exact this))
    rw [List.length_map, hnl] at hjl
    cbv
    refine op_ hN (call_ (join_spec' q lo n c ys l hv (by omega) (by omega)) hG [0] rfl rfl rfl rfl rfl ?_)
    intro r hr
    have hrs : r.size ≤ 100000 := by
      have h2 : r.data.toList.length = r.size := by simp
      rw [hr] at h2; omega
    obtain ⟨x1, hx1⟩ : ∃ x, bk r ⟨#[10]⟩ = x := ⟨_, rfl⟩
    have hl : x1.data.toList = lineP (kids.map fun k => (ft k).data.toList) := by
      rw [← hx1, bk_ hN]
      simp only [lineP, List.map_map]
      rw [show (cellP ∘ fun k => (ft k).data.toList) = fun k => cellP (ft k).data.toList from rfl, ← hmap, ← hr]
      simp
    cbv
    refine ob_ hN ⟨?_, trivial⟩ ?_
    · show ((r.size + (⟨#[10]⟩ : ByteArray).size : Nat) : Int) ≤ _
      have : (⟨#[10]⟩ : ByteArray).size = 1 := rfl
      rw [hmx]; omega
    cbv
    simp only [hx1]
    exact hf _ _ (fin_ [] rfl rfl (hK x1 hl))
end Hx
