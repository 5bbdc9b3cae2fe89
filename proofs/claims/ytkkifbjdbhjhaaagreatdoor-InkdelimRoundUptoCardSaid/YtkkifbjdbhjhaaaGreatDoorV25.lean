/-
  Part of a proof.
-/
import Derived.Test.YtkkifbjdbhjhaaaGreatDoorV24
import Derived.Test.YtkkifbjdbhjhaaaGreatDoorV15
set_option linter.unusedVariables false
set_option linter.unusedSimpArgs false
/- ref06.End, goes, where all is taken: the walks. -/
namespace Hx
open Go Sx Go.Proofs
set_option maxRecDepth 100000
set_option maxHeartbeats 4000000
set_option linter.unusedVariables false
set_option linter.unusedSimpArgs false
variable {GOk : Gl → Prop}
theorem rend_spec (k : Int) : Triple (BB Ip GOk) 31 0 0 [.int .i64 k] [] (fun K => ∀ r, r = endK k → K (.ret (.int .i64 r)) []) := by
  refine triple_of BB_ok (tb := ty) rfl (n0 := 0) (fun _ : Unit => _) pl31 Tryz.call31 Tryz.func31 rfl (by kernel_rfl) (Nat.le_of_ble_eq_true rfl) (by decide) rfl pre_none ?_
  rintro G hG K hK W bi bc bs bk bu bb bo bg bl bp bn be Ncond Nob Nop Nloop Nscope hN Nfin hf _ _
  cbv
  refine cond_ hN ?_ ?_ <;> intro h1 <;> rw [ceq hN] at h1
  · have h1 : k = 5 := by simpa using h1
    cbv
    exact hf _ _ (fin_ [] rfl rfl (hK 6 (by rw [h1]; rfl)))
  have h1 : ¬ k = 5 := by simpa using h1
  cbv
  refine cond_ hN ?_ ?_ <;> intro h2 <;> rw [ceq hN] at h2
  · have h2 : k = 7 := by simpa using h2
    cbv
    exact hf _ _ (fin_ [] rfl rfl (hK 9 (by rw [h2]; rfl)))
  have h2 : ¬ k = 7 := by simpa using h2
  cbv
  refine cond_ hN ?_ ?_ <;> intro h3 <;> rw [ceq hN] at h3
  · have h3 : k = 10 := by simpa using h3
    cbv
    exact hf _ _ (fin_ [] rfl rfl (hK 12 (by rw [h3]; rfl)))
  have h3 : ¬ k = 10 := by simpa using h3
  cbv
  exact hf _ _ (fin_ [] rfl rfl (hK 0 (by unfold endK; rw [if_neg h1, if_neg h2, if_neg h3])))
theorem odd_cond {k : Int} {n : Nat} (h : (!(decide (endK k ≠ 0) || (leafK k && decide (n = 0)) || (decide (k = 8) && decide (n = 1)))) = false) : oddK k n = false := by
  simp only [Bool.not_eq_false', Bool.or_eq_true, Bool.and_eq_true, decide_eq_true_eq] at h
  unfold oddK
  rcases h with (h | h) | h
  · have hk : k = 5 ∨ k = 7 ∨ k = 10 := by
      unfold endK at h
      by_cases a : k = 5
      · exact .inl a
      by_cases b : k = 7
      · exact .inr (.inl b)
      by_cases c : k = 10
      · exact .inr (.inr c)
      rw [if_neg a, if_neg b, if_neg c] at h; exact absurd rfl h
    rcases hk with rfl | rfl | rfl <;> rfl
  · rw [if_pos h.1, h.2]; rfl
  · obtain ⟨rfl, rfl⟩ := h; rfl
/-- what a walk that is taken comes through -/
theorem refGoes_in {rr : Ev → Bool} {k : Int} {t v : ByteArray} {p : Bool} {g off cap : Nat} {kids : List Nd} {l l' : List Ev} (h : refGoes rr (.mk k t v p g off cap kids) l = (l', 0)) :
    (!(decide (endK k ≠ 0) || (leafK k && decide (kids.length = 0)) || (decide (k = 8) && decide (kids.length = 1)))) = false ∧ refStep rr l ⟨k, t, v⟩ = 0 ∧ ∃ l1, refGoesL rr kids (l ++ [⟨k, t, v⟩]) = (l1, 0) ∧ (endK k = 0 ∧ l' = l1 ∨ endK k ≠ 0 ∧ refStep rr l1 (ev0 (endK k)) = 0 ∧ l' = l1 ++ [ev0 (endK k)]) := by
  unfold refGoes at h
  split at h
  · simp at h
  rename_i h1
  split at h
  · rename_i h2
    simp only [Prod.mk.injEq] at h
    exact absurd h.2 h2
  rename_i h2
  simp only at h
  split at h
  · rename_i h3
    have := congrArg Prod.snd h
    exact absurd this h3
  rename_i h3
  refine ⟨by simpa using h1, by simpa using h2, (refGoesL rr kids (l ++ [⟨k, t, v⟩])).1, ?_, ?_⟩
  · have h3 : (refGoesL rr kids (l ++ [⟨k, t, v⟩])).2 = 0 := by simpa using h3
    exact Prod.ext rfl h3
  · split at h
    · rename_i h4
      exact .inl ⟨h4, (congrArg Prod.fst h).symm⟩
    · rename_i h4
      split at h
      · rename_i h5
        have := congrArg Prod.snd h
        exact absurd this h5
      · rename_i h5
        exact .inr ⟨h4, by simpa using h5, (congrArg Prod.fst h).symm⟩
theorem refGoesL_in {rr : Ev → Bool} {n : Nd} {r : List Nd} {l l' : List Ev} (h : refGoesL rr (n :: r) l = (l', 0)) : ∃ l1, refGoes rr n l = (l1, 0) ∧ refGoesL rr r l1 = (l', 0) := by
  unfold refGoesL at h
  simp only at h
  split at h
  · rename_i h1
    have := congrArg Prod.snd h
    exact absurd this h1
  · rename_i h1
    have h1 : (refGoes rr n l).2 = 0 := by simpa using h1
    exact ⟨_, Prod.ext rfl h1, h⟩
mutual
theorem refGoes_out {rr : Ev → Bool} : ∀ (n : Nd) (l l' : List Ev), refGoes rr n l = (l', 0) → l' = l ++ evs n
  | .mk k t v p g off cap kids, l, l', h => by
    obtain ⟨h1, h2, l1, h3, h4⟩ := refGoes_in h
    have h5 := refGoesL_out kids _ _ h3
    rw [evs, odd_cond h1, if_neg (by simp)]
    unfold endE
    rcases h4 with ⟨h4, rfl⟩ | ⟨h4, _, rfl⟩
    · rw [if_pos h4, h5]; simp
    · rw [if_neg h4, h5]; simp
theorem refGoesL_out {rr : Ev → Bool} : ∀ (ns : List Nd) (l l' : List Ev), refGoesL rr ns l = (l', 0) → l' = l ++ evsL ns
  | [], l, l', h => by
    simp only [refGoesL, Prod.mk.injEq, and_true] at h
    simp [evsL, h]
  | n :: r, l, l', h => by
    obtain ⟨l1, h1, h2⟩ := refGoesL_in h
    rw [evsL, refGoesL_out r _ _ h2, refGoes_out n _ _ h1, List.append_assoc]
 end
theorem evsL_mem : ∀ {kids : List Nd} {k : Nd} {x : Ev}, k ∈ kids → x ∈ evs k → x ∈ evsL kids
  | n :: r, k, x, hk, hx => by
    rw [evsL]
    rcases List.mem_cons.1 hk with rfl | hk
    · exact List.mem_append_left _ hx
    · exact List.mem_append_right _ (evsL_mem hk hx)
def RGoesAt (GOk : Gl → Prop) (n : Nd) : Prop :=
  OldN GOk n → (∀ x ∈ evs n, k49 x.kind) → ∀ l l', (∀ y ∈ l, k49 y.kind) → refGoes refRight n l = (l', 0) → l'.length ≤ 100000 → ∀ p lo len cap xs, VecOk p lo len cap xs l →
  Triple (BB Ip GOk) 17 1 2 [n.sv, .vec p 0 3 lo len cap] [.arr p true 0 56 encE xs] (fun K => ∀ q lo2 len2 cap2 ys, VecOk q lo2 len2 cap2 ys l' → K (.ret (.tuple [.vec q 1 3 lo2 len2 cap2, .int .i64 0])) [.arr q true 1 56 encE ys])
theorem rgoes_step (kind : Int) (text val : ByteArray) (p0 : Bool) (g off cap0 nlen : Nat) (kids : List Nd) (hnl : kids.length = nlen) (ih : ∀ k ∈ kids, RGoesAt GOk k) : RGoesAt GOk (.mk kind text val p0 g off cap0 kids) := by
  intro hO hke l l' hkl hgo hl' p lo len cap xs hv
  obtain ⟨h1, hst, l1, hkg, hend⟩ := refGoes_in hgo
  have hodd := odd_cond h1
  have hout := refGoesL_out kids _ _ hkg
  have hsv : Nd.sv (.mk kind text val p0 g off cap0 kids) = .agg [.int .i64 kind, .str text, .str val, .gsl p0 g off 4 nlen cap0] := by simp [Nd.sv, Nd.row, Nd.sl, Nd.kind, Nd.text, Nd.val, Nd.p, Nd.g, Nd.off, Nd.kids, Nd.cap, hnl]
  rw [hsv]
  rw [evs, hodd, if_neg (by simp)] at hke
  have hk0 : k49 kind := hke ⟨kind, text, val⟩ (by simp)
  have hkk : ∀ k ∈ kids, ∀ x ∈ evs k, k49 x.kind := fun k hk x hx => hke x (List.mem_cons_of_mem _ (List.mem_append_left _ (evsL_mem hk hx)))
  have hk4 : kind = 4 ∧ kids.length = 0 ∨ kind = 5 ∨ kind = 7 ∨ kind = 8 ∧ kids.length = 1 := by
    simp only [Bool.not_eq_false', Bool.or_eq_true, Bool.and_eq_true, decide_eq_true_eq] at h1
    rcases hk0 with rfl | rfl | rfl | rfl | rfl | rfl
    · rcases h1 with (h1 | h1) | h1
      · exact absurd rfl h1
      · exact .inl ⟨rfl, h1.2⟩
      · exact absurd h1.1 (by decide)
    · exact .inr (.inl rfl)
    · rcases h1 with (h1 | h1) | h1
      · exact absurd rfl h1
      · exact absurd h1.1 (by decide)
      · exact absurd h1.1 (by decide)
    · exact .inr (.inr (.inl rfl))
    · rcases h1 with (h1 | h1) | h1
      · exact absurd rfl h1
      · exact absurd h1.1 (by decide)
      · exact .inr (.inr (.inr ⟨rfl, h1.2⟩))
    · rcases h1 with (h1 | h1) | h1
      · exact absurd rfl h1
      · exact absurd h1.1 (by decide)
      · exact absurd h1.1 (by decide)
  rw [hnl] at hk4
  clear h1 hodd
  have hl1 : l1.length ≤ l'.length := by rcases hend with ⟨_, rfl⟩ | ⟨_, _, rfl⟩ <;> simp
  have hll : l.length + 1 + (evsL kids).length = l1.length := by rw [hout]; simp; omega
  have hlen := hv.length
  have hStep := step_r (GOk := GOk) p true lo len cap xs l hv (by omega) ⟨kind, text, val⟩ hk0 hkl hst
  simp only at hStep
  refine triple_of BB_ok (tb := ty) rfl (n0 := 1) (fun _ : Unit => _) pl17 Tryz.call17 Tryz.func17 rfl (by kernel_rfl) (Nat.le_of_ble_eq_true rfl) (by decide) rfl pre_none ?_
  rintro G hG K hK W bi bc bs bk bu bb bo bg bl bp bn be Ncond Nob Nop Nloop Nscope hN Nfin hf _ _
  have hlenb : nlen ≤ 9223372036854775807 := by have := hO.len hG; simp only [Nd.kids] at this; omega
  cbv
  refine op_ hN (call_ (rend_spec kind) hG [] rfl rfl rfl rfl rfl ?_)
  intro r hr
  cbv
  have hceq0 : nlen = 0 → bc .eql (Int.ofNat nlen) 0 = true := fun h => by rw [h, ceq hN]; rfl
  have hceq1 : nlen = 1 → bc .eql (Int.ofNat nlen) 1 = true := fun h => by rw [h, ceq hN]; rfl
  rcases hk4 with ⟨rfl, hz⟩ | rfl | rfl | ⟨rfl, hz⟩
  · obtain rfl : r = 0 := hr
    repeat' (first
      | (refine cond_T hN ?_ ?_; (focus (rw [ceq hN]; rfl)); cbv)
      | (refine cond_F hN ?_ ?_; (focus (rw [ceq hN]; rfl)); cbv)
      | (refine cond_T hN ?_ ?_; (focus (rw [cne hN]; rfl)); cbv)
      | (refine cond_F hN ?_ ?_; (focus (rw [cne hN]; rfl)); cbv)
      | (refine cond_T hN rfl ?_; cbv)
      | (refine cond_F hN rfl ?_; cbv)
      | (refine cond_T hN (hceq0 hz) ?_; cbv))
    refine op_ hN (call_ hStep hG [0] rfl rfl rfl rfl rfl ?_)
    cbv
    refine cond_F hN ?_ ?_
    · rw [cne hN]; rfl
    cbv
    refine op_ hN (append_vec (new := [(⟨4, text, val⟩ : Ev)]) (z := ⟨0, ⟨#[]⟩, ⟨#[]⟩⟩) ty_ok rfl rfl rfl rfl (fun k => by simp) rfl rfl wideE rfl rfl (src_cells wideE rfl (fun _ _ _ _ => rfl) rfl) hv.pr hv.room hv.fits (by simp; omega) (by decide) ?_)
    intro p' lo' m' cap' xs' hm' e1 e2 e3 e4
    have hv5 : VecOk p' lo' m' cap' xs' (l ++ [⟨4, text, val⟩]) := ⟨e1, e2, e3, by rw [e4, hv.eq]⟩
    have hk5 : ∀ y ∈ l ++ [(⟨4, text, val⟩ : Ev)], k49 y.kind := fun y hy => by
      rcases List.mem_append.1 hy with hy | hy
      · exact hkl y hy
      · rw [List.mem_singleton.1 hy]; exact hk0
    have hle5 : (l ++ [(⟨4, text, val⟩ : Ev)]).length + (evsL kids).length = l1.length := by simp; omega
    clear hv e1 e2 e3 e4 hm' hStep hout hkl
    generalize l ++ [(⟨4, text, val⟩ : Ev)] = l5 at hv5 hk5 hkg hle5
    cbv
    refine loopN_ hN (loop_ hN ty_ok mixed (ι := Nat × List Ev × Bool × Nat × Nat × Nat × List Ev) (fun y => ⟨[(1, .vec y.2.2.1 3 3 y.2.2.2.1 y.2.2.2.2.1 y.2.2.2.2.2.1), (2, .ptr 1 0), (6, .int .i64 0), (8, .ptr 2 0), (10, .int .i64 (Int.ofNat y.1))],
      [.cells 1 24 [.int .i64 4, .str text, .str val, .gsl p0 g off 4 nlen cap0], .cells 2 56 [.int .i64 4, .str text, .str val], .arr y.2.2.1 true 3 56 encE y.2.2.2.2.2.2], 4⟩)
      (fun y => y.1 ≤ nlen ∧ VecOk y.2.2.1 y.2.2.2.1 y.2.2.2.2.1 y.2.2.2.2.2.1 y.2.2.2.2.2.2 y.2.1 ∧ refGoesL refRight (kids.drop y.1) y.2.1 = (l1, 0) ∧ (∀ z ∈ y.2.1, k49 z.kind)) (fun y => nlen - y.1) ?_ ?_)
    · exact Leads.idx (0, l5, p', lo', m', cap', xs') [1, 2, 4] ⟨Nat.zero_le _, hv5, hkg, hk5⟩ ⟨⟨rfl, rfl, rfl, rfl, rfl, trivial⟩, rfl, Nat.le_of_ble_eq_true rfl⟩
    rintro ⟨i, la, pa, loa, lena, capa, xsa⟩ ⟨hi, hva, hga, hka⟩ Nnext hn _
    dsimp only at hi hva hga hka
    cbv
    refine cond_ hN (fun h => ?_) (fun h => ?_)
    · rw [clt hN] at h
      simp only [decide_eq_true_eq, decide_eq_false_iff_not, Int.ofNat_eq_natCast, gt_iff_lt, ge_iff_le, Bool.not_eq_true', Bool.not_eq_false', Int.not_lt, Int.not_le] at h
      have hilt : i < nlen := by have : (i : Int) < (nlen : Int) := h; omega
      have hpt : p0 = true := by
        have := hO.p hG (i := i) (by simp only [Nd.kids]; omega)
        exact this
      have hkid : ∃ k, kids[i]? = some k := ⟨kids[i]'(by omega), List.getElem?_eq_getElem (by omega)⟩
      obtain ⟨k, hk⟩ := hkid
      have hdrop : kids.drop i = k :: kids.drop (i + 1) := by
        have hlt : i < kids.length := by omega
        rw [List.getElem?_eq_getElem hlt] at hk
        rw [List.drop_eq_getElem_cons hlt]
        simp only [Option.some.injEq] at hk
        rw [hk]
      rw [hdrop] at hga
      obtain ⟨lb, hgb, hgc⟩ := refGoesL_in hga
      have hob := refGoes_out _ _ _ hgb
      have hoc := refGoesL_out _ _ _ hgc
      have hkm := List.mem_of_getElem? hk
      have hkb : ∀ z ∈ lb, k49 z.kind := fun z hz2 => by
        rw [hob] at hz2
        rcases List.mem_append.1 hz2 with hz2 | hz2
        · exact hka z hz2
        · exact hkk k hkm z hz2
      have hlb : lb.length ≤ 100000 := by
        have : l1.length = lb.length + (evsL (kids.drop (i + 1))).length := by rw [hoc]; simp
        omega
      have hT := ih k hkm (hO.kid hk) (hkk k hkm) la lb hka hgb hlb pa loa lena capa xsa hva
      have hp0 : bp 0 (Int.ofNat i) = i := plus0 hN i
      have hnx : bi .add .i64 (Int.ofNat i) 1 = Int.ofNat (i + 1) := inext hN (by omega)
      obtain ⟨kk, kt, kv, kp, kg, ko, kc, kks⟩ := k
      obtain ⟨klen, hkl2⟩ : ∃ x, kks.length = x := ⟨_, rfl⟩
      have hsv : Nd.sv (.mk kk kt kv kp kg ko kc kks) = .agg [.int .i64 kk, .str kt, .str kv, .gsl kp kg ko 4 klen kc] := by simp [Nd.sv, Nd.row, Nd.sl, Nd.kind, Nd.text, Nd.val, Nd.p, Nd.g, Nd.off, Nd.kids, Nd.cap, hkl2]
      cbv
      refine ob_ hN ⟨⟨by simp, by simpa using hilt⟩, hpt, trivial⟩ ?_
      cbv
      simp only [hp0]
      refine op_ hN (load_kid ty_ok hG hO hk rfl rfl rfl rfl rfl ?_)
      rw [hsv] at hT ⊢
      cbv
      refine op_ hN (call_ hT hG [3] rfl rfl rfl rfl rfl ?_)
      intro q lo2 len2 cap2 ys hvb
      cbv
      refine cond_F hN ?_ ?_
      · rw [cne hN]; rfl
      cbv
      simp only [hnx]
      exact hn _ (Leads.nxt (i + 1, lb, q, lo2, len2, cap2, ys) [1, 2, 4] ⟨hilt, hvb, hgc, hkb⟩ (by simp only; omega) ⟨⟨rfl, rfl, rfl, rfl, rfl, trivial⟩, rfl, Nat.le_of_ble_eq_true rfl⟩)
    · rw [clt hN] at h
      simp only [decide_eq_true_eq, decide_eq_false_iff_not, Int.ofNat_eq_natCast, gt_iff_lt, ge_iff_le, Bool.not_eq_true', Bool.not_eq_false', Int.not_lt, Int.not_le] at h
      have hie : i = nlen := by have : (nlen : Int) ≤ (i : Int) := h; omega
      rw [List.drop_of_length_le (by omega)] at hga
      obtain rfl : la = l1 := by simpa [refGoesL] using hga
      cbv
      refine cond_F hN ?_ ?_
      · rw [cne hN]; rfl
      cbv
      rcases hend with ⟨_, rfl⟩ | ⟨hx, _⟩
      · exact hf _ _ (fin_ [3] rfl rfl (hK _ _ _ _ _ hva))
      · exact absurd rfl hx
  · obtain rfl : r = 6 := hr
    repeat' (first
      | (refine cond_T hN ?_ ?_; (focus (rw [ceq hN]; rfl)); cbv)
      | (refine cond_F hN ?_ ?_; (focus (rw [ceq hN]; rfl)); cbv)
      | (refine cond_T hN ?_ ?_; (focus (rw [cne hN]; rfl)); cbv)
      | (refine cond_F hN ?_ ?_; (focus (rw [cne hN]; rfl)); cbv)
      | (refine cond_T hN rfl ?_; cbv)
      | (refine cond_F hN rfl ?_; cbv))
    refine op_ hN (call_ hStep hG [0] rfl rfl rfl rfl rfl ?_)
    cbv
    refine cond_F hN ?_ ?_
    · rw [cne hN]; rfl
    cbv
    refine op_ hN (append_vec (new := [(⟨5, text, val⟩ : Ev)]) (z := ⟨0, ⟨#[]⟩, ⟨#[]⟩⟩) ty_ok rfl rfl rfl rfl (fun k => by simp) rfl rfl wideE rfl rfl (src_cells wideE rfl (fun _ _ _ _ => rfl) rfl) hv.pr hv.room hv.fits (by simp; omega) (by decide) ?_)
    intro p' lo' m' cap' xs' hm' e1 e2 e3 e4
    have hv5 : VecOk p' lo' m' cap' xs' (l ++ [⟨5, text, val⟩]) := ⟨e1, e2, e3, by rw [e4, hv.eq]⟩
    have hk5 : ∀ y ∈ l ++ [(⟨5, text, val⟩ : Ev)], k49 y.kind := fun y hy => by
      rcases List.mem_append.1 hy with hy | hy
      · exact hkl y hy
      · rw [List.mem_singleton.1 hy]; exact hk0
    have hle5 : (l ++ [(⟨5, text, val⟩ : Ev)]).length + (evsL kids).length = l1.length := by simp; omega
    clear hv e1 e2 e3 e4 hm' hStep hout hkl
    generalize l ++ [(⟨5, text, val⟩ : Ev)] = l5 at hv5 hk5 hkg hle5
    cbv
    refine loopN_ hN (loop_ hN ty_ok mixed (ι := Nat × List Ev × Bool × Nat × Nat × Nat × List Ev) (fun y => ⟨[(1, .vec y.2.2.1 3 3 y.2.2.2.1 y.2.2.2.2.1 y.2.2.2.2.2.1), (2, .ptr 1 0), (6, .int .i64 6), (8, .ptr 2 0), (10, .int .i64 (Int.ofNat y.1))],
      [.cells 1 24 [.int .i64 5, .str text, .str val, .gsl p0 g off 4 nlen cap0], .cells 2 56 [.int .i64 5, .str text, .str val], .arr y.2.2.1 true 3 56 encE y.2.2.2.2.2.2], 4⟩)
      (fun y => y.1 ≤ nlen ∧ VecOk y.2.2.1 y.2.2.2.1 y.2.2.2.2.1 y.2.2.2.2.2.1 y.2.2.2.2.2.2 y.2.1 ∧ refGoesL refRight (kids.drop y.1) y.2.1 = (l1, 0) ∧ (∀ z ∈ y.2.1, k49 z.kind)) (fun y => nlen - y.1) ?_ ?_)
    · exact Leads.idx (0, l5, p', lo', m', cap', xs') [1, 2, 4] ⟨Nat.zero_le _, hv5, hkg, hk5⟩ ⟨⟨rfl, rfl, rfl, rfl, rfl, trivial⟩, rfl, Nat.le_of_ble_eq_true rfl⟩
    rintro ⟨i, la, pa, loa, lena, capa, xsa⟩ ⟨hi, hva, hga, hka⟩ Nnext hn _
    dsimp only at hi hva hga hka
    cbv
    refine cond_ hN (fun h => ?_) (fun h => ?_)
    · rw [clt hN] at h
      simp only [decide_eq_true_eq, decide_eq_false_iff_not, Int.ofNat_eq_natCast, gt_iff_lt, ge_iff_le, Bool.not_eq_true', Bool.not_eq_false', Int.not_lt, Int.not_le] at h
      have hilt : i < nlen := by have : (i : Int) < (nlen : Int) := h; omega
      have hpt : p0 = true := by
        have := hO.p hG (i := i) (by simp only [Nd.kids]; omega)
        exact this
      have hkid : ∃ k, kids[i]? = some k := ⟨kids[i]'(by omega), List.getElem?_eq_getElem (by omega)⟩
      obtain ⟨k, hk⟩ := hkid
      have hdrop : kids.drop i = k :: kids.drop (i + 1) := by
        have hlt : i < kids.length := by omega
        rw [List.getElem?_eq_getElem hlt] at hk
        rw [List.drop_eq_getElem_cons hlt]
        simp only [Option.some.injEq] at hk
        rw [hk]
      rw [hdrop] at hga
      obtain ⟨lb, hgb, hgc⟩ := refGoesL_in hga
      have hob := refGoes_out _ _ _ hgb
      have hoc := refGoesL_out _ _ _ hgc
      have hkm := List.mem_of_getElem? hk
      have hkb : ∀ z ∈ lb, k49 z.kind := fun z hz2 => by
        rw [hob] at hz2
        rcases List.mem_append.1 hz2 with hz2 | hz2
        · exact hka z hz2
        · exact hkk k hkm z hz2
      have hlb : lb.length ≤ 100000 := by
        have : l1.length = lb.length + (evsL (kids.drop (i + 1))).length := by rw [hoc]; simp
        omega
      have hT := ih k hkm (hO.kid hk) (hkk k hkm) la lb hka hgb hlb pa loa lena capa xsa hva
      have hp0 : bp 0 (Int.ofNat i) = i := plus0 hN i
      have hnx : bi .add .i64 (Int.ofNat i) 1 = Int.ofNat (i + 1) := inext hN (by omega)
      obtain ⟨kk, kt, kv, kp, kg, ko, kc, kks⟩ := k
      obtain ⟨klen, hkl2⟩ : ∃ x, kks.length = x := ⟨_, rfl⟩
      have hsv : Nd.sv (.mk kk kt kv kp kg ko kc kks) = .agg [.int .i64 kk, .str kt, .str kv, .gsl kp kg ko 4 klen kc] := by simp [Nd.sv, Nd.row, Nd.sl, Nd.kind, Nd.text, Nd.val, Nd.p, Nd.g, Nd.off, Nd.kids, Nd.cap, hkl2]
      cbv
      refine ob_ hN ⟨⟨by simp, by simpa using hilt⟩, hpt, trivial⟩ ?_
      cbv
      simp only [hp0]
      refine op_ hN (load_kid ty_ok hG hO hk rfl rfl rfl rfl rfl ?_)
      rw [hsv] at hT ⊢
      cbv
      refine op_ hN (call_ hT hG [3] rfl rfl rfl rfl rfl ?_)
      intro q lo2 len2 cap2 ys hvb
      cbv
      refine cond_F hN ?_ ?_
      · rw [cne hN]; rfl
      cbv
      simp only [hnx]
      exact hn _ (Leads.nxt (i + 1, lb, q, lo2, len2, cap2, ys) [1, 2, 4] ⟨hilt, hvb, hgc, hkb⟩ (by simp only; omega) ⟨⟨rfl, rfl, rfl, rfl, rfl, trivial⟩, rfl, Nat.le_of_ble_eq_true rfl⟩)
    · rw [clt hN] at h
      simp only [decide_eq_true_eq, decide_eq_false_iff_not, Int.ofNat_eq_natCast, gt_iff_lt, ge_iff_le, Bool.not_eq_true', Bool.not_eq_false', Int.not_lt, Int.not_le] at h
      have hie : i = nlen := by have : (nlen : Int) ≤ (i : Int) := h; omega
      rw [List.drop_of_length_le (by omega)] at hga
      obtain rfl : la = l1 := by simpa [refGoesL] using hga
      cbv
      refine cond_T hN ?_ ?_
      · rw [cne hN]; rfl
      cbv
      rcases hend with ⟨hx, _⟩ | ⟨_, hst2, rfl⟩
      · exact absurd hx (by decide)
      have hst2 : refStep refRight la ⟨6, ⟨#[]⟩, ⟨#[]⟩⟩ = 0 := hst2
      have hlen2 := hva.length
      have hll2 : la.length + 1 ≤ 100000 := by simpa using hl'
      have hStep2 := step_r (GOk := GOk) pa true loa lena capa xsa la hva (by omega) ⟨6, ⟨#[]⟩, ⟨#[]⟩⟩ (.inr (.inr (.inl rfl))) hka hst2
      simp only at hStep2
      refine op_ hN (call_ hStep2 hG [3] rfl rfl rfl rfl rfl ?_)
      cbv
      refine cond_F hN ?_ ?_
      · rw [cne hN]; rfl
      cbv
      refine op_ hN (append_vec (new := [(⟨6, ⟨#[]⟩, ⟨#[]⟩⟩ : Ev)]) (z := ⟨0, ⟨#[]⟩, ⟨#[]⟩⟩) ty_ok rfl rfl rfl rfl (fun k => by simp) rfl rfl wideE rfl rfl (src_cells wideE rfl (fun _ _ _ _ => rfl) rfl) hva.pr hva.room hva.fits (by simp; omega) (by decide) ?_)
      intro p' lo' m' cap' xs' hm' e1 e2 e3 e4
      have hv6 : VecOk p' lo' m' cap' xs' (la ++ [ev0 (endK 5)]) := ⟨e1, e2, e3, by rw [e4, hva.eq]; rfl⟩
      cbv
      exact hf _ _ (fin_ [5] rfl rfl (hK _ _ _ _ _ hv6))
  · obtain rfl : r = 9 := hr
    repeat' (first
      | (refine cond_T hN ?_ ?_; (focus (rw [ceq hN]; rfl)); cbv)
      | (refine cond_F hN ?_ ?_; (focus (rw [ceq hN]; rfl)); cbv)
      | (refine cond_T hN ?_ ?_; (focus (rw [cne hN]; rfl)); cbv)
      | (refine cond_F hN ?_ ?_; (focus (rw [cne hN]; rfl)); cbv)
      | (refine cond_T hN rfl ?_; cbv)
      | (refine cond_F hN rfl ?_; cbv))
    refine op_ hN (call_ hStep hG [0] rfl rfl rfl rfl rfl ?_)
    cbv
    refine cond_F hN ?_ ?_
    · rw [cne hN]; rfl
    cbv
    refine op_ hN (append_vec (new := [(⟨7, text, val⟩ : Ev)]) (z := ⟨0, ⟨#[]⟩, ⟨#[]⟩⟩) ty_ok rfl rfl rfl rfl (fun k => by simp) rfl rfl wideE rfl rfl (src_cells wideE rfl (fun _ _ _ _ => rfl) rfl) hv.pr hv.room hv.fits (by simp; omega) (by decide) ?_)
    intro p' lo' m' cap' xs' hm' e1 e2 e3 e4
    have hv5 : VecOk p' lo' m' cap' xs' (l ++ [⟨7, text, val⟩]) := ⟨e1, e2, e3, by rw [e4, hv.eq]⟩
    have hk5 : ∀ y ∈ l ++ [(⟨7, text, val⟩ : Ev)], k49 y.kind := fun y hy => by
      rcases List.mem_append.1 hy with hy | hy
      · exact hkl y hy
      · rw [List.mem_singleton.1 hy]; exact hk0
    have hle5 : (l ++ [(⟨7, text, val⟩ : Ev)]).length + (evsL kids).length = l1.length := by simp; omega
    clear hv e1 e2 e3 e4 hm' hStep hout hkl
    generalize l ++ [(⟨7, text, val⟩ : Ev)] = l5 at hv5 hk5 hkg hle5
    cbv
    refine loopN_ hN (loop_ hN ty_ok mixed (ι := Nat × List Ev × Bool × Nat × Nat × Nat × List Ev) (fun y => ⟨[(1, .vec y.2.2.1 3 3 y.2.2.2.1 y.2.2.2.2.1 y.2.2.2.2.2.1), (2, .ptr 1 0), (6, .int .i64 9), (8, .ptr 2 0), (10, .int .i64 (Int.ofNat y.1))],
      [.cells 1 24 [.int .i64 7, .str text, .str val, .gsl p0 g off 4 nlen cap0], .cells 2 56 [.int .i64 7, .str text, .str val], .arr y.2.2.1 true 3 56 encE y.2.2.2.2.2.2], 4⟩)
      (fun y => y.1 ≤ nlen ∧ VecOk y.2.2.1 y.2.2.2.1 y.2.2.2.2.1 y.2.2.2.2.2.1 y.2.2.2.2.2.2 y.2.1 ∧ refGoesL refRight (kids.drop y.1) y.2.1 = (l1, 0) ∧ (∀ z ∈ y.2.1, k49 z.kind)) (fun y => nlen - y.1) ?_ ?_)
    · exact Leads.idx (0, l5, p', lo', m', cap', xs') [1, 2, 4] ⟨Nat.zero_le _, hv5, hkg, hk5⟩ ⟨⟨rfl, rfl, rfl, rfl, rfl, trivial⟩, rfl, Nat.le_of_ble_eq_true rfl⟩
    rintro ⟨i, la, pa, loa, lena, capa, xsa⟩ ⟨hi, hva, hga, hka⟩ Nnext hn _
    dsimp only at hi hva hga hka
    cbv
    refine cond_ hN (fun h => ?_) (fun h => ?_)
    · rw [clt hN] at h
      simp only [decide_eq_true_eq, decide_eq_false_iff_not, Int.ofNat_eq_natCast, gt_iff_lt, ge_iff_le, Bool.not_eq_true', Bool.not_eq_false', Int.not_lt, Int.not_le] at h
      have hilt : i < nlen := by have : (i : Int) < (nlen : Int) := h; omega
      have hpt : p0 = true := by
        have := hO.p hG (i := i) (by simp only [Nd.kids]; omega)
        exact this
      have hkid : ∃ k, kids[i]? = some k := ⟨kids[i]'(by omega), List.getElem?_eq_getElem (by omega)⟩
      obtain ⟨k, hk⟩ := hkid
      have hdrop : kids.drop i = k :: kids.drop (i + 1) := by
        have hlt : i < kids.length := by omega
        rw [List.getElem?_eq_getElem hlt] at hk
        rw [List.drop_eq_getElem_cons hlt]
        simp only [Option.some.injEq] at hk
        rw [hk]
      rw [hdrop] at hga
      obtain ⟨lb, hgb, hgc⟩ := refGoesL_in hga
      have hob := refGoes_out _ _ _ hgb
      have hoc := refGoesL_out _ _ _ hgc
      have hkm := List.mem_of_getElem? hk
      have hkb : ∀ z ∈ lb, k49 z.kind := fun z hz2 => by
        rw [hob] at hz2
        rcases List.mem_append.1 hz2 with hz2 | hz2
        · exact hka z hz2
        · exact hkk k hkm z hz2
      have hlb : lb.length ≤ 100000 := by
        have : l1.length = lb.length + (evsL (kids.drop (i + 1))).length := by rw [hoc]; simp
        omega
      have hT := ih k hkm (hO.kid hk) (hkk k hkm) la lb hka hgb hlb pa loa lena capa xsa hva
      have hp0 : bp 0 (Int.ofNat i) = i := plus0 hN i
      have hnx : bi .add .i64 (Int.ofNat i) 1 = Int.ofNat (i + 1) := inext hN (by omega)
      obtain ⟨kk, kt, kv, kp, kg, ko, kc, kks⟩ := k
      obtain ⟨klen, hkl2⟩ : ∃ x, kks.length = x := ⟨_, rfl⟩
      have hsv : Nd.sv (.mk kk kt kv kp kg ko kc kks) = .agg [.int .i64 kk, .str kt, .str kv, .gsl kp kg ko 4 klen kc] := by simp [Nd.sv, Nd.row, Nd.sl, Nd.kind, Nd.text, Nd.val, Nd.p, Nd.g, Nd.off, Nd.kids, Nd.cap, hkl2]
      cbv
      refine ob_ hN ⟨⟨by simp, by simpa using hilt⟩, hpt, trivial⟩ ?_
      cbv
      simp only [hp0]
      refine op_ hN (load_kid ty_ok hG hO hk rfl rfl rfl rfl rfl ?_)
      rw [hsv] at hT ⊢
      cbv
      refine op_ hN (call_ hT hG [3] rfl rfl rfl rfl rfl ?_)
      intro q lo2 len2 cap2 ys hvb
      cbv
      refine cond_F hN ?_ ?_
      · rw [cne hN]; rfl
      cbv
      simp only [hnx]
      exact hn _ (Leads.nxt (i + 1, lb, q, lo2, len2, cap2, ys) [1, 2, 4] ⟨hilt, hvb, hgc, hkb⟩ (by simp only; omega) ⟨⟨rfl, rfl, rfl, rfl, rfl, trivial⟩, rfl, Nat.le_of_ble_eq_true rfl⟩)
    · rw [clt hN] at h
      simp only [decide_eq_true_eq, decide_eq_false_iff_not, Int.ofNat_eq_natCast, gt_iff_lt, ge_iff_le, Bool.not_eq_true', Bool.not_eq_false', Int.not_lt, Int.not_le] at h
      have hie : i = nlen := by have : (nlen : Int) ≤ (i : Int) := h; omega
      rw [List.drop_of_length_le (by omega)] at hga
      obtain rfl : la = l1 := by simpa [refGoesL] using hga
      cbv
      refine cond_T hN ?_ ?_
      · rw [cne hN]; rfl
      cbv
      rcases hend with ⟨hx, _⟩ | ⟨_, hst2, rfl⟩
      · exact absurd hx (by decide)
      have hst2 : refStep refRight la ⟨9, ⟨#[]⟩, ⟨#[]⟩⟩ = 0 := hst2
      have hlen2 := hva.length
      have hll2 : la.length + 1 ≤ 100000 := by simpa using hl'
      have hStep2 := step_r (GOk := GOk) pa true loa lena capa xsa la hva (by omega) ⟨9, ⟨#[]⟩, ⟨#[]⟩⟩ (.inr (.inr (.inr (.inr (.inr rfl))))) hka hst2
      simp only at hStep2
      refine op_ hN (call_ hStep2 hG [3] rfl rfl rfl rfl rfl ?_)
      cbv
      refine cond_F hN ?_ ?_
      · rw [cne hN]; rfl
      cbv
      refine op_ hN (append_vec (new := [(⟨9, ⟨#[]⟩, ⟨#[]⟩⟩ : Ev)]) (z := ⟨0, ⟨#[]⟩, ⟨#[]⟩⟩) ty_ok rfl rfl rfl rfl (fun k => by simp) rfl rfl wideE rfl rfl (src_cells wideE rfl (fun _ _ _ _ => rfl) rfl) hva.pr hva.room hva.fits (by simp; omega) (by decide) ?_)
      intro p' lo' m' cap' xs' hm' e1 e2 e3 e4
      have hv6 : VecOk p' lo' m' cap' xs' (la ++ [ev0 (endK 7)]) := ⟨e1, e2, e3, by rw [e4, hva.eq]; rfl⟩
      cbv
      exact hf _ _ (fin_ [5] rfl rfl (hK _ _ _ _ _ hv6))
  · obtain rfl : r = 0 := hr
    repeat' (first
      | (refine cond_T hN ?_ ?_; (focus (rw [ceq hN]; rfl)); cbv)
      | (refine cond_F hN ?_ ?_; (focus (rw [ceq hN]; rfl)); cbv)
      | (refine cond_T hN ?_ ?_; (focus (rw [cne hN]; rfl)); cbv)
      | (refine cond_F hN ?_ ?_; (focus (rw [cne hN]; rfl)); cbv)
      | (refine cond_T hN rfl ?_; cbv)
      | (refine cond_F hN rfl ?_; cbv))
    refine cond_F hN ?_ ?_
    · rw [hceq1 hz]
    cbv
    refine op_ hN (call_ hStep hG [0] rfl rfl rfl rfl rfl ?_)
    cbv
    refine cond_F hN ?_ ?_
    · rw [cne hN]; rfl
    cbv
    refine op_ hN (append_vec (new := [(⟨8, text, val⟩ : Ev)]) (z := ⟨0, ⟨#[]⟩, ⟨#[]⟩⟩) ty_ok rfl rfl rfl rfl (fun k => by simp) rfl rfl wideE rfl rfl (src_cells wideE rfl (fun _ _ _ _ => rfl) rfl) hv.pr hv.room hv.fits (by simp; omega) (by decide) ?_)
    intro p' lo' m' cap' xs' hm' e1 e2 e3 e4
    have hv5 : VecOk p' lo' m' cap' xs' (l ++ [⟨8, text, val⟩]) := ⟨e1, e2, e3, by rw [e4, hv.eq]⟩
    have hk5 : ∀ y ∈ l ++ [(⟨8, text, val⟩ : Ev)], k49 y.kind := fun y hy => by
      rcases List.mem_append.1 hy with hy | hy
      · exact hkl y hy
      · rw [List.mem_singleton.1 hy]; exact hk0
    have hle5 : (l ++ [(⟨8, text, val⟩ : Ev)]).length + (evsL kids).length = l1.length := by simp; omega
    clear hv e1 e2 e3 e4 hm' hStep hout hkl
    generalize l ++ [(⟨8, text, val⟩ : Ev)] = l5 at hv5 hk5 hkg hle5
    cbv
    refine loopN_ hN (loop_ hN ty_ok mixed (ι := Nat × List Ev × Bool × Nat × Nat × Nat × List Ev) (fun y => ⟨[(1, .vec y.2.2.1 3 3 y.2.2.2.1 y.2.2.2.2.1 y.2.2.2.2.2.1), (2, .ptr 1 0), (6, .int .i64 0), (8, .ptr 2 0), (10, .int .i64 (Int.ofNat y.1))],
      [.cells 1 24 [.int .i64 8, .str text, .str val, .gsl p0 g off 4 nlen cap0], .cells 2 56 [.int .i64 8, .str text, .str val], .arr y.2.2.1 true 3 56 encE y.2.2.2.2.2.2], 4⟩)
      (fun y => y.1 ≤ nlen ∧ VecOk y.2.2.1 y.2.2.2.1 y.2.2.2.2.1 y.2.2.2.2.2.1 y.2.2.2.2.2.2 y.2.1 ∧ refGoesL refRight (kids.drop y.1) y.2.1 = (l1, 0) ∧ (∀ z ∈ y.2.1, k49 z.kind)) (fun y => nlen - y.1) ?_ ?_)
    · exact Leads.idx (0, l5, p', lo', m', cap', xs') [1, 2, 4] ⟨Nat.zero_le _, hv5, hkg, hk5⟩ ⟨⟨rfl, rfl, rfl, rfl, rfl, trivial⟩, rfl, Nat.le_of_ble_eq_true rfl⟩
    rintro ⟨i, la, pa, loa, lena, capa, xsa⟩ ⟨hi, hva, hga, hka⟩ Nnext hn _
    dsimp only at hi hva hga hka
    cbv
    refine cond_ hN (fun h => ?_) (fun h => ?_)
    · rw [clt hN] at h
      simp only [decide_eq_true_eq, decide_eq_false_iff_not, Int.ofNat_eq_natCast, gt_iff_lt, ge_iff_le, Bool.not_eq_true', Bool.not_eq_false', Int.not_lt, Int.not_le] at h
      have hilt : i < nlen := by have : (i : Int) < (nlen : Int) := h; omega
      have hpt : p0 = true := by
        have := hO.p hG (i := i) (by simp only [Nd.kids]; omega)
        exact this
      have hkid : ∃ k, kids[i]? = some k := ⟨kids[i]'(by omega), List.getElem?_eq_getElem (by omega)⟩
      obtain ⟨k, hk⟩ := hkid
      have hdrop : kids.drop i = k :: kids.drop (i + 1) := by
        have hlt : i < kids.length := by omega
        rw [List.getElem?_eq_getElem hlt] at hk
        rw [List.drop_eq_getElem_cons hlt]
        simp only [Option.some.injEq] at hk
        rw [hk]
      rw [hdrop] at hga
      obtain ⟨lb, hgb, hgc⟩ := refGoesL_in hga
      have hob := refGoes_out _ _ _ hgb
      have hoc := refGoesL_out _ _ _ hgc
      have hkm := List.mem_of_getElem? hk
      have hkb : ∀ z ∈ lb, k49 z.kind := fun z hz2 => by
        rw [hob] at hz2
        rcases List.mem_append.1 hz2 with hz2 | hz2
        · exact hka z hz2
        · exact hkk k hkm z hz2
      have hlb : lb.length ≤ 100000 := by
        have : l1.length = lb.length + (evsL (kids.drop (i + 1))).length := by rw [hoc]; simp
        omega
      have hT := ih k hkm (hO.kid hk) (hkk k hkm) la lb hka hgb hlb pa loa lena capa xsa hva
      have hp0 : bp 0 (Int.ofNat i) = i := plus0 hN i
      have hnx : bi .add .i64 (Int.ofNat i) 1 = Int.ofNat (i + 1) := inext hN (by omega)
      obtain ⟨kk, kt, kv, kp, kg, ko, kc, kks⟩ := k
      obtain ⟨klen, hkl2⟩ : ∃ x, kks.length = x := ⟨_, rfl⟩
      have hsv : Nd.sv (.mk kk kt kv kp kg ko kc kks) = .agg [.int .i64 kk, .str kt, .str kv, .gsl kp kg ko 4 klen kc] := by simp [Nd.sv, Nd.row, Nd.sl, Nd.kind, Nd.text, Nd.val, Nd.p, Nd.g, Nd.off, Nd.kids, Nd.cap, hkl2]
      cbv
      refine ob_ hN ⟨⟨by simp, by simpa using hilt⟩, hpt, trivial⟩ ?_
      cbv
      simp only [hp0]
      refine op_ hN (load_kid ty_ok hG hO hk rfl rfl rfl rfl rfl ?_)
      rw [hsv] at hT ⊢
      cbv
      refine op_ hN (call_ hT hG [3] rfl rfl rfl rfl rfl ?_)
      intro q lo2 len2 cap2 ys hvb
      cbv
      refine cond_F hN ?_ ?_
      · rw [cne hN]; rfl
      cbv
      simp only [hnx]
      exact hn _ (Leads.nxt (i + 1, lb, q, lo2, len2, cap2, ys) [1, 2, 4] ⟨hilt, hvb, hgc, hkb⟩ (by simp only; omega) ⟨⟨rfl, rfl, rfl, rfl, rfl, trivial⟩, rfl, Nat.le_of_ble_eq_true rfl⟩)
    · rw [clt hN] at h
      simp only [decide_eq_true_eq, decide_eq_false_iff_not, Int.ofNat_eq_natCast, gt_iff_lt, ge_iff_le, Bool.not_eq_true', Bool.not_eq_false', Int.not_lt, Int.not_le] at h
      have hie : i = nlen := by have : (nlen : Int) ≤ (i : Int) := h; omega
      rw [List.drop_of_length_le (by omega)] at hga
      obtain rfl : la = l1 := by simpa [refGoesL] using hga
      cbv
      refine cond_F hN ?_ ?_
      · rw [cne hN]; rfl
      cbv
      rcases hend with ⟨_, rfl⟩ | ⟨hx, _⟩
      · exact hf _ _ (fin_ [3] rfl rfl (hK _ _ _ _ _ hva))
      · exact absurd rfl hx
theorem rgoes_all : ∀ (m : Nat) (n : Nd), sizeOf n ≤ m → RGoesAt GOk n
  | 0, ⟨_, _, _, _, _, _, _, _⟩, h => by simp at h
  | m + 1, ⟨kind, text, val, p, g, off, cap, kids⟩, h => rgoes_step kind text val p g off cap _ kids rfl fun k hk => rgoes_all m k (by
      have := List.sizeOf_lt_of_mem hk
      simp at h
      omega)
end Hx
