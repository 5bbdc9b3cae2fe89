/-
  Part of a proof.
-/
import Derived.Test.YtkkifbjdbhjhaaaGreatDoorV14
import Derived.Lib.Replace
import Derived.Lib.Join
import Derived.Laws.RangeAny
import Derived.Test.YtkkifbjdbhjhaaaGreatDoorV08
import Derived.Test.YtkkifbjdbhjhaaaGreatDoorV06
import Derived.Test.YtkkifbjdbhjhaaaGreatDoorV05
set_option linter.unusedVariables false
set_option linter.unusedSimpArgs false
/- delim: the trees that it tells. -/
namespace Hx
open Go Sx Go.Proofs
set_option maxRecDepth 100000
set_option maxHeartbeats 4000000
set_option linter.unusedVariables false
set_option linter.unusedSimpArgs false
variable {GOk : Gl → Prop}
theorem rightM0 (x : Ev) (h : x.kind = 0) : rightM x = false := by unfold rightM; simp [h]
theorem stepsC_right {right : Ev → Bool} : ∀ {l : List Ev} {c c' : Chk}, stepsC right c l = some c' → ∀ x ∈ l, right x = true
  | [], _, _, _, x, hx => by simp at hx
  | y :: r, c, c', h, x, hx => by
    simp only [stepsC] at h
    by_cases hy : (chkStep right c y).1 = 0
    · rw [if_pos hy] at h
      rcases List.mem_cons.1 hx with e | hx
      · subst e
        by_cases hr : right x = true
        · exact hr
        · exfalso
          unfold chkStep at hy
          rw [if_pos (by simpa using hr)] at hy
          simp at hy
      · exact stepsC_right h x hx
    · rw [if_neg hy] at h; exact nomatch h
/-- a field's cell -/
def cellOf (f : Nd) : List UInt8 := match f.kids with
  | [] => []
  | v :: _ => v.text.data.toList
def okCell (s : List UInt8) : Prop := s.length ≤ 48 ∧ okS s
theorem okCell_may {s : ByteArray} (h : mayT s = true) : okCell s.data.toList := by
  simp only [mayT, Bool.and_eq_true, decide_eq_true_eq] at h
  exact ⟨by rw [Array.length_toList]; exact h.2, scan_valid _ _ (Nat.le_refl _) h.1⟩
theorem bytesOf_toList (s : ByteArray) : bytesOf s.data.toList = s := by simp [bytesOf]
theorem right8 {t v : ByteArray} {k : Int} (hk : k = 4 ∨ k = 8) (h : rightM ⟨k, t, v⟩ = true) : v = ⟨#[]⟩ ∧ mayT t = true := by
  unfold rightM at h
  rcases hk with rfl | rfl <;> simpa using h
theorem right5 {t v : ByteArray} {k : Int} (hk : k = 5 ∨ k = 7) (h : rightM ⟨k, t, v⟩ = true) : t = ⟨#[]⟩ ∧ v = ⟨#[]⟩ := by
  unfold rightM at h
  rcases hk with rfl | rfl <;> simpa using h
/-- the fields of a map -/
theorem fields_law : ∀ (fs : List Nd) (c c' : Chk) (o : Opn) (r : List Opn), c.opens = o :: r → o.kind = 7 → o.key = false → o.had.Nodup → (∀ f ∈ fs, ∀ v ∈ f.kids, v.kind = 4) → stepsC rightM c (evsL fs) = some c' →
    ∃ o', c'.opens = o' :: r ∧ o'.kind = 7 ∧ o'.key = false ∧ o'.had = o.had ++ fs.map Nd.text ∧ o'.had.Nodup ∧ evsL fs = fieldsE (fs.map Nd.text) (fs.map cellOf) ∧ ∀ f ∈ fs, okCell f.text.data.toList ∧ okCell (cellOf f) ∧ f.kids.length = 1
  | [], c, c', o, r, hc, hk, hkey, hnd, _, hs => by
    simp only [evsL, stepsC, Option.some.injEq] at hs
    subst hs
    exact ⟨o, hc, hk, hkey, by simp, hnd, rfl, by simp⟩
  | f :: fs, c, c', o, r, hc, hk, hkey, hnd, hv, hs => by
    simp only [evsL, stepsC_append] at hs
    cases h1 : stepsC rightM c (evs f) with
    | none => rw [h1] at hs; exact nomatch hs
    | some c1 =>
      rw [h1] at hs
      simp only [Option.bind_some] at hs
      obtain ⟨k, t, v, p, g, of_, cp, kids⟩ := f
      have hev : evs (.mk k t v p g of_ cp kids) = if oddK k kids.length then [evD] else ⟨k, t, v⟩ :: (evsL kids ++ endE k) := by rw [evs]
      rw [hev] at h1
      by_cases ho : oddK k kids.length = true
      · rw [if_pos ho] at h1
        simp only [stepsC] at h1
        rw [if_neg (by rw [right_evD rightM0]; decide)] at h1
        exact nomatch h1
      rw [if_neg ho] at h1
      have hrt := stepsC_right h1 ⟨k, t, v⟩ (by simp)
      simp only [stepsC] at h1
      by_cases hx : (chkStep rightM c ⟨k, t, v⟩).1 = 0
      rotate_left
      · rw [if_neg hx] at h1; exact nomatch h1
      rw [if_pos hx] at h1
      have hst : k = 8 ∧ ¬ hasB o.had t = true ∧ (chkStep rightM c ⟨k, t, v⟩).2 = { c with opens := { o with had := o.had ++ [t], key := true } :: r } := by
        unfold chkStep at hx ⊢
        rw [if_neg (by rw [hrt]; simp)] at hx ⊢
        have hval : chkValue c ⟨k, t, v⟩ = false := by simp [chkValue, hc, hk, hkey]
        by_cases a1 : k1234 k = true
        · rw [if_pos a1, if_pos (by rw [hval]; rfl)] at hx; simp at hx
        rw [if_neg a1] at hx ⊢
        by_cases a2 : k57a k = true
        · rw [if_pos a2, if_pos (by rw [hval]; rfl)] at hx; simp at hx
        rw [if_neg a2, hc] at hx ⊢
        simp only at hx ⊢
        by_cases a8 : k = 8
        · rw [if_pos (by simp [a8]), if_neg (by simp [hk, hkey])] at hx ⊢
          simp only at hx ⊢
          unfold opnNamed at hx ⊢
          by_cases hh : hasB o.had t = true
          · rw [if_pos hh] at hx; simp at hx
          rw [if_neg hh] at hx ⊢
          by_cases hl : o.had.length ≥ 10
          · rw [if_pos hl] at hx; simp at hx
          rw [if_neg hl]
          exact ⟨a8, hh, by simp [a8]⟩
        rw [if_neg (by simpa using a8)] at hx ⊢
        by_cases a11 : k = 11
        · rw [if_pos (by simp [a11]), if_pos (by simp [hk])] at hx; simp at hx
        rw [if_neg (by simpa using a11)] at hx ⊢
        by_cases a9 : k = 9
        · exfalso; apply ho; subst a9; rfl
        · rw [if_pos] at hx
          · simp at hx
          · have : endOf k ≠ 7 := by
              unfold endOf; split
              · decide
              · split
                · rename_i h; exact absurd (by simpa using h) a9
                · split <;> decide
            simp only [hk, Bool.or_eq_true, bne_iff_ne, ne_eq]
            exact .inl fun e => this e.symm
      obtain ⟨hk8, hnh, hc2⟩ := hst
      subst hk8
      rw [hc2] at h1
      have hlen : kids.length = 1 := by
        have : ¬ oddK 8 kids.length = true := ho
        simp [oddK, leafK] at this
        exact this
      obtain ⟨w, rfl⟩ : ∃ w, kids = [w] := by
        cases kids with
        | nil => simp at hlen
        | cons w ks => cases ks with
          | nil => exact ⟨w, rfl⟩
          | cons _ _ => simp at hlen
      obtain ⟨kw, tw, vw, pw, gw, ow, cw, kidsw⟩ := w
      have hkw : kw = 4 := hv _ (List.mem_cons_self ..) (.mk kw tw vw pw gw ow cw kidsw) (by simp [Nd.kids])
      subst hkw
      have hevw : evs (.mk 4 tw vw pw gw ow cw kidsw) = if oddK 4 kidsw.length then [evD] else ⟨4, tw, vw⟩ :: (evsL kidsw ++ endE 4) := by rw [evs]
      rw [evsL, evsL, hevw, show endE 8 = [] from rfl, List.append_nil, List.append_nil] at h1 hev
      by_cases how : oddK 4 kidsw.length = true
      · rw [if_pos how] at h1
        simp only [stepsC] at h1
        rw [if_neg (by rw [right_evD rightM0]; decide)] at h1
        exact nomatch h1
      rw [if_neg how] at h1 hev
      have hkw0 : kidsw = [] := by
        have : ¬ oddK 4 kidsw.length = true := how
        simpa [oddK, leafK] using this
      subst hkw0
      rw [if_neg (by simpa using ho)] at hev
      simp only [evsL, show endE 4 = [] from rfl, List.append_nil] at h1 hev
      have hrw := stepsC_right h1 ⟨4, tw, vw⟩ (by simp)
      obtain ⟨hv0, hmt⟩ := right8 (.inr rfl) hrt
      obtain ⟨hvw0, hmw⟩ := right8 (.inl rfl) hrw
      subst hv0 hvw0
      simp only [stepsC] at h1
      have hstep : chkStep rightM { c with opens := { o with had := o.had ++ [t], key := true } :: r } ⟨4, tw, ⟨#[]⟩⟩ = (0, { c with opens := { o with had := o.had ++ [t], key := false, full := true, text := true } :: r }) := by
        unfold chkStep
        rw [if_neg (by rw [hrw]; simp), if_pos (show k1234 4 = true from rfl), if_neg (by simp [chkValue, hk])]
        simp [chkStands]
      rw [hstep, if_pos rfl, Option.some.injEq] at h1
      have hnd2 : (o.had ++ [t]).Nodup := by
        rw [List.nodup_append]
        refine ⟨hnd, by simp, fun a ha b hb => ?_⟩
        simp only [List.mem_singleton] at hb
        subst hb
        intro e
        subst e
        exact hnh (hasB_mem ha)
      obtain ⟨o', g1, g2, g3, g4, g5, g6, g7⟩ := fields_law fs c1 c' { o with had := o.had ++ [t], key := false, full := true, text := true } r (by rw [← h1]) hk rfl hnd2 (fun f hf => hv f (List.mem_cons_of_mem _ hf)) hs
      refine ⟨o', g1, g2, g3, by rw [g4]; simp [Nd.text], g5, ?_, ?_⟩
      · rw [evsL, hev, g6]
        simp [fieldsE, fieldE, Nd.text, cellOf, Nd.kids, bytesOf_toList]
      · intro f hf
        rcases List.mem_cons.1 hf with rfl | hf
        · exact ⟨okCell_may hmt, okCell_may hmw, rfl⟩
        · exact g7 f hf
/-- can delim tell it? -/
def rowLook (h : List ByteArray) (k : Nd) : Bool := decide (k.kind = 7) && (decide (k.kids ≠ [] ∧ k.kids.length ≤ 8) && (decide (k.kids.map Nd.text = h) && k.kids.all fun f => f.kids.all fun v => decide (v.kind = 4)))
def headOf (n : Nd) : List ByteArray := match n.kids with
  | [] => []
  | k :: _ => k.kids.map Nd.text
def lookM (n : Nd) : Bool := decide (n.kind = 5) && n.kids.all (rowLook (headOf n))
def rowOf (k : Nd) : List (List UInt8) := k.kids.map cellOf
theorem rows_law (h : List ByteArray) : ∀ (ks : List Nd) (c c' : Chk) (o : Opn) (r : List Opn), c.opens = o :: r → o.kind = 5 → (∀ k ∈ ks, rowLook h k = true) → stepsC rightM c (evsL ks) = some c' →
    (∃ o', c'.opens = o' :: r ∧ o'.kind = 5) ∧ evsL ks = (ks.map rowOf).flatMap (rowE h) ∧ ∀ k ∈ ks, (k.kids.map Nd.text).Nodup ∧ ∀ f ∈ k.kids, okCell f.text.data.toList ∧ okCell (cellOf f) ∧ f.kids.length = 1
  | [], c, c', o, r, hc, hk, _, hs => by
    simp only [evsL, stepsC, Option.some.injEq] at hs
    subst hs
    exact ⟨⟨o, hc, hk⟩, rfl, by simp⟩
  | k :: ks, c, c', o, r, hc, hk, hl, hs => by
    simp only [evsL, stepsC_append] at hs
    cases h1 : stepsC rightM c (evs k) with
    | none => rw [h1] at hs; exact nomatch hs
    | some c1 =>
      rw [h1] at hs
      simp only [Option.bind_some] at hs
      have hlk := hl k (by simp)
      simp only [rowLook, Bool.and_eq_true, List.all_eq_true] at hlk
      obtain ⟨hk7, hlk2, hkeys, hvs⟩ := hlk
      have hk7 := of_decide_eq_true hk7
      have hkeys := of_decide_eq_true hkeys
      obtain ⟨kd, t, v, p, g, of_, cp, kids⟩ := k
      have hk7 : kd = 7 := hk7
      have hkeys : kids.map Nd.text = h := hkeys
      have hvs : ∀ f ∈ kids, ∀ v ∈ f.kids, decide (v.kind = 4) = true := hvs
      subst hk7
      have hev : evs (.mk 7 t v p g of_ cp kids) = ⟨7, t, v⟩ :: (evsL kids ++ [ev0 9]) := by
        rw [evs, if_neg (by simp [oddK, leafK, endK])]; rfl
      rw [hev] at h1
      obtain ⟨ht, hv⟩ := right5 (.inr rfl) (stepsC_right h1 ⟨7, t, v⟩ (by simp))
      have hrt := stepsC_right h1 ⟨7, t, v⟩ (by simp)
      simp only [stepsC] at h1
      by_cases hx : (chkStep rightM c ⟨7, t, v⟩).1 = 0
      rotate_left
      · rw [if_neg hx] at h1; exact nomatch h1
      rw [if_pos hx, stepsC_append] at h1
      have hc2 : ∃ o2, (chkStep rightM c ⟨7, t, v⟩).2.opens = ⟨7, false, false, false, []⟩ :: o2 :: r ∧ o2.kind = 5 := by
        unfold chkStep at hx ⊢
        rw [if_neg (by rw [hrt]; simp), if_neg (show ¬ k1234 7 = true by decide), if_pos (show k57a 7 = true from rfl)] at hx ⊢
        by_cases hv : (!chkValue c ⟨7, t, v⟩) = true
        · rw [if_pos hv] at hx; simp at hx
        rw [if_neg hv] at hx ⊢
        by_cases h6 : c.opens.length ≥ 6
        · rw [if_pos h6] at hx; simp at hx
        rw [if_neg h6]
        simp only [chkOpen, chkStands, hc]
        exact ⟨_, rfl, hk⟩
      obtain ⟨o2, hc2, hk2⟩ := hc2
      cases h3 : stepsC rightM (chkStep rightM c ⟨7, t, v⟩).2 (evsL kids) with
      | none => rw [h3] at h1; exact nomatch h1
      | some c3 =>
        rw [h3] at h1
        simp only [Option.bind_some] at h1
        obtain ⟨o3, g1, g2, g3, g4, g5, g6, g7⟩ := fields_law kids _ c3 ⟨7, false, false, false, []⟩ (o2 :: r) hc2 rfl rfl (by simp) (fun f hf v hv => of_decide_eq_true (hvs f hf v hv)) h3
        simp only [stepsC] at h1
        by_cases hx9 : (chkStep rightM c3 (ev0 9)).1 = 0
        rotate_left
        · rw [if_neg hx9] at h1; exact nomatch h1
        rw [if_pos hx9, Option.some.injEq] at h1
        have hc4 : c1.opens = o2 :: r := by
          rw [← h1]
          unfold chkStep at hx9 ⊢
          by_cases hr9 : (!rightM (ev0 9)) = true
          · rw [if_pos hr9] at hx9; simp at hx9
          rw [if_neg hr9, if_neg (show ¬ k1234 (ev0 9).kind = true by decide), if_neg (show ¬ k57a (ev0 9).kind = true by decide), g1]
          simp only
          rw [if_neg (show ¬ ((ev0 9).kind == 8) = true by decide), if_neg (show ¬ ((ev0 9).kind == 11) = true by decide), if_neg (by rw [g2, g3]; decide)]
        obtain ⟨hO, hE, hrest⟩ := rows_law h ks c1 c' o2 r hc4 hk2 (fun k hk => hl k (List.mem_cons_of_mem _ hk)) hs
        refine ⟨hO, ?_, ?_⟩
        · rw [evsL, hev, hE, ht, hv, g6, (show kids.map Nd.text = h from hkeys)]
          simp [rowE, rowOf, Nd.kids, ev0]
        · intro k hk
          rcases List.mem_cons.1 hk with rfl | hk
          · have g8 : ([] ++ kids.map Nd.text).Nodup := g4 ▸ g5
            exact ⟨g8, g7⟩
          · exact hrest k hk
/-- a tree that the checker takes and that delim can tell: its table -/
theorem tree_law (n : Nd) (hw : walkM rightM n = 0) (hl : lookM n = true) :
    evs n = tableE (n.kids.map rowOf) ((headOf n).map fun s => s.data.toList) ∧ (n.kids.map rowOf ≠ [] → (headOf n).map (fun s => s.data.toList) ≠ [] ∧ ((headOf n).map fun s => s.data.toList).length ≤ 8 ∧ ((headOf n).map fun s => s.data.toList).Nodup ∧
      ∀ s ∈ (headOf n).map (fun s => s.data.toList), s.length ≤ 48 ∧ okS s) ∧ ∀ ts ∈ n.kids.map rowOf, ts.length = ((headOf n).map fun s => s.data.toList).length ∧ ∀ s ∈ ts, s.length ≤ 48 ∧ okS s := by
  unfold walkM at hw
  by_cases h1 : (stepsE rightM chk0 (evs n)).1 = 0
  rotate_left
  · rw [if_pos h1] at hw; exact absurd hw h1
  have hs := stepsE_ok h1
  simp only [lookM, Bool.and_eq_true, List.all_eq_true] at hl
  obtain ⟨hk, hrows⟩ := hl
  have hk := of_decide_eq_true hk
  generalize (stepsE rightM chk0 (evs n)).2 = c' at hs
  generalize hh : headOf n = h at hrows ⊢
  obtain ⟨kd, t, v, p, g, of_, cp, kids⟩ := n
  have hk : kd = 5 := hk
  have hrows : ∀ k ∈ kids, rowLook h k = true := hrows
  subst hk
  have hev : evs (.mk 5 t v p g of_ cp kids) = ⟨5, t, v⟩ :: (evsL kids ++ [ev0 6]) := by
    rw [evs, if_neg (by simp [oddK, leafK, endK])]; rfl
  rw [hev] at hs
  have hrt := stepsC_right hs ⟨5, t, v⟩ (by simp)
  obtain ⟨ht, hv⟩ := right5 (.inl rfl) hrt
  simp only [stepsC] at hs
  by_cases hx : (chkStep rightM chk0 ⟨5, t, v⟩).1 = 0
  rotate_left
  · rw [if_neg hx] at hs; exact nomatch hs
  rw [if_pos hx, stepsC_append] at hs
  have hc : (chkStep rightM chk0 ⟨5, t, v⟩).2.opens = [⟨5, false, false, false, []⟩] := by
    unfold chkStep
    rw [if_neg (by rw [hrt]; simp), if_neg (show ¬ k1234 5 = true by decide), if_pos (show k57a 5 = true from rfl), if_neg (by simp [chkValue, chk0]), if_neg (by simp [chk0])]
    rfl
  cases h3 : stepsC rightM (chkStep rightM chk0 ⟨5, t, v⟩).2 (evsL kids) with
  | none => rw [h3] at hs; exact nomatch hs
  | some c3 =>
    obtain ⟨_, hE, hR⟩ := rows_law h kids _ c3 _ [] hc rfl hrows h3
    have hmap : (h.map fun s => s.data.toList).map bytesOf = h := by
      rw [List.map_map]
      refine (List.map_congr_left fun s _ => bytesOf_toList s).trans (List.map_id _)
    have hkey : ∀ k ∈ kids, k.kids.map Nd.text = h ∧ k.kids ≠ [] ∧ k.kids.length ≤ 8 := by
      intro k hk
      have := hrows k hk
      simp only [rowLook, Bool.and_eq_true] at this
      have h2 := of_decide_eq_true this.2.1
      exact ⟨of_decide_eq_true this.2.2.1, h2.1, h2.2⟩
    refine ⟨?_, ?_, ?_⟩
    · rw [hev, hE, ht, hv]
      unfold tableE
      rw [hmap]
      rfl
    · intro hne
      cases kids with
      | nil => exact absurd rfl hne
      | cons k ks =>
        obtain ⟨e1, e2, e3⟩ := hkey k (by simp)
        obtain ⟨e4, e5⟩ := hR k (by simp)
        rw [← e1]
        refine ⟨by simpa using e2, by simpa using e3, ?_, ?_⟩
        · rw [List.nodup_iff_pairwise_ne] at e4 ⊢
          refine List.pairwise_map.2 (e4.imp fun hne e => hne ?_)
          rename_i a b
          rw [← bytesOf_toList a, ← bytesOf_toList b, e]
        · intro s hs
          simp only [List.map_map, List.mem_map, Function.comp] at hs
          obtain ⟨f, hf, rfl⟩ := hs
          exact (e5 f hf).1
    · intro ts hts
      obtain ⟨k, hk, rfl⟩ := List.mem_map.1 hts
      obtain ⟨e1, e2, e3⟩ := hkey k hk
      refine ⟨by rw [← e1]; simp [rowOf], ?_⟩
      intro s hs
      obtain ⟨f, hf, rfl⟩ := List.mem_map.1 hs
      exact ((hR k hk).2 f hf).2.1
end Hx
/- Plain laws of what inkdelim calls: Join, ReplaceAll, ContainsFunc. -/
namespace Hx
open Go Sx Go.Proofs
set_option maxRecDepth 100000
set_option maxHeartbeats 4000000
set_option linter.unusedVariables false
set_option linter.unusedSimpArgs false
variable {GOk : Gl → Prop}
theorem join_joinC : ∀ l : List (List UInt8), Lib.join l [44] = joinC l
  | [] => rfl
  | [a] => by simp [Lib.join, joinC, List.intercalate]
  | a :: b :: r => by
    have ih := join_joinC (b :: r)
    simp only [Lib.join, List.intercalate] at ih ⊢
    rw [joinC, ← ih]
    simp [List.intersperse]
theorem replaceK_dbl : ∀ (s : List UInt8) (k : Nat), k = s.count 34 → Lib.replaceK [34] [34, 34] k s = dbl s
  | [], k, h => by
    simp at h; subst h; rfl
  | b :: r, k, h => by
    by_cases hb : b = 34
    · subst hb
      rw [List.count_cons_self] at h
      subst h
      have hi : Lib.index (34 :: r) [34] = ((0 : Nat) : Int) := by unfold Lib.index; simp [List.isPrefixOf]
      rw [Lib.replaceK_hit _ _ _ _ 0 hi]
      simp only [List.take_zero, List.nil_append, Nat.zero_add, List.length_cons, List.length_nil, List.drop_succ_cons, List.drop_zero]
      rw [replaceK_dbl r _ rfl]
      simp [dbl]
    · have hc : (b :: r).count 34 = r.count 34 := List.count_cons_of_ne hb
      rw [hc] at h
      have ih := replaceK_dbl r k h
      have hd : dbl (b :: r) = b :: dbl r := by simp [dbl, hb]
      rw [hd, ← ih]
      cases k with
      | zero => rfl
      | succ k =>
        obtain ⟨i, hi⟩ := Lib.index_of_count (s := r) (old := [34]) (by rw [Lib.count_one]; omega)
        have hi2 : Lib.index (b :: r) [34] = ((i + 1 : Nat) : Int) := by
          unfold Lib.index
          have h1 : ¬ ([34] : List UInt8).isPrefixOf (b :: r) = true := by simp [List.isPrefixOf]; exact fun e => hb e.symm
          rw [if_neg h1, hi]
          have h2 : ¬ (((i : Int) == -1) = true) := fun e => by have := beq_iff_eq.1 e; omega
          rw [if_neg h2]; push_cast; rfl
        rw [Lib.replaceK_hit _ _ _ _ i hi, Lib.replaceK_hit _ _ _ _ (i + 1) hi2]
        simp
theorem replaceAll_dbl (s : List UInt8) : Lib.replaceAll s [34] [34, 34] = dbl s := by
  unfold Lib.replaceAll Lib.replace
  rw [if_neg (by decide)]
  refine replaceK_dbl s _ ?_
  unfold Lib.replaceNum
  rw [if_pos (.inl (by decide)), Lib.count_one]
theorem decode_bytes (s : ByteArray) (pos : Nat) (ha : 128 ≤ (s.get! pos).toNat) (j : Nat) (hj : j < (Utf8.decode s pos).2) : 128 ≤ (s.get! (pos + j)).toNat := by
  have hcont : ∀ k, (decide (pos + k < s.size) && (s.get! (pos + k)).toNat / 64 == 2) = true → 128 ≤ (s.get! (pos + k)).toNat := fun k h => by
    simp only [Bool.and_eq_true, beq_iff_eq] at h; omega
  have hbase : 128 ≤ (s.get! (pos + 0)).toNat := ha
  unfold Utf8.decode at hj
  simp only at hj
  rw [if_neg (by omega)] at hj
  by_cases c1 : ((s.get! (pos + 0)).toNat / 32 == 6 && (decide (pos + 1 < s.size) && (s.get! (pos + 1)).toNat / 64 == 2)) = true
  · rw [if_pos c1] at hj
    simp only [Bool.and_eq_true] at c1
    have e1 := hcont 1 (by simp only [Bool.and_eq_true]; exact c1.2)
    have : j < 2 := by
      revert hj; split <;> intro hj <;> simp at hj <;> omega
    rcases (show j = 0 ∨ j = 1 by omega) with rfl | rfl
    · exact hbase
    · exact e1
  rw [if_neg c1] at hj
  by_cases c2 : ((s.get! (pos + 0)).toNat / 16 == 14 && (decide (pos + 1 < s.size) && (s.get! (pos + 1)).toNat / 64 == 2) && (decide (pos + 2 < s.size) && (s.get! (pos + 2)).toNat / 64 == 2)) = true
  · rw [if_pos c2] at hj
    simp only [Bool.and_eq_true] at c2
    have e1 := hcont 1 (by simp only [Bool.and_eq_true]; exact c2.1.2)
    have e2 := hcont 2 (by simp only [Bool.and_eq_true]; exact c2.2)
    have : j < 3 := by
      revert hj; split <;> intro hj <;> simp at hj <;> omega
    rcases (show j = 0 ∨ j = 1 ∨ j = 2 by omega) with rfl | rfl | rfl
    · exact hbase
    · exact e1
    · exact e2
  rw [if_neg c2] at hj
  by_cases c3 : ((s.get! (pos + 0)).toNat / 8 == 30 && (decide (pos + 1 < s.size) && (s.get! (pos + 1)).toNat / 64 == 2) && (decide (pos + 2 < s.size) && (s.get! (pos + 2)).toNat / 64 == 2) && (decide (pos + 3 < s.size) && (s.get! (pos + 3)).toNat / 64 == 2)) = true
  · rw [if_pos c3] at hj
    simp only [Bool.and_eq_true] at c3
    have e1 := hcont 1 (by simp only [Bool.and_eq_true]; exact c3.1.1.2)
    have e2 := hcont 2 (by simp only [Bool.and_eq_true]; exact c3.1.2)
    have e3 := hcont 3 (by simp only [Bool.and_eq_true]; exact c3.2)
    have : j < 4 := by
      revert hj; split <;> intro hj <;> simp at hj <;> omega
    rcases (show j = 0 ∨ j = 1 ∨ j = 2 ∨ j = 3 by omega) with rfl | rfl | rfl | rfl
    · exact hbase
    · exact e1
    · exact e2
    · exact e3
  rw [if_neg c3] at hj
  have : j < 1 := hj
  rw [show j = 0 by omega]; exact hbase
end Hx
/- few: how many nodes a tree has; how long a printed table is. -/
namespace Hx
open Go Sx Go.Proofs
set_option maxRecDepth 100000
set_option maxHeartbeats 4000000
set_option linter.unusedVariables false
set_option linter.unusedSimpArgs false
variable {GOk : Gl → Prop}
/-- ref06.Few, at deep = fuel - 1 -/
def fewM : Nat → Nd → Int → Int
  | 0, _, _ => -1
  | d + 1, n, left => n.kids.foldl (fun l k => if l < 0 then l else fewM d k l) (left - 1)
theorem foldl_le {f : Int → Nd → Int} (hf : ∀ l k, 0 ≤ l → f l k ≤ l - 1) (hn : ∀ l k, l < 0 → f l k = l) : ∀ (ks : List Nd) (l : Int), ks.foldl f l ≤ l ∧ (0 ≤ ks.foldl f l → ks.foldl f l ≤ l - ks.length)
  | [], l => by simp
  | k :: ks, l => by
    have ih := foldl_le hf hn ks (f l k)
    simp only [List.foldl_cons, List.length_cons]
    rcases Int.lt_or_le l 0 with h | h
    · rw [hn l k h] at ih ⊢
      refine ⟨ih.1, fun h0 => ?_⟩
      omega
    · have := hf l k h
      refine ⟨by omega, fun h0 => ?_⟩
      have := ih.2 h0
      omega
theorem fewM_le : ∀ (d : Nat) (n : Nd) (left : Int), 0 ≤ left → fewM d n left ≤ left - 1
  | 0, _, left, h => by unfold fewM; omega
  | d + 1, n, left, h => by
    unfold fewM
    exact (foldl_le (fun l k hl => by rw [if_neg (by omega)]; exact fewM_le d k l hl) (fun l k hl => by rw [if_pos hl]) n.kids (left - 1)).1
theorem few_kids {d : Nat} {n : Nd} {left : Int} (h : 0 ≤ fewM (d + 1) n left) : (n.kids.length : Int) ≤ left - 1 := by
  unfold fewM at h
  have := (foldl_le (fun l k hl => by rw [if_neg (by omega)]; exact fewM_le d k l hl) (fun l k hl => by rw [if_pos hl]) n.kids (left - 1)).2 h
  omega
theorem dbl_len : ∀ l : List UInt8, (dbl l).length ≤ 2 * l.length
  | [] => by simp [dbl]
  | b :: r => by
    have := dbl_len r
    unfold dbl
    split <;> simp <;> omega
theorem cellP_len {l : List UInt8} (h : l.length ≤ 48) : (cellP l).length ≤ 98 := by
  have := dbl_len l
  unfold cellP
  split
  · simp; omega
  · omega
theorem joinC_len : ∀ l : List (List UInt8), (∀ s ∈ l, s.length ≤ 98) → (joinC l).length ≤ 99 * l.length
  | [], _ => by simp [joinC]
  | [a], h => by have := h a (by simp); simp [joinC]; omega
  | a :: b :: r, h => by
    have h1 := h a (by simp)
    have h2 := joinC_len (b :: r) fun s hs => h s (List.mem_cons_of_mem _ hs)
    simp only [joinC, List.length_append, List.length_cons] at h2 ⊢
    omega
theorem lineP_len {l : List (List UInt8)} (h : ∀ s ∈ l, s.length ≤ 48) (h8 : l.length ≤ 8) : (lineP l).length ≤ 800 := by
  have := joinC_len (l.map cellP) (fun s hs => by obtain ⟨t, ht, rfl⟩ := List.mem_map.1 hs; exact cellP_len (h t ht))
  unfold lineP
  simp only [List.length_append, List.length_map, List.length_cons, List.length_nil] at this ⊢
  omega
theorem tableP_len {rows : List (List (List UInt8))} {hs : List (List UInt8)} (h : rows ≠ [] → hs ≠ [] ∧ hs.length ≤ 8 ∧ hs.Nodup ∧ (∀ s ∈ hs, s.length ≤ 48 ∧ okS s)) (hr : ∀ ts ∈ rows, ts.length = hs.length ∧ ∀ s ∈ ts, s.length ≤ 48 ∧ okS s)
    (hn : rows.length ≤ 200) : (tableP rows hs).length ≤ 1000000 := by
  unfold tableP
  split
  · simp
  · rename_i hne
    obtain ⟨_, h8, _, h4⟩ := h hne
    have h5 := lineP_len (fun s hs' => (h4 s hs').1) h8
    have h6 : ∀ l : List (List (List UInt8)), (∀ ts ∈ l, ts.length = hs.length ∧ ∀ s ∈ ts, s.length ≤ 48 ∧ okS s) → (l.flatMap lineP).length ≤ 800 * l.length := by
      intro l
      induction l with
      | nil => intro _; simp
      | cons a l ih =>
        intro hl
        have h7 := ih fun ts ht => hl ts (by simp [ht])
        have h8' := hl a (by simp)
        have h9 := lineP_len (fun s hs' => (h8'.2 s hs').1) (by rw [h8'.1]; exact h8)
        simp only [List.flatMap_cons, List.length_append, List.length_cons]
        omega
    have := h6 rows hr
    simp only [List.length_append]
    omega
/-- THE PLAIN LAW: a tree that the checker takes and delim can tell is read as its events -/
theorem inkdelim_law (n : Nd) (hf : 0 ≤ fewM 21 n 200) (hw : walkM rightM n = 0) (hl : lookM n = true) :
    ∃ m sc, allG dlmStep dlmEnd (fun _ => none) (tableP (n.kids.map rowOf) ((headOf n).map fun s => s.data.toList)) ⟨dlm0, core0⟩ = some ⟨m, ⟨sc, evs n, (tableP (n.kids.map rowOf) ((headOf n).map fun s => s.data.toList)).length, true, true, 0, false⟩⟩ := by
  obtain ⟨h1, h2, h3⟩ := tree_law n hw hl
  have hk := few_kids hf
  have hrl : (n.kids.map rowOf).length ≤ 200 := by rw [List.length_map]; omega
  rw [h1]
  exact dlm_all _ _ h2 h3 (by omega) (tableP_len h2 h3 hrl)
end Hx
/- ref05.Right, where the kinds are a table's: what the checker takes the document takes. -/
namespace Hx
open Go Sx Go.Proofs
set_option maxRecDepth 100000
set_option maxHeartbeats 4000000
set_option linter.unusedVariables false
set_option linter.unusedSimpArgs false
variable {GOk : Gl → Prop}
/-- hexaplaref05.Right at the kinds 1, 4 to 9 and 12 (at 2, 3, 10, 11 this is no claim) -/
def refRight (x : Ev) : Bool :=
  if x.kind = 4 ∨ x.kind = 8 then decide (x.val = ⟨#[]⟩) && (runesR x.text.size x.text.data.toList && decide (x.text.size ≤ 48)) else rightM x
theorem right_ref (x : Ev) (h : rightM x = true) : refRight x = true := by
  unfold refRight
  by_cases hk : x.kind = 4 ∨ x.kind = 8
  · rw [if_pos hk]
    obtain ⟨k, t, v⟩ := x
    obtain ⟨h1, h2⟩ := right8 hk h
    simp only [mayT, Bool.and_eq_true, decide_eq_true_eq] at h2
    simp only [Bool.and_eq_true, decide_eq_true_eq]
    exact ⟨h1, runes_valid _ _ (by rw [Array.length_toList]; exact Nat.le_refl _) h2.1, h2.2⟩
  · rw [if_neg hk]; exact h
/-- the document's walk of such a tree -/
theorem inkdelim_ref (n : Nd) (hw : walkM rightM n = 0) : refGoes refRight n [] = (evs n, 0) ∧ refWhole refRight (evs n) = 0 := walk_law right_ref rightM0 n hw
end Hx
/- ref06.Few: the walk. -/
namespace Hx
open Go Sx Go.Proofs
set_option maxRecDepth 100000
set_option maxHeartbeats 4000000
set_option linter.unusedVariables false
set_option linter.unusedSimpArgs false
variable {GOk : Gl → Prop}
def fewF (d : Nat) (l : Int) (k : Nd) : Int := if l < 0 then l else fewM d k l
theorem fewF_le (d : Nat) (l : Int) (k : Nd) (h : 0 ≤ l) : fewF d l k ≤ l - 1 := by unfold fewF; rw [if_neg (by omega)]; exact fewM_le d k l h
theorem fold_ge {f : Int → Nd → Int} (hf : ∀ l k, -1 ≤ l → -1 ≤ f l k) : ∀ (ks : List Nd) (l : Int), -1 ≤ l → -1 ≤ ks.foldl f l
  | [], l, h => h
  | k :: ks, l, h => fold_ge hf ks _ (hf l k h)
theorem fewM_ge : ∀ (d : Nat) (n : Nd) (left : Int), 0 ≤ left → -1 ≤ fewM d n left
  | 0, _, left, h => by unfold fewM; omega
  | d + 1, n, left, h => by
    unfold fewM
    refine fold_ge (fun l k hl => ?_) n.kids (left - 1) (by omega)
    split
    · exact hl
    · exact fewM_ge d k l (by omega)
theorem few_neg (d : Nat) : ∀ (ks : List Nd) (l : Int), l < 0 → ks.foldl (fewF d) l = l
  | [], l, _ => rfl
  | k :: ks, l, h => by
    have : fewF d l k = l := by unfold fewF; rw [if_pos h]
    rw [List.foldl_cons, this]
    exact few_neg d ks l h
theorem few_spec : ∀ (d : Nat) (hd : d ≤ 30) (kind : Int) (text val : ByteArray) (p : Bool) (g off cap len : Nat) (kids : List Nd) (hlen : kids.length = len) (hO : OldN GOk (.mk kind text val p g off cap kids)) (left deep : Int) (hdp : deep = d - 1) (hl : 0 ≤ left ∧ left ≤ 1000),
    Triple (BB Ip GOk) 10 0 0 [.agg [.int .i64 kind, .str text, .str val, .gsl p g off 4 len cap], .int .i64 left, .int .i64 deep] [] (fun K => ∀ r, r = fewM d (.mk kind text val p g off cap kids) left → K (.ret (.int .i64 r)) [])
  | d, hd, kind, text, val, p, g, off, cap, len, kids, hlen, hO, left, deep, hdp, hl => by
    refine triple_of BB_ok (tb := ty) rfl (n0 := 0) (fun _ : Unit => _) pl10 Tryz.call10 Tryz.func10 rfl (by kernel_rfl) (Nat.le_of_ble_eq_true rfl) (by decide) rfl pre_none ?_
    rintro G hG K hK W bi bc bs bk bu bb bo bg bl bp bn be Ncond Nob Nop Nloop Nscope hN Nfin hf _ _
    cbv
    refine cond_ hN (fun h => ?_) (fun h => ?_)
    · rw [clt hN] at h
      simp only [decide_eq_true_eq, decide_eq_false_iff_not, Int.ofNat_eq_natCast, gt_iff_lt, ge_iff_le, Bool.not_eq_true', Bool.not_eq_false', Int.not_lt, Int.not_le] at h
      cbv
      refine hf _ _ (fin_ [] rfl rfl (hK _ ?_))
      cases d with
      | zero => rfl
      | succ d => exfalso; simp at hdp; omega
    · rw [clt hN] at h
      simp only [decide_eq_true_eq, decide_eq_false_iff_not, Int.ofNat_eq_natCast, gt_iff_lt, ge_iff_le, Bool.not_eq_true', Bool.not_eq_false', Int.not_lt, Int.not_le] at h
      obtain ⟨d, rfl⟩ : ∃ e, d = e + 1 := Nat.exists_eq_succ_of_ne_zero (by rintro rfl; simp at hdp; omega)
      have hdd : deep = (d : Int) := by rw [hdp]; simp
      have hd0 : 0 ≤ deep ∧ deep ≤ 30 := by omega
      have hlenb : len ≤ 9223372036854775807 := by have := hO.len hG; simp only [Nd.kids] at this; omega
      have hfin : fewM (d + 1) (.mk kind text val p g off cap kids) left = kids.foldl (fewF d) (left - 1) := rfl
      rw [hfin] at hK
      have hsub : bi .sub .i64 left 1 = left - 1 := isub hN (a := left) (b := 1) (by omega) (by omega)
      cbv
      simp only [hsub]
      obtain ⟨l1, hl1⟩ : ∃ l1 : Int, left - 1 = l1 := ⟨_, rfl⟩
      simp only [hl1] at hK ⊢
      refine loopN_ hN (loop_ hN ty_ok mixed (ι := Nat × Int) (fun y => ⟨[(1, .int .i64 y.2), (2, .int .i64 deep), (3, .ptr 0 0), (7, .int .i64 (Int.ofNat y.1))],
        [.cells 0 24 [.int .i64 kind, .str text, .str val, .gsl p g off 4 len cap]], 1⟩)
        (fun y => y.1 ≤ len ∧ (kids.drop y.1).foldl (fewF d) y.2 = kids.foldl (fewF d) l1 ∧ -1 ≤ y.2 ∧ y.2 ≤ 1000) (fun y => len - y.1) ?_ ?_)
      · exact Leads.idx (0, l1) [0] ⟨Nat.zero_le _, rfl, by omega, by omega⟩ ⟨⟨rfl, rfl, rfl, rfl, trivial⟩, rfl, Nat.le_of_ble_eq_true rfl⟩
      rintro ⟨i, l⟩ ⟨hi, hgo, hl2, hl3⟩ Nnext hn _
      simp only at hi hgo hl2 hl3
      cbv
      refine cond_ hN (fun h => ?_) (fun h => ?_)
      · rw [clt hN] at h
        simp only [decide_eq_true_eq, decide_eq_false_iff_not, Int.ofNat_eq_natCast, gt_iff_lt, ge_iff_le, Bool.not_eq_true', Bool.not_eq_false', Int.not_lt, Int.not_le] at h
        have hilt : i < len := by omega
        have hpt : p = true := by
          have := hO.p hG (i := i) (by simp only [Nd.kids]; omega)
          exact this
        have hkid : ∃ k, kids[i]? = some k := ⟨kids[i]'(by omega), List.getElem?_eq_getElem (by omega)⟩
        obtain ⟨k, hk⟩ := hkid
        have hdrop : kids.drop i = k :: kids.drop (i + 1) := by
          have hlt : i < kids.length := by omega
          rw [List.getElem?_eq_getElem hlt] at hk
          rw [List.drop_eq_getElem_cons hlt]
          simp only [Option.some.injEq] at hk
          rw [hk]
        obtain ⟨kk, kt, kv, kp, kg, ko, kc, kks⟩ := k
        obtain ⟨klen, hkl⟩ : ∃ x, kks.length = x := ⟨_, rfl⟩
        have hsv : Nd.sv (.mk kk kt kv kp kg ko kc kks) = .agg [.int .i64 kk, .str kt, .str kv, .gsl kp kg ko 4 klen kc] := by simp [Nd.sv, Nd.row, Nd.sl, Nd.kind, Nd.text, Nd.val, Nd.p, Nd.g, Nd.off, Nd.kids, Nd.cap, hkl]
        have hp0 : bp 0 (Int.ofNat i) = i := plus0 hN i
        have hsub2 : bi .sub .i64 deep 1 = deep - 1 := isub hN (a := deep) (b := 1) (by have := hd0.1; omega) (by have := hd0.2; omega)
        cbv
        refine cond_ hN (fun h2 => ?_) (fun h2 => ?_)
        · rw [cge hN] at h2
          simp only [decide_eq_true_eq, decide_eq_false_iff_not, Int.ofNat_eq_natCast, gt_iff_lt, ge_iff_le, Bool.not_eq_true', Bool.not_eq_false', Int.not_lt, Int.not_le] at h2
          have h2 : 0 ≤ l := h2
          cbv
          refine ob_ hN ⟨⟨by simp, by simpa using hilt⟩, hpt, trivial⟩ ?_
          cbv
          simp only [hp0, hsub2]
          refine op_ hN (load_kid ty_ok hG hO hk rfl rfl rfl rfl rfl ?_)
          rw [hsv]
          cbv
          simp only [hsub2]
          refine op_ hN (call_ (few_spec d (by omega) kk kt kv kp kg ko kc klen kks hkl (hO.kid hk) l (deep - 1) (by omega) ⟨h2, hl3⟩) hG [] rfl rfl rfl rfl rfl ?_)
          intro r hr
          have hstep : fewF d l (.mk kk kt kv kp kg ko kc kks) = r := by unfold fewF; rw [if_neg (by omega), hr]
          rw [hdrop, List.foldl_cons, hstep] at hgo
          have hr1 := fewM_le d (.mk kk kt kv kp kg ko kc kks) l h2
          have hr2 := fewM_ge d (.mk kk kt kv kp kg ko kc kks) l h2
          rw [← hr] at hr1 hr2
          have hnx : bi .add .i64 (Int.ofNat i) 1 = Int.ofNat (i + 1) := inext hN (by omega)
          cbv
          simp only [hnx]
          exact hn _ (Leads.nxt (i + 1, r) [0] ⟨hilt, hgo, hr2, by omega⟩ (by simp only; omega) ⟨⟨rfl, rfl, rfl, rfl, trivial⟩, rfl, Nat.le_of_ble_eq_true rfl⟩)
        · rw [cge hN] at h2
          simp only [decide_eq_true_eq, decide_eq_false_iff_not, Int.ofNat_eq_natCast, gt_iff_lt, ge_iff_le, Bool.not_eq_true', Bool.not_eq_false', Int.not_lt, Int.not_le] at h2
          have h2 : l < 0 := h2
          rw [few_neg d _ l h2] at hgo
          cbv
          exact hf _ _ (fin_ [] rfl rfl (hK _ hgo))
      · rw [clt hN] at h
        simp only [decide_eq_true_eq, decide_eq_false_iff_not, Int.ofNat_eq_natCast, gt_iff_lt, ge_iff_le, Bool.not_eq_true', Bool.not_eq_false', Int.not_lt, Int.not_le] at h
        have hie : kids.drop i = [] := List.drop_eq_nil_of_le (by omega)
        rw [hie] at hgo
        cbv
        exact hf _ _ (fin_ [] rfl rfl (hK _ hgo))
  termination_by d => d
end Hx
/- Going backward over a list: what comes, in which order. -/
namespace Hx
open Go Sx Go.Proofs
set_option maxRecDepth 100000
set_option maxHeartbeats 4000000
set_option linter.unusedVariables false
set_option linter.unusedSimpArgs false
variable {GOk : Gl → Prop}
/-- the elements from the last on, each with its index -/
def revI {α : Type} (l : List α) : List (Nat × α) := (l.zipIdx.map fun x => (x.2, x.1)).reverse
theorem revI_len {α : Type} (l : List α) : (revI l).length = l.length := by simp [revI]
theorem revI_get {α : Type} {l : List α} {j : Nat} (h : j < l.length) : (revI l)[j]? = some (l.length - 1 - j, l[l.length - 1 - j]'(by omega)) := by
  unfold revI
  rw [List.getElem?_reverse (by simpa using h)]
  simp only [List.length_map, List.length_zipIdx, List.getElem?_map]
  rw [List.getElem?_eq_getElem (by simp; omega)]
  simp
theorem revI_snd {α : Type} (l : List α) : (revI l).map (·.2) = l.reverse := by
  unfold revI
  rw [List.map_reverse, List.map_map]
  congr 1
  have : ((fun x : Nat × α => x.2) ∘ fun x : α × Nat => (x.2, x.1)) = fun x : α × Nat => x.1 := rfl
  rw [this, List.zipIdx_map_fst]
/-- states that the rounds lead to -/
def Reach {σT αT : Type} (go : σT → αT → σT → Prop) : List αT → σT → σT → Prop
  | [], a, b => a = b
  | x :: r, a, b => ∃ c, go a x c ∧ Reach go r c b
theorem Reach.snoc {σT αT : Type} {go : σT → αT → σT → Prop} {x : αT} {b c : σT} : ∀ {l : List αT} {a : σT}, Reach go l a b → go b x c → Reach go (l ++ [x]) a c
  | [], a, h, g => by simp only [Reach] at h; subst h; exact ⟨c, g, rfl⟩
  | y :: r, a, ⟨d, h1, h2⟩, g => ⟨d, h1, Reach.snoc h2 g⟩
end Hx
/- tree.odd, ends, goes: the walks. -/
namespace Hx
open Go Sx Go.Proofs
set_option maxRecDepth 100000
set_option maxHeartbeats 4000000
set_option linter.unusedVariables false
set_option linter.unusedSimpArgs false
variable {GOk : Gl → Prop}
theorem tends_spec (k : Int) : Triple (BB Ip GOk) 112 0 0 [.int .i64 k] [] (fun K => ∀ r, r = endK k → K (.ret (.int .i64 r)) []) := by
  refine triple_of BB_ok (tb := ty) rfl (n0 := 0) (fun _ : Unit => _) pl112 Tryz.call112 Tryz.func112 rfl (by kernel_rfl) (Nat.le_of_ble_eq_true rfl) (by decide) rfl pre_none ?_
  rintro G hG K hK W bi bc bs bk bu bb bo bg bl bp bn be Ncond Nob Nop Nloop Nscope hN Nfin hf _ _
  cbv
  refine cond_ hN ?_ ?_ <;> intro h1 <;> rw [ceq hN] at h1
  · have h1 : k = 5 := by simpa using h1
    cbv
    exact hf _ _ (fin_ [] rfl rfl (hK 6 (by rw [h1]; rfl)))
  have h1 : ¬ k = 5 := by simpa using h1
  cbv
  refine cond_ hN ?_ ?_ <;> intro h2 <;> rw [ceq hN] at h2
  · have h2 : k = 7 := by simpa using h2
    cbv
    exact hf _ _ (fin_ [] rfl rfl (hK 9 (by rw [h2]; rfl)))
  have h2 : ¬ k = 7 := by simpa using h2
  cbv
  refine cond_ hN ?_ ?_ <;> intro h3 <;> rw [ceq hN] at h3
  · have h3 : k = 10 := by simpa using h3
    cbv
    exact hf _ _ (fin_ [] rfl rfl (hK 12 (by rw [h3]; rfl)))
  have h3 : ¬ k = 10 := by simpa using h3
  cbv
  exact hf _ _ (fin_ [] rfl rfl (hK 0 (by unfold endK; rw [if_neg h1, if_neg h2, if_neg h3])))
theorem todd_spec (k : Int) (text val : ByteArray) (p : Bool) (g off cap len : Nat) (hlenb : len ≤ 9223372036854775807) : Triple (BB Ip GOk) 111 0 0 [.agg [.int .i64 k, .str text, .str val, .gsl p g off 4 len cap]] [] (fun K => ∀ b, b = oddK k len → K (.ret (.bool b)) []) := by
  refine triple_of BB_ok (tb := ty) rfl (n0 := 0) (fun _ : Unit => _) pl111 Tryz.call111 Tryz.func111 rfl (by kernel_rfl) (Nat.le_of_ble_eq_true rfl) (by decide) rfl pre_none ?_
  rintro G hG K hK W bi bc bs bk bu bb bo bg bl bp bn be Ncond Nob Nop Nloop Nscope hN Nfin hf _ _
  have hcgt : bc .gtr (Int.ofNat len) 0 = decide (0 < len) := by rw [cgt hN]; simp
  have hcne : bc .neq (Int.ofNat len) 1 = decide (len ≠ 1) := by
    rw [cne hN]
    by_cases h : len = 1
    · subst h; rfl
    · have h2 : ¬ ((len : Int) = 1) := by omega
      simp [h, h2]
  obtain ⟨b1, hb1⟩ : ∃ b, bc .gtr (Int.ofNat len) 0 = b := ⟨_, rfl⟩
  obtain ⟨b2, hb2⟩ : ∃ b, bc .neq (Int.ofNat len) 1 = b := ⟨_, rfl⟩
  have hleaf : leafK k = true → b1 = oddK k len := fun h => by unfold oddK; rw [if_pos h, ← hb1, hcgt]
  cbv
  refine cond_ hN ?_ ?_ <;> intro h1 <;> rw [ceq hN] at h1
  · have h1 : k = 1 := by simpa using h1
    cbv
    simp only [hb1]
    exact hf _ _ (fin_ [] rfl rfl (hK b1 (hleaf (by rw [h1]; rfl))))
  have h1 : ¬ k = 1 := by simpa using h1
  cbv
  refine cond_ hN ?_ ?_ <;> intro h2 <;> rw [ceq hN] at h2
  · have h2 : k = 2 := by simpa using h2
    cbv
    simp only [hb1]
    exact hf _ _ (fin_ [] rfl rfl (hK b1 (hleaf (by rw [h2]; rfl))))
  have h2 : ¬ k = 2 := by simpa using h2
  cbv
  refine cond_ hN ?_ ?_ <;> intro h3 <;> rw [ceq hN] at h3
  · have h3 : k = 3 := by simpa using h3
    cbv
    simp only [hb1]
    exact hf _ _ (fin_ [] rfl rfl (hK b1 (hleaf (by rw [h3]; rfl))))
  have h3 : ¬ k = 3 := by simpa using h3
  cbv
  refine cond_ hN ?_ ?_ <;> intro h4 <;> rw [ceq hN] at h4
  · have h4 : k = 4 := by simpa using h4
    cbv
    simp only [hb1]
    exact hf _ _ (fin_ [] rfl rfl (hK b1 (hleaf (by rw [h4]; rfl))))
  have h4 : ¬ k = 4 := by simpa using h4
  cbv
  refine cond_ hN ?_ ?_ <;> intro h5
  · have h5' : k = 11 := by rw [ceq hN] at h5; simpa using h5
    cbv
    simp only [hb1]
    exact hf _ _ (fin_ [] rfl rfl (hK b1 (hleaf (by rw [h5']; rfl))))
  have h5' : ¬ k = 11 := by rw [ceq hN] at h5; simpa using h5
  have hnl : leafK k = false := by
    unfold leafK
    simp [h1, h2, h3, h4, h5']
  cbv
  refine cond_ hN ?_ ?_ <;> intro h8 <;> rw [ceq hN] at h8
  · have h8 : k = 8 := by simpa using h8
    cbv
    simp only [hb2]
    exact hf _ _ (fin_ [] rfl rfl (hK b2 (by unfold oddK; rw [hnl, if_neg (by simp), if_pos h8, ← hb2, hcne])))
  have h8 : ¬ k = 8 := by simpa using h8
  cbv
  refine op_ hN (call_ (tends_spec k) hG [] rfl rfl rfl rfl rfl ?_)
  intro r hr
  obtain ⟨b3, hb3⟩ : ∃ b, bc .eql r 0 = b := ⟨_, rfl⟩
  cbv
  simp only [hb3]
  exact hf _ _ (fin_ [] rfl rfl (hK b3 (by unfold oddK; rw [hnl, if_neg (by simp), if_neg h8, ← hb3, ceq hN, hr])))
theorem evsL_append : ∀ (a b : List Nd), evsL (a ++ b) = evsL a ++ evsL b
  | [], b => rfl
  | n :: a, b => by rw [List.cons_append, evsL, evsL, evsL_append a b, List.append_assoc]
section
variable {G0 : Gl} {yv : Value} {σT : Type} {ok : σT → Ev → Prop} {go : σT → Ev → σT → Prop} {S : σT → HP} {D : σT → Ev → HP} {E : σT → Ev → Value → HP}
def evV (x : Ev) : List Value := SV.denL (fun _ => 0) [.agg [.int .i64 x.kind, .str x.text, .str x.val]]
theorem Reach.append {σT αT : Type} {go : σT → αT → σT → Prop} {b c : σT} {l2 : List αT} : ∀ {l : List αT} {a : σT}, Reach go l a b → Reach go l2 b c → Reach go (l ++ l2) a c
  | [], a, h, g => by simp only [Reach] at h; subst h; exact g
  | y :: r, a, ⟨d, h1, h2⟩, g => ⟨d, h1, Reach.append h2 g⟩
/-- goes over a tree: the states it may come to -/
def GoesAt (G0 : Gl) (yv : Value) (ok : σT → Ev → Prop) (go : σT → Ev → σT → Prop) (S : σT → HP) (D : σT → Ev → HP) (E : σT → Ev → Value → HP) (n : Nd) : Prop :=
  OldN (fun G' => G' = G0) n → ∀ st0, (∀ a x b st, evs n = a ++ x :: b → Reach go a st0 st → ok st x) →
  Triple (BB Ip (fun G' => G' = G0)) 86 0 0 [n.sv, .raw yv] [.own 0 (S st0)]
    (fun K => (∀ st, Reach go (evs n) st0 st → K (.ret (.bool true)) [.own 0 (S st)]) ∧ (∀ st x, ok st x → K (.ret (.bool false)) [.own 0 (D st x)]) ∧ (∀ st x v, ok st x → K (.pan (.raw v)) [.own 0 (E st x v)]))
theorem goes_step (hY : YOk (BB Ip (fun G' => G' = G0)) G0 yv evV ok go S D E) (kind : Int) (text val : ByteArray) (p : Bool) (g off cap len : Nat) (kids : List Nd) (hlen : kids.length = len) (ih : ∀ k ∈ kids, GoesAt G0 yv ok go S D E k) :
    GoesAt G0 yv ok go S D E (.mk kind text val p g off cap kids) := by
  intro hO st0 hok
  have hsv : Nd.sv (.mk kind text val p g off cap kids) = .agg [.int .i64 kind, .str text, .str val, .gsl p g off 4 len cap] := by simp [Nd.sv, Nd.row, Nd.sl, Nd.kind, Nd.text, Nd.val, Nd.p, Nd.g, Nd.off, Nd.kids, Nd.cap, hlen]
  rw [hsv]
  refine triple_iter BB_ok (tb := ty) rfl (n0 := 0) (fun _ : Unit => _) pl86 Tryz.call86 Tryz.func86 rfl (by kernel_rfl) (Nat.le_of_ble_eq_true rfl) (by decide) rfl pre_none ?_
  rintro G hG K hK W bi bc bs bk bu bb bo bg bl bp bn be Ncond Nob Nop Nloop Nscope hN Nfin hf _ _
  obtain ⟨hK1, hK2, hK3⟩ := hK
  have hlenb : len ≤ 9223372036854775807 := by have := hO.len hG; simp only [Nd.kids] at this; omega
  rw [evs, hlen] at hok hK1
  cbv
  refine op_ hN (call_ (todd_spec kind text val p g off cap len hlenb) hG [] rfl rfl rfl rfl rfl ?_)
  intro b hb
  rw [← hb] at hok hK1
  cases b with
  | true =>
    rw [if_pos rfl] at hok hK1
    have hoke := hok [] evD [] st0 rfl rfl
    cbv
    refine cond_T hN rfl ?_
    cbv
    refine op_ hN (yield_ hY st0 evD hoke 0 rfl (fun ρ => ?_) (fun st' hgo2 => ?_) ?_ (fun v => ?_) ?_)
    · rfl
    · cbv
      exact hf _ _ (fin_as (.bool true) (fun _ => rfl) (fin_ [] rfl rfl (hK1 st' ⟨st', hgo2, rfl⟩)))
    · cbv
      exact hf _ _ (fin_as (.bool false) (fun _ => rfl) (fin_ [] rfl rfl (hK2 st0 _ hoke)))
    · cbv
      exact hf _ _ (fin_ [] rfl rfl (hK3 st0 _ v hoke))
    · exact ⟨rfl, rfl, hG⟩
  | false =>
    rw [if_neg (by simp)] at hok hK1
    have hoke := hok [] ⟨kind, text, val⟩ (evsL kids ++ endE kind) st0 rfl rfl
    cbv
    refine cond_F hN rfl ?_
    cbv
    refine op_ hN (yield_ hY st0 ⟨kind, text, val⟩ hoke 0 rfl (fun ρ => ?_) (fun st1 hgo1 => ?_) ?_ (fun v => ?_) ?_)
    · rfl
    rotate_left
    · cbv
      exact hf _ _ (fin_as (.bool false) (fun _ => rfl) (fin_ [] rfl rfl (hK2 st0 _ hoke)))
    · cbv
      exact hf _ _ (fin_ [] rfl rfl (hK3 st0 _ v hoke))
    · exact ⟨rfl, rfl, hG⟩
    clear hoke
    cbv
    refine loopN_ hN (loop_ hN ty_ok mixed (ι := Nat × σT) (fun y => ⟨[(1, .raw yv), (2, .ptr 0 0), (24, .gsl p g off 4 len cap), (25, .int .i64 (Int.ofNat len)), (26, .int .i64 (Int.ofNat y.1))],
      [.cells 0 24 [.int .i64 kind, .str text, .str val, .gsl p g off 4 len cap], .own 0 (S y.2)], 1⟩)
      (fun y => y.1 ≤ len ∧ Reach go (⟨kind, text, val⟩ :: evsL (kids.take y.1)) st0 y.2) (fun y => len - y.1) ?_ ?_)
    · exact Leads.idx (0, st1) [0] ⟨Nat.zero_le _, ⟨st1, hgo1, rfl⟩⟩ ⟨⟨rfl, rfl, rfl, rfl, rfl, trivial⟩, rfl, Nat.le_of_ble_eq_true rfl⟩
    rintro ⟨i, st⟩ ⟨hi, hreach⟩ Nnext hn _
    simp only at hi hreach
    cbv
    refine cond_ hN (fun h => ?_) (fun h => ?_)
    · rw [clt hN] at h
      simp only [decide_eq_true_eq, decide_eq_false_iff_not, Int.ofNat_eq_natCast, gt_iff_lt, ge_iff_le, Bool.not_eq_true', Bool.not_eq_false', Int.not_lt, Int.not_le] at h
      have hilt : i < len := by have : (i : Int) < (len : Int) := h; omega
      have hpt : p = true := by
        have := hO.p hG (i := i) (by simp only [Nd.kids]; omega)
        exact this
      have hkid : ∃ k, kids[i]? = some k := ⟨kids[i]'(by omega), List.getElem?_eq_getElem (by omega)⟩
      obtain ⟨k, hk⟩ := hkid
      have htake : kids.take (i + 1) = kids.take i ++ [k] := by rw [List.take_add_one, hk]; rfl
      have hdrop : kids.drop i = k :: kids.drop (i + 1) := by
        have hlt : i < kids.length := by omega
        rw [List.getElem?_eq_getElem hlt] at hk
        rw [List.drop_eq_getElem_cons hlt]
        simp only [Option.some.injEq] at hk
        rw [hk]
      have hall : evsL kids = evsL (kids.take i) ++ evs k ++ evsL (kids.drop (i + 1)) := by
        have h0 : kids = kids.take i ++ kids.drop i := (List.take_append_drop i kids).symm
        rw [hdrop] at h0
        rw [congrArg evsL h0, evsL_append]
        simp only [evsL, List.append_assoc]
      have hkok : ∀ a x b st2, evs k = a ++ x :: b → Reach go a st st2 → ok st2 x := fun a x b st2 he hr2 =>
        hok (⟨kind, text, val⟩ :: (evsL (kids.take i) ++ a)) x (b ++ evsL (kids.drop (i + 1)) ++ endE kind) st2 (by rw [hall, he]; simp) (by
          have := Reach.append hreach hr2
          simpa using this)
      have hT := ih k (List.mem_of_getElem? hk) (hO.kid hk) st hkok
      have hp0 : bp 0 (Int.ofNat i) = i := plus0 hN i
      have hnx : bi .add .i64 (Int.ofNat i) 1 = Int.ofNat (i + 1) := inext hN (by omega)
      obtain ⟨kk, kt, kv, kp, kg, ko, kc, kks⟩ := k
      obtain ⟨klen, hkl⟩ : ∃ x, kks.length = x := ⟨_, rfl⟩
      have hsv : Nd.sv (.mk kk kt kv kp kg ko kc kks) = .agg [.int .i64 kk, .str kt, .str kv, .gsl kp kg ko 4 klen kc] := by simp [Nd.sv, Nd.row, Nd.sl, Nd.kind, Nd.text, Nd.val, Nd.p, Nd.g, Nd.off, Nd.kids, Nd.cap, hkl]
      cbv
      refine ob_ hN ⟨⟨by simp, by simpa using hilt⟩, hpt, trivial⟩ ?_
      cbv
      simp only [hp0]
      refine op_ hN (load_kid ty_ok hG hO hk rfl rfl rfl rfl rfl ?_)
      rw [hsv] at hT ⊢
      cbv
      refine op_ hN (call_ hT hG [] rfl rfl rfl rfl rfl ⟨fun st2 hr2 => ?_, fun st2 x hx => ?_, fun st2 x v hx => ?_⟩)
      · cbv
        refine cond_F hN rfl ?_
        cbv
        simp only [hnx]
        exact hn _ (Leads.nxt (i + 1, st2) [0] ⟨hilt, by
          have := Reach.append hreach hr2
          rw [htake, evsL_append]
          simpa [evsL] using this⟩ (by simp only; omega) ⟨⟨rfl, rfl, rfl, rfl, rfl, trivial⟩, rfl, Nat.le_of_ble_eq_true rfl⟩)
      · cbv
        refine cond_T hN rfl ?_
        cbv
        exact hf _ _ (fin_as (.bool false) (fun _ => rfl) (fin_ [] rfl rfl (hK2 st2 _ hx)))
      · cbv
        exact hf _ _ (fin_ [] rfl rfl (hK3 st2 _ v hx))
    · rw [clt hN] at h
      simp only [decide_eq_true_eq, decide_eq_false_iff_not, Int.ofNat_eq_natCast, gt_iff_lt, ge_iff_le, Bool.not_eq_true', Bool.not_eq_false', Int.not_lt, Int.not_le] at h
      have hie : i = len := by have : (len : Int) ≤ (i : Int) := h; omega
      rw [List.take_of_length_le (by omega)] at hreach
      cbv
      refine op_ hN (call_ (tends_spec kind) hG [] rfl rfl rfl rfl rfl ?_)
      intro r hr
      have hendE : endE kind = if r = 0 then [] else [ev0 r] := by unfold endE; rw [← hr]
      rw [hendE] at hok hK1
      cbv
      refine cond_ hN ?_ ?_ <;> intro h2
      · have h2' : r = 0 := by rw [ceq hN] at h2; simpa using h2
        rw [if_pos h2', List.append_nil] at hK1
        cbv
        exact hf _ _ (fin_as (.bool true) (fun _ => rfl) (fin_ [] rfl rfl (hK1 st hreach)))
      · have h2' : ¬ r = 0 := by rw [ceq hN] at h2; simpa using h2
        rw [if_neg h2'] at hK1 hok
        have hoke := hok (⟨kind, text, val⟩ :: evsL kids) (ev0 r) [] st (by simp) hreach
        cbv
        refine op_ hN (yield_ hY st (ev0 r) hoke 0 rfl (fun ρ => ?_) (fun st2 hgo2 => ?_) ?_ (fun v => ?_) ?_)
        · rfl
        · cbv
          exact hf _ _ (fin_as (.bool true) (fun _ => rfl) (fin_ [] rfl rfl (hK1 st2 (by
            have := Reach.snoc hreach hgo2
            simpa using this))))
        · cbv
          exact hf _ _ (fin_as (.bool false) (fun _ => rfl) (fin_ [] rfl rfl (hK2 st _ hoke)))
        · cbv
          exact hf _ _ (fin_ [] rfl rfl (hK3 st _ v hoke))
        · exact ⟨rfl, rfl, hG⟩
theorem goes_all (hY : YOk (BB Ip (fun G' => G' = G0)) G0 yv evV ok go S D E) : ∀ (m : Nat) (n : Nd), sizeOf n ≤ m → GoesAt G0 yv ok go S D E n
  | 0, ⟨_, _, _, _, _, _, _, _⟩, h => by simp at h
  | m + 1, ⟨kind, text, val, p, g, off, cap, kids⟩, h => goes_step hY kind text val p g off cap _ kids rfl fun k hk => goes_all hY m k (by
      have := List.sizeOf_lt_of_mem hk
      simp at h
      omega)
 end
end Hx
/- carry.look: fails, kids; the innermost looks of delim: the walks. -/
namespace Hx
open Go Sx Go.Proofs
set_option maxRecDepth 100000
set_option maxHeartbeats 4000000
set_option linter.unusedVariables false
set_option linter.unusedSimpArgs false
variable {GOk : Gl → Prop}
def noV (v : Bool × Nat × Nat × Nat × Nat) : SV := .iface 59 (.agg [slG v])
theorem clone_int_spec (q : Bool) (lo len cap : Nat) (zs l : List Int) (hv : VecOk q lo len cap zs l) (hl : l.length ≤ 1000000) : Triple (BB Ip GOk) 64 1 2 [.vec q 0 1 lo len cap] [.arr q true 0 3 encI zs]
    (fun K => ∀ p lo' len' cap' xs, VecOk p lo' len' cap' xs l → K (.ret (.vec p 1 1 lo' len' cap')) [.arr q true 0 3 encI zs, .arr p true 1 3 encI xs]) := by
  have hlen := hv.length
  have hroom := hv.room
  have hfits := hv.fits
  refine triple_of BB_ok (tb := ty) rfl (n0 := 1) (fun _ : Unit => _) pl64 Tryz.call64 Tryz.func64 rfl (by kernel_rfl) (Nat.le_of_ble_eq_true rfl) (by decide) rfl pre_none ?_
  rintro G hG K hK W bi bc bs bk bu bb bo bg bl bp bn be Ncond Nob Nop Nloop Nscope hN Nfin hf _ _
  cbv
  refine op_ hN (eq_nil_slice ty_ok rfl rfl (by kernel_rfl) ?_)
  cases q with
  | false =>
    have hl0 : l = [] := List.eq_nil_of_length_eq_zero (by have := hv.pr rfl; omega)
    cbv
    refine cond_ hN ?_ (fun h => by cases h)
    intro _
    cbv
    refine hf _ _ (fin_noArr true 50 3 encI [] (fin_as (.vec false 50 1 0 0 0) (fun _ => rfl) (fin_ [50] rfl rfl (hK false 0 0 0 [] ⟨fun _ => rfl, Nat.le_refl _, Nat.le_refl _, by rw [hl0]; rfl⟩))))
  | true =>
    cbv
    refine cond_ hN (fun h => by cases h) ?_
    intro _
    cbv
    refine op_ hN (build0_ ty_ok encI rfl rfl rfl rfl rfl ?_)
    cbv
    refine op_ hN (append_vec (new := l) (z := 0) ty_ok rfl rfl rfl rfl (fun k => by simp) rfl rfl wideI rfl rfl (src_vec wideI rfl (by omega) (fun h => nomatch h) hv.eq) (fun h => nomatch h) (Nat.le_refl _) (Nat.le_refl _) (by simp; omega) (by decide) ?_)
    intro p' lo' m' cap' xs' hm' e1 e2 e3 e4
    cbv
    exact hf _ _ (fin_ [2] rfl rfl (hK p' lo' m' cap' xs' ⟨e1, e2, e3, by rw [e4]; rfl⟩))
theorem fails_spec' (n : Nat) : Triple (BB Ip GOk) 35 1 1 [.ptr 0 0] [.abs (.lk n) [0]] (fun K => ∀ v, K (.pan (noV v)) []) := by
  refine triple_of BB_ok (tb := ty) rfl (n0 := 2) (fun y : {cs' // Tm (.lk n) cs'} => csRen (sg [0] 1) y.1 ++ []) pl35 Tryz.call35 Tryz.func35 rfl (by kernel_rfl) (Nat.le_of_ble_eq_true rfl) (by decide) rfl (pre_open rfl rfl rfl) ?_
  rintro G hG K hK W bi bc bs bk bu bb bo bg bl bp bn be Ncond Nob Nop Nloop Nscope hN Nfin hf _ ⟨cs', hT⟩
  obtain ⟨p, lo, len, cap, xs, l, hv, hl, rfl⟩ := id hT
  cbv
  refine op_ hN (call_ (clone_int_spec p lo len cap xs l hv (by omega)) hG [1] rfl rfl rfl rfl rfl ?_)
  intro p' lo' len' cap' xs' hv'
  cbv
  exact hf _ _ (fin_forgetS (fun x => .pan (.iface 59 (.agg [x]))) (fun ρ x y hxy e h => by cases e <;> simp only [OutRel, SV.den, SV.denL] at h ⊢ <;> first | exact h | (rw [← hxy]; exact h)) fun u => fin_ [] rfl rfl (hK u))
/-- what is done at each kid -/
def CbOk (GOk : Gl → Prop) (fcb : Nat) (d : Nat) (ok : Nd → Bool) (i : Nat) (k : Nd) : Prop :=
  Triple (BB Ip GOk) fcb 2 2 [.int .i64 (Int.ofNat i), k.sv, .ptr 1 0] [.abs (.lk (d + 1)) [0], .cells 1 61 [.ptr 0 0]]
    (fun K => (ok k = true → K (.ret (.tuple [])) [.abs (.lk (d + 1)) [0], .cells 1 61 [.ptr 0 0]]) ∧ (ok k = false → ∀ v, K (.pan (noV v)) []))
theorem drop_kid {kids : List Nd} {i : Nat} {k : Nd} (hk : kids[i]? = some k) : kids.drop i = k :: kids.drop (i + 1) := by
  obtain ⟨hlt, e⟩ := List.getElem?_eq_some_iff.1 hk
  rw [List.drop_eq_getElem_cons hlt, e]
theorem vec_pop {α : Type} {p : Bool} {lo len cap : Nat} {xs l : List α} (hv : VecOk p lo (len + 1) cap xs l) : VecOk p lo len cap xs (l.take len) :=
  ⟨hv.pr, hv.room, by have := hv.fits; omega, by rw [← hv.eq, List.take_take, Nat.min_eq_left (by omega)]⟩
theorem kids_spec (fcb d : Nat) (hd : d < 10) (ok : Nd → Bool) (kind : Int) (text val : ByteArray) (p : Bool) (g off cap len : Nat) (kids : List Nd) (hlen : kids.length = len) (hO : OldN GOk (.mk kind text val p g off cap kids))
    (hcb : ∀ i k, kids[i]? = some k → CbOk GOk fcb d ok i k) :
    Triple (BB Ip GOk) 36 2 2 [.ptr 0 0, .agg [.int .i64 kind, .str text, .str val, .gsl p g off 4 len cap], .fn (.func fcb) [] [.ptr 1 0]] [.abs (.lk d) [0], .cells 1 61 [.ptr 0 0]]
      (fun K => (kids.all ok = true → K (.ret (.tuple [])) [.abs (.lk d) [0], .cells 1 61 [.ptr 0 0]]) ∧ (kids.all ok = false → ∀ v, K (.pan (noV v)) [])) := by
  refine triple_of BB_ok (tb := ty) rfl (n0 := 2) (fun _ : Unit => _) pl36 Tryz.call36 Tryz.func36 rfl (by kernel_rfl) (Nat.le_of_ble_eq_true rfl) (by decide) rfl pre_none ?_
  rintro G hG K hK W bi bc bs bk bu bb bo bg bl bp bn be Ncond Nob Nop Nloop Nscope hN Nfin hf _ _
  obtain ⟨hK1, hK2⟩ := hK
  have hlenb : len ≤ 9223372036854775807 := by have := hO.len hG; simp only [Nd.kids] at this; omega
  cbv
  refine loopN_ hN (loop_ hN ty_ok mixed (ι := Nat) (fun y => ⟨[(0, .ptr 0 0), (2, .fn (.func fcb) [] [.ptr 1 0]), (9, .gsl p g off 4 len cap), (10, .int .i64 (Int.ofNat len)), (11, .int .i64 (Int.ofNat y))],
    [.abs (.lk d) [0], .cells 1 61 [.ptr 0 0]], 2⟩) (fun y => y ≤ len ∧ (kids.take y).all ok = true) (fun y => len - y) ?_ ?_)
  · exact Leads.idx 0 [] ⟨Nat.zero_le _, rfl⟩ ⟨⟨rfl, rfl, rfl, rfl, rfl, trivial⟩, rfl, Nat.le_of_ble_eq_true rfl⟩
  rintro i ⟨hi, hgo⟩ Nnext hn _
  cbv
  refine cond_ hN (fun h => ?_) (fun h => ?_)
  · rw [clt hN] at h
    simp only [decide_eq_true_eq, decide_eq_false_iff_not, Int.ofNat_eq_natCast, gt_iff_lt, ge_iff_le, Bool.not_eq_true', Bool.not_eq_false', Int.not_lt, Int.not_le] at h
    have hilt : i < len := by have : (i : Int) < (len : Int) := h; omega
    have hpt : p = true := by
      have := hO.p hG (i := i) (by simp only [Nd.kids]; omega)
      exact this
    obtain ⟨k, hk⟩ : ∃ k, kids[i]? = some k := ⟨kids[i]'(by omega), List.getElem?_eq_getElem (by omega)⟩
    have htake : kids.take (i + 1) = kids.take i ++ [k] := by rw [List.take_add_one, hk]; rfl
    have hp0 : bp 0 (Int.ofNat i) = i := plus0 hN i
    have hnx : bi .add .i64 (Int.ofNat i) 1 = Int.ofNat (i + 1) := inext hN (by omega)
    have hT := hcb i k hk
    unfold CbOk at hT
    have hokk : ok k = false → kids.all ok = false := fun h => by
      have hm : k ∈ kids := List.mem_of_getElem? hk
      rw [← Bool.not_eq_true, List.all_eq_true]
      intro hall
      rw [hall k hm] at h; cases h
    generalize hokb : ok k = okb at hT hokk
    obtain ⟨kk, kt, kv, kp, kg, ko, kc, kks⟩ := k
    obtain ⟨klen, hkl⟩ : ∃ x, kks.length = x := ⟨_, rfl⟩
    have hsv : Nd.sv (.mk kk kt kv kp kg ko kc kks) = .agg [.int .i64 kk, .str kt, .str kv, .gsl kp kg ko 4 klen kc] := by simp [Nd.sv, Nd.row, Nd.sl, Nd.kind, Nd.text, Nd.val, Nd.p, Nd.g, Nd.off, Nd.kids, Nd.cap, hkl]
    cbv
    refine ob_ hN ⟨⟨by simp, by simpa using hilt⟩, hpt, trivial⟩ ?_
    cbv
    simp only [hp0]
    refine op_ hN (load_kid ty_ok hG hO hk rfl rfl rfl rfl rfl ?_)
    rw [hsv] at hT ⊢
    cbv
    refine op_ hN (op_open rfl 0 1 rfl rfl rfl rfl ?_)
    rintro _ ⟨p1, lo1, len1, cap1, xs1, l1, hv1, hl1, rfl⟩
    have hvl := hv1.length
    refine load_ ty_ok rfl ?_
    cbv
    refine op_ hN (append_vec (new := [(Int.ofNat i)]) (z := 0) ty_ok rfl rfl rfl rfl (fun k => by simp) rfl rfl wideI rfl rfl (src_cells wideI rfl (fun _ _ _ _ => rfl) rfl) hv1.pr hv1.room hv1.fits (by simp; omega) (by decide) ?_)
    intro p2 lo2 len2 cap2 xs2 hm2 e1 e2 e3 e4
    have hv2 : VecOk p2 lo2 len2 cap2 xs2 (l1 ++ [Int.ofNat i]) := ⟨e1, e2, e3, by rw [e4, hv1.eq]⟩
    generalize hl2 : l1 ++ [Int.ofNat i] = l2 at hv2
    have hl2n : l2.length = d + 1 ∧ d + 1 ≤ 10 := ⟨by rw [← hl2]; simp; omega, by omega⟩
    obtain ⟨d1, hd1⟩ : ∃ x, x = d + 1 := ⟨_, rfl⟩
    rw [← hd1] at hT hl2n
    clear hl2 e4 hm2
    cbv
    refine op_ hN (op_close rfl (.lk d1) [0] [5] _ ⟨p2, lo2, len2, cap2, xs2, l2, hv2, hl2n, rfl⟩ rfl rfl ?_)
    refine call_ hT hG [0, 1] rfl rfl rfl rfl rfl ⟨fun hok => ?_, fun hno v => ?_⟩
    · clear hv2 hl2n hv1 hl1 hT
      cbv
      repeat' (first | exact True.intro | with_reducible refine dup ?_ | refine And.intro ?_ ?_)
      all_goals
        refine op_ hN (op_open rfl 0 1 rfl rfl rfl rfl ?_)
        rintro _ ⟨p3, lo3, len3, cap3, xs3, l3, hv3, hl3, rfl⟩
        refine load_ ty_ok rfl ?_
        have hvl3 := hv3.length
        have hlen3 : len3 = d + 1 := by omega
        have hv4 := vec_pop (len := d) (hlen3 ▸ hv3)
        have hfits3 := hv3.fits
        have hl4 : (l3.take d).length = d ∧ d ≤ 10 := ⟨by rw [List.length_take]; omega, by omega⟩
        generalize l3.take d = l4 at hv4 hl4
        have hsub : bi .sub .i64 (Int.ofNat len3) 1 = Int.ofNat d := by rw [isub hN (by simp; omega) (by simp; omega)]; simp; omega
        have hob2 : obsP [.le3 0 (Int.ofNat d) (Int.ofNat cap3)] := ⟨⟨by simp, by simp, by simp; omega⟩, trivial⟩
        have hb1 : bo lo3 0 cap3 = lo3 := by rw [bo_ hN]; simp [sloff]
        have hb2 : bg (Int.ofNat d) 0 = d := by rw [bg_ hN]; simp
        have hb3 : bl cap3 0 = cap3 := by rw [bl_ hN]; simp
        clear hv3 hl3
        cbv
        simp only [hsub]
        repeat' (first | exact True.intro | with_reducible refine dup ?_ | refine And.intro ?_ ?_ | (refine ob_ hN hob2 ?_; (try simp only [hb1, hb2, hb3]); cbv))
        all_goals
          simp only [hnx]
          exact hn _ (leads_close rfl (.lk d) [0] [21] _ ⟨p3, lo3, d, cap3, xs3, l4, hv4, hl4, rfl⟩ rfl (Leads.nxt (i + 1) [] ⟨hilt, by rw [htake, List.all_append, hgo]; simp only [List.all_cons, List.all_nil, Bool.and_true, Bool.true_and]; rw [hokb]; exact hok⟩ (by omega) ⟨⟨rfl, rfl, rfl, rfl, rfl, trivial⟩, rfl, Nat.le_of_ble_eq_true rfl⟩))
    · cbv
      exact hf _ _ (fin_ [] rfl rfl (hK2 (hokk hno) v))
  · rw [clt hN] at h
    simp only [decide_eq_true_eq, decide_eq_false_iff_not, Int.ofNat_eq_natCast, gt_iff_lt, ge_iff_le, Bool.not_eq_true', Bool.not_eq_false', Int.not_lt, Int.not_le] at h
    have hie : i = len := by have : (len : Int) ≤ (i : Int) := h; omega
    rw [List.take_of_length_le (by omega)] at hgo
    cbv
    exact hf _ _ (fin_ [] rfl rfl (hK1 hgo))


/-- the innermost look: a cell is a text -/
theorem cl3_spec (d : Nat) (hd : d + 1 ≤ 10) (i : Nat) (k : Nd) : CbOk GOk 45 d (fun v => decide (v.kind = 4)) i k := by
  unfold CbOk
  obtain ⟨d1, hd1⟩ : ∃ x, x = d + 1 := ⟨_, rfl⟩
  rw [← hd1]
  obtain ⟨kk, kt, kv, kp, kg, ko, kc, kks⟩ := k
  obtain ⟨klen, hkl⟩ : ∃ x, kks.length = x := ⟨_, rfl⟩
  have hsv : Nd.sv (.mk kk kt kv kp kg ko kc kks) = .agg [.int .i64 kk, .str kt, .str kv, .gsl kp kg ko 4 klen kc] := by simp [Nd.sv, Nd.row, Nd.sl, Nd.kind, Nd.text, Nd.val, Nd.p, Nd.g, Nd.off, Nd.kids, Nd.cap, hkl]
  rw [hsv]
  refine triple_of BB_ok (tb := ty) rfl (n0 := 2) (fun _ : Unit => _) pl45 Tryz.call45 Tryz.func45 rfl (by kernel_rfl) (Nat.le_of_ble_eq_true rfl) (by decide) rfl pre_none ?_
  rintro G hG K hK W bi bc bs bk bu bb bo bg bl bp bn be Ncond Nob Nop Nloop Nscope hN Nfin hf _ _
  obtain ⟨hK1, hK2⟩ := hK
  simp only [Nd.kind] at hK1 hK2
  cbv
  refine cond_ hN (fun h => ?_) (fun h => ?_)
  · rw [cne hN] at h
    have h' : decide (kk = 4) = false := by simpa using h
    cbv
    refine op_ hN (call_ (fails_spec' d1) hG [0] rfl rfl rfl rfl rfl ?_)
    intro v
    cbv
    exact hf _ _ (fin_ [] rfl rfl (hK2 h' v))
  · rw [cne hN] at h
    have h' : decide (kk = 4) = true := by simpa using h
    cbv
    exact hf _ _ (fin_ [] rfl rfl (hK1 h'))
/-- a field's cells -/
theorem cl2_spec (d : Nat) (hd : d + 1 < 10) (i : Nat) (k : Nd) (hO : OldN GOk k) : CbOk GOk 44 d (fun f => f.kids.all fun v => decide (v.kind = 4)) i k := by
  unfold CbOk
  obtain ⟨d1, hd1⟩ : ∃ x, x = d + 1 := ⟨_, rfl⟩
  rw [← hd1]
  obtain ⟨kk, kt, kv, kp, kg, ko, kc, kks⟩ := k
  obtain ⟨klen, hkl⟩ : ∃ x, kks.length = x := ⟨_, rfl⟩
  have hsv : Nd.sv (.mk kk kt kv kp kg ko kc kks) = .agg [.int .i64 kk, .str kt, .str kv, .gsl kp kg ko 4 klen kc] := by simp [Nd.sv, Nd.row, Nd.sl, Nd.kind, Nd.text, Nd.val, Nd.p, Nd.g, Nd.off, Nd.kids, Nd.cap, hkl]
  rw [hsv]
  have hT := kids_spec 45 d1 (by omega) (fun v => decide (v.kind = 4)) kk kt kv kp kg ko kc klen kks hkl hO (fun i k _ => cl3_spec d1 (by omega) i k)
  refine triple_of BB_ok (tb := ty) rfl (n0 := 2) (fun _ : Unit => _) pl44 Tryz.call44 Tryz.func44 rfl (by kernel_rfl) (Nat.le_of_ble_eq_true rfl) (by decide) rfl pre_none ?_
  rintro G hG K hK W bi bc bs bk bu bb bo bg bl bp bn be Ncond Nob Nop Nloop Nscope hN Nfin hf _ _
  obtain ⟨hK1, hK2⟩ := hK
  simp only [Nd.kids] at hK1 hK2
  generalize kks.all (fun v => decide (v.kind = 4)) = b at hT hK1 hK2
  cbv
  refine op_ hN (call_ hT hG [0, 1] rfl rfl rfl rfl rfl ⟨fun hok => ?_, fun hno v => ?_⟩)
  · cbv
    exact hf _ _ (fin_ [] rfl rfl (hK1 hok))
  · cbv
    exact hf _ _ (fin_ [] rfl rfl (hK2 hno v))
end Hx
