/-
  Part of a proof.
-/
import Derived.Test.YtkkifbjdbhjhaaaGreatDoorV27
import Derived.Test.YtkkifbjdbhjhaaaGreatDoorV21
import Derived.Test.YtkkifbjdbhjhaaaGreatDoorV26
import Derived.Test.YtkkifbjdbhjhaaaGreatDoorV13
import Derived.Test.YtkkifbjdbhjhaaaGreatDoorCards
import Derived.ProofKit
import Derived.OpenShut
set_option linter.unusedVariables false
set_option linter.unusedSimpArgs false
/- InkdelimRound: the law's function. -/
namespace Hx
open Go Sx Go.Proofs
set_option maxRecDepth 100000
set_option maxHeartbeats 4000000
set_option linter.unusedVariables false
set_option linter.unusedSimpArgs false
variable {GOk : Gl → Prop}
theorem tableP_lt {rows : List (List (List UInt8))} {hs : List (List UInt8)} (h : rows ≠ [] → hs ≠ [] ∧ hs.length ≤ 8 ∧ hs.Nodup ∧ (∀ s ∈ hs, s.length ≤ 48 ∧ okS s)) (hr : ∀ ts ∈ rows, ts.length = hs.length ∧ ∀ s ∈ ts, s.length ≤ 48 ∧ okS s)
    (hn : rows.length ≤ 200) : (tableP rows hs).length < 1000000 := by
  unfold tableP
  split
  · simp
  · rename_i hne
    obtain ⟨_, h8, _, h4⟩ := h hne
    have h5 := lineP_len (fun s hs' => (h4 s hs').1) h8
    have h6 : ∀ l : List (List (List UInt8)), (∀ ts ∈ l, ts.length = hs.length ∧ ∀ s ∈ ts, s.length ≤ 48 ∧ okS s) → (l.flatMap lineP).length ≤ 800 * l.length := by
      intro l
      induction l with
      | nil => intro _; simp
      | cons a l ih =>
        intro hl
        have h7 := ih fun ts ht => hl ts (by simp [ht])
        have h8' := hl a (by simp)
        have h9 := lineP_len (fun s hs' => (h8'.2 s hs').1) (by rw [h8'.1]; exact h8)
        simp only [List.flatMap_cons, List.length_append, List.length_cons]
        omega
    have := h6 rows hr
    simp only [List.length_append]
    omega
mutual
def cntN : Nd → Nat
  | .mk _ _ _ _ _ _ _ kids => 1 + cntL kids
def cntL : List Nd → Nat
  | [] => 0
  | n :: r => cntN n + cntL r
 end
mutual
theorem evs_cnt : ∀ n : Nd, (evs n).length ≤ 2 * cntN n
  | .mk k t v _ _ _ _ kids => by
    have h := evsL_cnt kids
    have he : (endE k).length ≤ 1 := by unfold endE; split <;> simp
    rw [evs, cntN]
    split
    · simp; omega
    · simp only [List.length_cons, List.length_append]; omega
theorem evsL_cnt : ∀ l : List Nd, (evsL l).length ≤ 2 * cntL l
  | [] => by simp [evsL, cntL]
  | n :: r => by
    have := evs_cnt n
    have := evsL_cnt r
    rw [evsL, cntL, List.length_append]; omega
 end
theorem few_cnt : ∀ (d : Nat) (n : Nd) (left : Int), 0 ≤ left → 0 ≤ fewM d n left → fewM d n left + cntN n ≤ left
  | 0, n, left, _, h => by unfold fewM at h; omega
  | d + 1, n, left, h0, h => by
    obtain ⟨k, t, v, p, g, off, cap, kids⟩ := n
    unfold fewM at h ⊢
    simp only [Nd.kids] at h ⊢
    rw [cntN]
    have key : ∀ (ks : List Nd) (l : Int), 0 ≤ ks.foldl (fun l k => if l < 0 then l else fewM d k l) l → ks.foldl (fun l k => if l < 0 then l else fewM d k l) l + cntL ks ≤ l := by
      intro ks
      induction ks with
      | nil => intro l _; simp [cntL]
      | cons k ks ih =>
        intro l hl
        simp only [List.foldl_cons] at hl ⊢
        have h1 := ih _ hl
        rw [cntL]
        have h2 := (foldl_le (f := fun l k => if l < 0 then l else fewM d k l) (fun l k hl => by rw [if_neg (by omega)]; exact fewM_le d k l hl) (fun l k hl => by rw [if_pos hl]) ks (if l < 0 then l else fewM d k l)).1
        by_cases hlt : l < 0
        · simp only [if_pos hlt] at hl h1 h2; omega
        · simp only [if_neg hlt] at hl h1 h2 ⊢
          have h3 := few_cnt d k l (by omega) (by omega)
          omega
    have := key kids (left - 1) h
    omega
theorem kid_cnt : ∀ {l : List Nd} {k : Nd}, k ∈ l → k.kids.length ≤ cntL l ∧ l.length ≤ cntL l
  | n :: r, k, h => by
    have hpos : 1 ≤ cntN n := by obtain ⟨_, _, _, _, _, _, _, kids⟩ := n; rw [cntN]; omega
    have hlen : ∀ l : List Nd, l.length ≤ cntL l := by
      intro l
      induction l with
      | nil => simp
      | cons a l ih =>
        obtain ⟨_, _, _, _, _, _, _, kids⟩ := a
        rw [cntL, cntN, List.length_cons]; omega
    refine ⟨?_, hlen _⟩
    rw [cntL]
    rcases List.mem_cons.1 h with rfl | h
    · obtain ⟨_, _, _, _, _, _, _, kids⟩ := k
      have := hlen kids
      rw [cntN]; simp only [Nd.kids]; omega
    · have := (kid_cnt h).1; omega
theorem SatC.unwr {I : Pd → List Nat → HP} {G : Gl} {ρ : Nat → Nat} {cs : List (Chunk Pd)} {F : HP} {w : World} {α : Type} {p : Bool} {id : Nat} {T : TypeId} {enc : α → List Sx.Lit} {xs : List α} (h : SatC I G ρ (.arr p true id T enc xs :: cs) F w) : SatC I G ρ (.arr p false id T enc xs :: cs) F w :=
  ⟨h.size, h.old, SatR.map1 (fun _ hd hp => by
    obtain ⟨fz, _, h2⟩ := hd hp
    exact ⟨fz, (fun h => nomatch h), h2⟩) h.sep⟩
theorem op_unwr {X : Cx Pd} {α : Type} {p : Bool} {id : Nat} {T : TypeId} {enc : α → List Sx.Lit} {xs : List α} {op : Op} {type : TypeId} {vals : List SV} {cs : List (Chunk Pd)} {n : Nat} {cont : Out → List (Chunk Pd) → Nat → Prop}
    (hv : SV.idOkL (belowB n) vals = true) (h : NodeX X op type vals (.arr p false id T enc xs :: cs) n cont) : NodeX X op type vals (.arr p true id T enc xs :: cs) n cont :=
  op_ent (ι := Unit) (fun _ => _) hv (Nat.le_refl _) (fun ρ F w hs => ⟨(), ρ, Ext.refl _ _, SatC.unwr hs⟩) fun _ => h
/-- THE LAW over a tree in the old memory -/
theorem inkd_spec (hT : GTab GOk) (n : Nd) (hO : OldN GOk n) (hoke : ∀ x ∈ evs n, okE x) : Triple (BB Ip GOk) 3 0 0 [n.sv] [] (fun K => K (.ret (.bool true)) []) := by
  have hfewT := lawfew_r (GOk := GOk) n hO
  have hlivT := ilives_spec hT
  have hfac : 0 ≤ fewM 21 n 200 → (evs n).length ≤ 400 ∧ n.kids.length ≤ 200 ∧ ∀ k ∈ n.kids, k.kids.length ≤ 200 := fun hf => by
    have h1 := few_cnt 21 n 200 (by decide) hf
    have h2 := evs_cnt n
    have h3 := few_kids hf
    obtain ⟨_, _, _, _, _, _, _, kids⟩ := n
    rw [cntN] at h1 h2
    simp only [Nd.kids] at h3
    have h4 : kids.length ≤ 200 := by omega
    exact ⟨by omega, h4, fun k hk => by have h := (kid_cnt (l := kids) hk).1; omega⟩
  have hlaw : 0 ≤ fewM 21 n 200 → ofM rightM n = 0 → walkM rightM n = 0 ∧ lookM n = true := fun _ h => by
    unfold ofM at h
    by_cases hw : walkM rightM n = 0
    · rw [if_neg (by simp [hw])] at h
      refine ⟨hw, ?_⟩
      cases hl : lookM n with
      | true => rfl
      | false => rw [hl] at h; exact absurd h (by decide)
    · rw [if_pos hw] at h; exact absurd h hw
  have hdec := fun hf hw hl => inkdelim_law n hf hw hl
  have hwalk := fun hke hw hl => walk_r (GOk := GOk) n hO hke hw hl
  have hk49 : walkM rightM n = 0 → lookM n = true → ∀ x ∈ evs n, k49 x.kind := fun hw hl x hx => by
    rw [(tree_law n hw hl).1] at hx; exact table_k49 x hx
  have htl : 0 ≤ fewM 21 n 200 → walkM rightM n = 0 → lookM n = true → (tableP (n.kids.map rowOf) ((headOf n).map fun s => s.data.toList)).length < 1000000 := fun hf hw hl => by
    obtain ⟨_, h2, h3⟩ := tree_law n hw hl
    exact tableP_lt h2 h3 (by rw [List.length_map]; exact (hfac hf).2.1)
  have hpr : 0 ≤ fewM 21 n 200 → Triple (BB Ip GOk) 6 0 0 [n.sv] [] (fun K => ∀ e s v, e = ofM rightM n → (e = 0 → s.data.toList = tableP (n.kids.map rowOf) ((headOf n).map fun s => s.data.toList)) → K (.ret (.tuple [.str s, .raw v, .int .i64 e])) []) := fun hf => by
    obtain ⟨f1, f2, f3⟩ := hfac hf
    obtain ⟨kind, text, val, p, g, off, cap, kids⟩ := n
    exact print_spec hT kind text val p g off cap _ kids rfl hO (by omega) hoke (fun k hk => Nat.le_trans (f3 k hk) (by decide)) (Nat.le_trans f2 (by decide))
  generalize htx : tableP (n.kids.map rowOf) ((headOf n).map fun s => s.data.toList) = tx at hdec htl hpr
  have hel : 0 ≤ fewM 21 n 200 → (evs n).length ≤ 400 := fun hf => (hfac hf).1
  generalize evs n = l at hdec hwalk hk49 hel hoke
  generalize hfe : fewM 21 n 200 = fe at *
  generalize hoe : ofM rightM n = oe at *
  generalize walkM rightM n = we at *
  generalize lookM n = le at *
  obtain ⟨kind, text, val, p, g, off, cap, kids⟩ := n
  obtain ⟨nlen, hnl⟩ : ∃ x, kids.length = x := ⟨_, rfl⟩
  have hsv : Nd.sv (.mk kind text val p g off cap kids) = .agg [.int .i64 kind, .str text, .str val, .gsl p g off 4 nlen cap] := by simp [Nd.sv, Nd.row, Nd.sl, Nd.kind, Nd.text, Nd.val, Nd.p, Nd.g, Nd.off, Nd.kids, Nd.cap, hnl]
  rw [hsv] at hfewT hwalk hpr ⊢
  clear hO hfac htx hfe hoe
  refine triple_of BB_ok (tb := ty) rfl (n0 := 0) (fun _ : Unit => _) pl3 Tryz.call3 Tryz.func3 rfl (by kernel_rfl) (Nat.le_of_ble_eq_true rfl) (by decide) rfl pre_none ?_
  rintro G hG K hK W bi bc bs bk bu bb bo bg bl bp bn be Ncond Nob Nop Nloop Nscope hN Nfin hf _ _
  cbv
  refine op_ hN (call_ hfewT hG [] rfl rfl rfl rfl rfl ?_)
  intro b hb
  cbv
  cases b with
  | false =>
    cbv
    refine cond_T hN rfl ?_
    cbv
    refine op_ hN (call_ hlivT hG [] rfl rfl rfl rfl rfl ?_)
    cbv
    exact hf _ _ (fin_ [] rfl rfl hK)
  | true =>
    have hfe : 0 ≤ fe := of_decide_eq_true hb.symm
    cbv
    refine cond_F hN rfl ?_
    cbv
    refine op_ hN (call_ (hpr hfe) hG [] rfl rfl rfl rfl rfl ?_)
    intro e s v he hs
    subst he
    cbv
    refine cond_ hN ?_ ?_ <;> intro h1 <;> rw [cne hN] at h1
    · skip
      cbv
      refine op_ hN (call_ hlivT hG [] rfl rfl rfl rfl rfl ?_)
      cbv
      exact hf _ _ (fin_ [] rfl rfl hK)
    have h1 : e = 0 := by simpa using h1
    obtain ⟨hw, hl⟩ := hlaw hfe h1
    have hstx := hs h1
    have hlen := htl hfe hw hl
    obtain ⟨m, sc, hd⟩ := hdec hfe hw hl
    have hW := hwalk (hk49 hw hl) hw (by have := hel hfe; omega)
    have hle := hel hfe
    clear hpr hfewT hlaw hk49 htl hdec hwalk hoke hel hs
    obtain ⟨sz, hsz⟩ : ∃ x, s.size = x := ⟨_, rfl⟩
    have hszl : sz = tx.length := by rw [← hsz, ← hstx, Array.length_toList]; rfl
    cbv
    refine op_ hN (str_bytes ty_ok rfl rfl rfl rfl rfl rfl rfl ?_)
    intro m0 cap0 xs hm hcap hmc hxs
    rw [hsz] at hm
    have hvt : VecOk true 0 sz cap0 xs tx := ⟨(fun h => nomatch h), by omega, by omega, by rw [← hm, List.drop_zero, hxs, hstx]⟩
    rw [hm]
    clear hxs
    have hD := ddecode_spec (GOk := GOk) true 0 cap0 sz xs tx hvt (by omega)
    rw [← hszl] at hd
    have hda : dlmAllM tx = some ⟨m, ⟨sc, l, sz, true, true, 0, false⟩⟩ := hd
    clear hd
    rw [hda] at hD
    cbv
    refine op_ hN (op_unwr rfl (call_ hD hG [1] rfl rfl rfl rfl rfl ?_))
    intro p1 lo1 len1 cap1 ys hv1
    simp only at hv1
    cbv
    refine op_ hN (call_ hW hG [] rfl rfl rfl rfl rfl ?_)
    intro q lo2 len2 cap2 zs hv2
    have hl1 := hv1.length
    cbv
    refine op_ hN (call_ (same_r (GOk := GOk) p1 true lo1 len1 cap1 ys l hv1 q true lo2 len2 cap2 zs hv2 (by omega)) hG [2, 3] rfl rfl rfl rfl rfl ?_)
    have hbn : bn s = sz := by rw [len_eq hN, hsz]
    have hbe : bc .eql (Int.ofNat sz) sz = true := by rw [ceq hN]; simp
    cbv
    refine cond_T hN ?_ ?_
    · rw [ceq hN]; rfl
    cbv
    refine cond_T hN ?_ ?_
    · rw [hbn]; exact hbe
    rw [hbn, hbe]
    cbv
    refine cond_T hN rfl ?_
    cbv
    refine op_ hN (call_ hlivT hG [] rfl rfl rfl rfl rfl ?_)
    cbv
    exact hf _ _ (fin_ [] rfl rfl hK)
end Hx
/- A node's reading is a finite tree in memory. -/
namespace Go.Proofs.YtkkifbjdbhjhaaaGreatDoor
open Go Go.Proofs Go.ChangeShapes Go.WideShapes Go.ChangeAt Go.RowKit
set_option linter.unusedVariables false
set_option maxRecDepth 100000

theorem bulk_mem {H : Type} {d : DataW H} {l : List (DataW H)} (h : d ∈ l) : Rows.uptoBulk d ≤ Rows.uptoBulkAll l := by
  induction l with
  | nil => cases h
  | cons x r ih =>
    simp only [Rows.uptoBulkAll]
    cases List.mem_cons.1 h with
    | inl e => subst e; omega
    | inr e => have := ih e; omega
theorem list_of {α : Type} (P : Nat → α → Prop) : ∀ (len : Nat), (∀ i, i < len → ∃ a, P i a) → ∃ l : List α, l.length = len ∧ ∀ i a, l[i]? = some a → P i a
  | 0, _ => ⟨[], rfl, fun i a h => by simp at h⟩
  | n + 1, h => by
    obtain ⟨l, hl, hp⟩ := list_of P n fun i hi => h i (by omega)
    obtain ⟨a, ha⟩ := h n (by omega)
    refine ⟨l ++ [a], by simp [hl], fun i b hb => ?_⟩
    by_cases hi : i < n
    · rw [List.getElem?_append_left (by omega)] at hb; exact hp i b hb
    · rw [List.getElem?_append_right (by omega)] at hb
      have : i - l.length = 0 := by
        have := (List.getElem?_eq_some_iff.1 hb).1
        simp at this; omega
      rw [this] at hb
      simp only [List.getElem?_cons_zero, Option.some.injEq] at hb
      subst hb
      obtain rfl : i = n := by omega
      exact ha
theorem nds_of {w0 : Nat → Option Obj} {base g : Nat} : ∀ (kids : List Sx.Nd) (off : Nat), (∀ i k, kids[i]? = some k → (g < base ∧ ∃ cs T fz, w0 g = some (.cells cs T fz) ∧ ∀ f v, (Sx.SV.denL (fun _ => 0) k.row)[f]? = some v → cs[off + i * 4 + f]? = some v) ∧ k.At w0 base) → Sx.NdsAt w0 base g off kids
  | [], _, _ => trivial
  | k :: r, off, h => by
    obtain ⟨⟨h1, cs, T, fz, h2, h3⟩, h4⟩ := h 0 k rfl
    refine ⟨⟨h1, cs, T, fz, h2, fun f v hv => by have := h3 f v hv; simpa using this⟩, h4, nds_of r (off + 4) fun i k' hk => ?_⟩
    obtain ⟨⟨h1, cs, T, fz, h2, h3⟩, h4⟩ := h (i + 1) k' (by simpa using hk)
    exact ⟨⟨h1, cs, T, fz, h2, fun f v hv => by have := h3 f v hv; rw [show off + 4 + i * 4 + f = off + (i + 1) * 4 + f by omega]; exact this⟩, h4⟩
theorem evsL_from : ∀ {kids : List Sx.Nd} {x : Hx.Ev}, x ∈ Hx.evsL kids → ∃ (i : Nat) (k : Sx.Nd), kids[i]? = some k ∧ x ∈ Hx.evs k
  | n :: r, x, h => by
    rw [Hx.evsL] at h
    rcases List.mem_append.1 h with h | h
    · exact ⟨0, n, rfl, h⟩
    · obtain ⟨i, k, h1, h2⟩ := evsL_from h
      exact ⟨i + 1, k, by simpa using h1, h2⟩
  | [], x, h => by simp [Hx.evsL] at h
/-- the texts of a tree's events are at most so long -/
def TextsLe (m : Nat) (n : Sx.Nd) : Prop := ∀ x ∈ Hx.evs n, x.text.size ≤ m ∧ x.val.size ≤ m
theorem texts_of {m : Nat} {k : Int} {t v : ByteArray} {p : Bool} {g off cap : Nat} {kids : List Sx.Nd} (ht : t.size ≤ m) (hv : v.size ≤ m) (hk : ∀ (i : Nat) (k : Sx.Nd), kids[i]? = some k → TextsLe m k) : TextsLe m (.mk k t v p g off cap kids) := by
  intro x hx
  rw [Hx.evs] at hx
  split at hx
  · rw [List.mem_singleton.1 hx]; exact ⟨Nat.zero_le _, Nat.zero_le _⟩
  · rcases List.mem_cons.1 hx with rfl | hx
    · exact ⟨ht, hv⟩
    · rcases List.mem_append.1 hx with hx | hx
      · obtain ⟨i, k, h1, h2⟩ := evsL_from hx
        exact hk i k h1 x h2
      · unfold Hx.endE at hx
        split at hx
        · cases hx
        · rw [List.mem_singleton.1 hx]; exact ⟨Nat.zero_le _, Nat.zero_le _⟩
theorem node_fields : ∃ f0 f1 f2 f3 : Field, Tryz.prog.underlying 24 = some (.struct #[f0, f1, f2, f3]) ∧ (f0.type = 3 ∧ f1.type = 9 ∧ f2.type = 9 ∧ f3.type = 22) ∧ (f0.offset = 0 ∧ f1.offset = 1 ∧ f2.offset = 2 ∧ f3.offset = 3) :=
  ⟨_, _, _, _, Tryz.underlying24, ⟨rfl, rfl, rfl, rfl⟩, ⟨rfl, rfl, rfl, rfl⟩⟩
theorem node_cells : Tryz.prog.cellsOf 24 = 4 ∧ Tryz.prog.cellsOf 3 = 1 ∧ Tryz.prog.cellsOf 9 = 1 ∧ Tryz.prog.cellsOf 22 = 1 := by
  refine ⟨?_, ?_, ?_, ?_⟩ <;> kernel_rfl
theorem node_of {H : Type} {enc : TypeId × Value → H} (W : World) : ∀ (fuel : Nat) (cs : List Value) (x : DataW H × List MemPlace), DataW.trod enc Tryz.prog W 0 (fun _ => true) true fuel 24 cs = some x →
    ∃ n : Sx.Nd, cs = Sx.SV.denL (fun _ => 0) n.row ∧ n.At (fun b => W.heap[b]?) W.heap.size ∧ TextsLe (Rows.uptoBulk x.1) n := by
  intro fuel
  induction fuel using Nat.strongRecOn with
  | _ fuel ih =>
    intro cs x h
    obtain ⟨f0, f1, f2, f3, hu, ⟨t0, t1, t2, t3⟩, o0, o1, o2, o3⟩ := node_fields
    obtain ⟨c24, c3, c9, c22⟩ := node_cells
    obtain ⟨xs, n, rfl, rfl, hl, hlen, hf⟩ := DataW.trod_struct hu h
    rw [c24] at hl
    match cs, hl with
    | [v0, v1, v2, v3], _ =>
    match xs, hlen with
    | [y0, y1, y2, y3], _ =>
    have e0 := hf 0 f0 rfl
    have e1 := hf 1 f1 rfl
    have e2 := hf 2 f2 rfl
    have e3 := hf 3 f3 rfl
    rw [t0, o0, c3] at e0
    rw [t1, o1, c9] at e1
    rw [t2, o2, c9] at e2
    rw [t3, o3, c22] at e3
    simp at e0 e1 e2 e3
    obtain ⟨k, hk, rfl, _⟩ := DataW.trod_int (k := .i64) Tryz.underlying3 e0
    obtain ⟨s, hs, rfl, _⟩ := DataW.trod_string Tryz.underlying9 e1
    obtain ⟨v, hv, rfl, _⟩ := DataW.trod_string Tryz.underlying9 e2
    simp only [List.cons.injEq, and_true] at hk hs hv
    subst hk hs hv
    have hsz : s.size = s.data.toList.length := by rw [Array.length_toList]; rfl
    have hvz : v.size = v.data.toList.length := by rw [Array.length_toList]; rfl
    rcases DataW.trod_slice Tryz.underlying22 e3 with ⟨h1, rfl⟩ | ⟨a, len, cap, elems, rest, m, rfl, h1, rfl, _, hlc, hcm, hel, hget, _, _⟩
    · simp only [List.cons.injEq, and_true] at h1
      subst h1
      refine ⟨.mk k s v false 0 0 0 [], by simp [Sx.SV.denL, Sx.SV.den, Sx.Nd.row, Sx.Nd.sl, Sx.Nd.kind, Sx.Nd.text, Sx.Nd.val, Sx.Nd.p, Sx.Nd.g, Sx.Nd.off, Sx.Nd.kids, Sx.Nd.cap], ⟨Nat.le_refl _, Nat.zero_le _, fun _ => rfl, trivial⟩, texts_of ?_ ?_ (fun i k h => by simp at h)⟩
      · simp only [List.map_cons, List.map_nil, Rows.uptoBulk, Rows.uptoBulkAll]; omega
      · simp only [List.map_cons, List.map_nil, Rows.uptoBulk, Rows.uptoBulkAll]; omega
    · simp only [List.cons.injEq, and_true] at h1
      subst h1
      have each : ∀ i, i < len → ∃ nd : Sx.Nd, (∃ b T fz, a.block < W.heap.size ∧ W.heap[a.block]? = some (.cells b T fz) ∧ (a.add (i * 4)).spot = none ∧ ∀ f v, (Sx.SV.denL (fun _ => 0) nd.row)[f]? = some v → b[a.off + i * 4 + f]? = some v) ∧ nd.At (fun b => W.heap[b]?) W.heap.size ∧ TextsLe (Rows.uptoBulkAll (elems.map (·.1))) nd := by
        intro i hi
        have hg := hget i hi
        rw [c24] at hg
        have hei : elems[i]? = some (elems[i]'(by omega)) := List.getElem?_eq_getElem (by omega)
        rw [hei] at hg
        generalize elems[i]'(by omega) = y at hg hei
        obtain ⟨ci, hc, ht⟩ := Option.bind_eq_some_iff.1 hg
        obtain ⟨_, hcl, hcg⟩ := World.cells?_some hc
        obtain ⟨nd, rfl, hat, htx⟩ := ih m (by omega) ci y ht
        have hrl : (Sx.SV.denL (fun _ => 0) nd.row).length = 4 := Sx.Nd.row_len _ nd
        have hg0 := hcg 0 (by decide)
        rw [List.getElem?_eq_getElem (by omega)] at hg0
        have hadd0 : (a.add (i * 4)).add 0 = a.add (i * 4) := by simp [Addr.add]
        rw [hadd0] at hg0
        have hblk : (a.add (i * 4)).block = a.block := by unfold Addr.add; split <;> rfl
        have hoff : (a.add (i * 4)).off = a.off + i * 4 := by
          unfold Addr.add; split
          · rename_i h0; rw [h0]; rfl
          · rfl
        unfold World.cell? at hg0
        rw [hblk] at hg0
        split at hg0
        rotate_left
        · cases hg0
        rename_i b T fz hh
        split at hg0
        · cases hg0
        rename_i hsp
        have hspot : (a.add (i * 4)).spot = none := by simpa using hsp
        refine ⟨nd, ⟨b, T, fz, (Array.getElem?_eq_some_iff.1 hh).1, hh, hspot, fun f v hv => ?_⟩, hat, fun x hx => ?_⟩
        · have hf4 : f < 4 := by have := (List.getElem?_eq_some_iff.1 hv).1; omega
          have hgf := hcg f hf4
          rw [hv] at hgf
          have haf : (a.add (i * 4)).add f = ⟨a.block, a.off + i * 4 + f, none⟩ := by
            rw [← hblk, ← hoff, ← hspot]
            generalize a.add (i * 4) = z at hspot
            obtain ⟨zb, zo, zs⟩ := z
            simp only at hspot; subst hspot
            unfold Addr.add
            split
            · rename_i h0; rw [h0]; rfl
            · rfl
          rw [haf] at hgf
          unfold World.cell? at hgf
          simp only [hh] at hgf
          simpa using hgf
        · have h1 := htx x hx
          have h2 := bulk_mem (List.mem_map_of_mem (f := (·.1)) (List.mem_of_getElem? hei))
          exact ⟨by omega, by omega⟩
      obtain ⟨kids, hkl, hkp⟩ := list_of _ len each
      have hspot0 : len ≠ 0 → a.spot = none := fun h0 => by
        have hk0 : kids[0]? = some (kids[0]'(by omega)) := List.getElem?_eq_getElem (by omega)
        obtain ⟨⟨_, _, _, _, _, hs, _⟩, _⟩ := hkp 0 _ hk0
        simpa [Addr.add] using hs
      obtain ⟨off, hoff, hoff2⟩ := Sx.gad_len a len hspot0
      refine ⟨.mk k s v true a.block off cap kids, ?_, ⟨by omega, hcm, (fun h => nomatch h), nds_of kids off fun i kd hkd => ?_⟩, texts_of ?_ ?_ fun i kd hkd x hx => ?_⟩
      · simp [Sx.SV.denL, Sx.SV.den, Sx.Nd.row, Sx.Nd.sl, Sx.Nd.kind, Sx.Nd.text, Sx.Nd.val, Sx.Nd.p, Sx.Nd.g, Sx.Nd.off, Sx.Nd.kids, Sx.Nd.cap, hkl, hoff]
      · obtain ⟨⟨b, T, fz, h1, h2, _, h3⟩, h4, _⟩ := hkp i kd hkd
        have hi : i < len := by have := (List.getElem?_eq_some_iff.1 hkd).1; omega
        rw [hoff2 (by omega)]
        exact ⟨⟨h1, b, T, fz, h2, h3⟩, h4⟩
      · simp only [List.map_cons, List.map_nil, Rows.uptoBulk, Rows.uptoBulkAll]; omega
      · simp only [List.map_cons, List.map_nil, Rows.uptoBulk, Rows.uptoBulkAll]; omega
      · obtain ⟨_, _, h5⟩ := hkp i kd hkd
        have h6 := h5 x hx
        simp only [List.map_cons, List.map_nil, Rows.uptoBulk, Rows.uptoBulkAll]
        exact ⟨by omega, by omega⟩
end Go.Proofs.YtkkifbjdbhjhaaaGreatDoor
