/-
  Part of a proof.
-/
import Derived.Test.YtafhlipcgbopnaaGreatDoorW05
import Derived.Test.YtafhlipcgbopnaaGreatDoorW03
import Derived.Test.YtafhlipcgbopnaaGreatDoorW08
import Derived.Test.YtafhlipcgbopnaaGreatDoorW23
set_option linter.unusedVariables false
set_option linter.unusedSimpArgs false
/- What is kept, in another order. -/
namespace Hx
open Go Sx Go.Proofs
set_option maxRecDepth 100000
set_option maxHeartbeats 4000000
set_option linter.unusedVariables false
set_option linter.unusedSimpArgs false
variable {GOk : Gl → Prop}
theorem bel {n i : Nat} (h : i < n) : belowB n i = true := Nat.ble_eq_true_of_le h
mutual
theorem idOk_imp {p q : Nat → Bool} (h : ∀ i, p i = true → q i = true) : ∀ v : SV, v.idOk p = true → v.idOk q = true
  | .ptr id _, e | .slice id _ _ _ _, e | .vec _ id _ _ _ _, e | .eptr id _ _ _, e | .map id, e => by simp only [SV.idOk] at e ⊢; exact h id e
  | .fn f a b, e => by
    simp only [SV.idOk, Bool.and_eq_true] at e ⊢
    exact ⟨idOkL_imp h a e.1, idOkL_imp h b e.2⟩
  | .iface t v, e => by simp only [SV.idOk] at e ⊢; exact idOk_imp h v e
  | .agg l, e | .tuple l, e => by simp only [SV.idOk] at e ⊢; exact idOkL_imp h l e
  | .int .., _ | .bool _, _ | .tt, _ | .ff, _ | .str _, _ | .nil, _ | .gptr .., _ | .nilslice, _ | .nilmap, _ | .nilfn, _ | .niliface, _ | .raw _, _ => by simp only [SV.idOk]
theorem idOkL_imp {p q : Nat → Bool} (h : ∀ i, p i = true → q i = true) : ∀ l : List SV, SV.idOkL p l = true → SV.idOkL q l = true
  | [], _ => by simp only [SV.idOkL]
  | v :: r, e => by
    simp only [SV.idOkL, Bool.and_eq_true] at e ⊢
    exact ⟨idOk_imp h v e.1, idOkL_imp h r e.2⟩
 end
theorem idsOk_imp {p q : Nat → Bool} (h : ∀ i, p i = true → q i = true) : ∀ l : List Nat, idsOk p l = true → idsOk q l = true
  | [], _ => rfl
  | i :: r, e => by
    simp only [idsOk, Bool.and_eq_true] at e ⊢
    exact ⟨h i e.1, idsOk_imp h r e.2⟩
theorem call_imp {p q : Nat → Bool} (h : ∀ i, p i = true → q i = true) : ∀ cs : List (Chunk Pd), call p cs = true → call q cs = true
  | [], _ => rfl
  | c :: r, e => by
    simp only [call, Bool.and_eq_true] at e ⊢
    refine ⟨?_, call_imp h r e.2⟩
    have e1 := e.1
    cases c with
    | cells id T vs => simp only [Chunk.idOk, Bool.and_eq_true] at e1 ⊢; exact ⟨h _ e1.1, idOkL_imp h _ e1.2⟩
    | arr p wr id T enc xs => exact h _ e1
    | map id es => exact h _ e1
    | abs p ids => exact idsOk_imp h _ e1
    | at_ id g => exact h _ e1
    | obj id o => exact h _ e1
theorem call_mono {n m : Nat} (h : n ≤ m) {cs : List (Chunk Pd)} (hc : call (belowB n) cs = true) : call (belowB m) cs = true :=
  call_imp (fun i hi => bel (Nat.lt_of_lt_of_le (belowB_lt hi) h)) cs hc
theorem kps_sat {G : Gl} {F : HP} {w : World} {l l' : List (Nat × Kpt)} (h : l.Perm l') : ∀ {ρ : Nat → Nat} {id n : Nat} {rest : List (Chunk Pd)}, id < n → call (belowB n) rest = true →
    SatC (Im Tm) G ρ (.abs (.kps l) [id] :: rest) F w → SatC (Im Tm) G ρ (.abs (.kps l') [id] :: rest) F w := by
  induction h with
  | nil => intro ρ id n rest _ _ hs; exact hs
  | cons x hp ih =>
    intro ρ id n rest hid hr hs
    obtain ⟨g, k⟩ := x
    rename_i l1 l2
    obtain ⟨cs', hT, ρ', he, hs2⟩ := hs.open (n := n) (by simp only [idsOk, bel hid, Bool.true_and]) hr
    have hT : cs' = [.at_ 1 g, .abs (.kpt k) [1], .abs (.kps l1) [2]] := hT
    subst hT
    have hs3 : SatC (Im Tm) G ρ' ([.at_ n g, .abs (.kpt k) [n], .abs (.kps l1) [n + 1]] ++ rest) F w := hs2
    have hs4 : SatC (Im Tm) G ρ' (.abs (.kps l1) [n + 1] :: (.at_ n g :: .abs (.kpt k) [n] :: rest)) F w := hs3.perm ((List.Perm.swap _ _ _).cons _ |>.trans (List.Perm.swap _ _ _))
    have hr2 : call (belowB (n + 2)) (.at_ n g :: .abs (.kpt k) [n] :: rest) = true := by
      simp only [call, Chunk.idOk, idsOk, Bool.and_eq_true, Bool.and_true]
      refine ⟨?_, ?_, call_mono (by omega) hr⟩ <;> simp [belowB]
    have hs5 := ih (by omega) hr2 hs4
    have hs6 : SatC (Im Tm) G ρ' ([.at_ n g, .abs (.kpt k) [n], .abs (.kps l2) [n + 1]] ++ rest) F w := hs5.perm ((List.Perm.swap _ _ _).trans ((List.Perm.swap _ _ _).cons _))
    have hs7 : SatC (Im Tm) G ρ' (.abs (.kps ((g, k) :: l2)) [id] :: rest) F w := SatC.close (Tm := Tm) [n, n + 1] (cs' := [.at_ 1 g, .abs (.kpt k) [1], .abs (.kps l2) [2]]) rfl hs6
    refine hs7.congr (p := belowB n) (by simp only [call, Chunk.idOk, idsOk, hr, bel hid, Bool.true_and]) fun i hi => (he i (belowB_lt hi))
  | swap x y l =>
    intro ρ id n rest hid hr hs
    obtain ⟨g, k⟩ := x
    obtain ⟨g2, k2⟩ := y
    obtain ⟨cs', hT, ρ', he, hs2⟩ := hs.open (n := n) (by simp only [idsOk, bel hid, Bool.true_and]) hr
    have hT : cs' = [.at_ 1 g2, .abs (.kpt k2) [1], .abs (.kps ((g, k) :: l)) [2]] := hT
    subst hT
    have hs3 : SatC (Im Tm) G ρ' ([.at_ n g2, .abs (.kpt k2) [n], .abs (.kps ((g, k) :: l)) [n + 1]] ++ rest) F w := hs2
    have hs4 : SatC (Im Tm) G ρ' (.abs (.kps ((g, k) :: l)) [n + 1] :: (.at_ n g2 :: .abs (.kpt k2) [n] :: rest)) F w := hs3.perm ((List.Perm.swap _ _ _).cons _ |>.trans (List.Perm.swap _ _ _))
    have hr2 : call (belowB (n + 2)) (.at_ n g2 :: .abs (.kpt k2) [n] :: rest) = true := by
      simp only [call, Chunk.idOk, idsOk, Bool.and_eq_true, Bool.and_true]
      refine ⟨bel (by omega), bel (by omega), call_mono (by omega) hr⟩
    obtain ⟨cs2, hT2, ρ2, he2, hs5⟩ := hs4.open (n := n + 2) (by simp only [idsOk, bel (show n + 1 < n + 2 by omega), Bool.true_and]) hr2
    have hT2 : cs2 = [.at_ 1 g, .abs (.kpt k) [1], .abs (.kps l) [2]] := hT2
    subst hT2
    have hs6 : SatC (Im Tm) G ρ2 ([.at_ (n + 2) g, .abs (.kpt k) [n + 2], .abs (.kps l) [n + 3]] ++ (.at_ n g2 :: .abs (.kpt k2) [n] :: rest)) F w := hs5
    have hs7 : SatC (Im Tm) G ρ2 ([.at_ n g2, .abs (.kpt k2) [n], .abs (.kps l) [n + 3]] ++ (.at_ (n + 2) g :: .abs (.kpt k) [n + 2] :: rest)) F w := by
      refine hs6.perm ?_
      have : ∀ a b c d e : Chunk Pd, ∀ r : List (Chunk Pd), ([a, b, c] ++ (d :: e :: r)).Perm ([d, e, c] ++ (a :: b :: r)) := by
        intro a b c d e r
        exact ((List.perm_append_comm (l₁ := [a, b]) (l₂ := [c] ++ [d, e])).trans ((List.perm_append_comm (l₁ := [c]) (l₂ := [d, e])).append_right [a, b])).append_right r
      exact this _ _ _ _ _ _
    have hs8 : SatC (Im Tm) G ρ2 (.abs (.kps ((g2, k2) :: l)) [n + 1] :: (.at_ (n + 2) g :: .abs (.kpt k) [n + 2] :: rest)) F w := SatC.close (Tm := Tm) [n, n + 3] (cs' := [.at_ 1 g2, .abs (.kpt k2) [1], .abs (.kps l) [2]]) rfl hs7
    have hs9 : SatC (Im Tm) G ρ2 ([.at_ (n + 2) g, .abs (.kpt k) [n + 2], .abs (.kps ((g2, k2) :: l)) [n + 1]] ++ rest) F w := hs8.perm ((List.Perm.swap _ _ _).trans ((List.Perm.swap _ _ _).cons _))
    have hs10 : SatC (Im Tm) G ρ2 (.abs (.kps ((g, k) :: (g2, k2) :: l)) [id] :: rest) F w := SatC.close (Tm := Tm) [n + 2, n + 1] (cs' := [.at_ 1 g, .abs (.kpt k) [1], .abs (.kps ((g2, k2) :: l)) [2]]) rfl hs9
    refine hs10.congr (p := belowB n) (by simp only [call, Chunk.idOk, idsOk, hr, bel hid, Bool.true_and]) fun i hi => ?_
    have := belowB_lt hi
    rw [he2 i (by omega), he i this]
  | trans h1 h2 ih1 ih2 => intro ρ id n rest hid hr hs; exact ih2 hid hr (ih1 hid hr hs)
theorem op_kps {X : Cx Pd} (hI : X.I = Im Tm) (id : Nat) {l l' : List (Nat × Kpt)} (h : l.Perm l') {op : Op} {type : TypeId} {vals : List SV} {cs rest : List (Chunk Pd)} {n : Nat} {cont : Out → List (Chunk Pd) → Nat → Prop}
    (hp : pickC [id] cs = some ([.abs (.kps l) [id]], rest)) (hid : belowB n id = true) (hr : call (belowB n) rest = true) (hv : SV.idOkL (belowB n) vals = true)
    (hk : NodeX X op type vals (.abs (.kps l') [id] :: rest) n cont) : NodeX X op type vals cs n cont := by
  refine op_ent (ι := Unit) (fun _ => .abs (.kps l') [id] :: rest) hv (Nat.le_refl n) (fun ρ F w hs => ?_) fun _ => hk
  rw [hI] at hs ⊢
  exact ⟨(), ρ, Ext.refl _ _, kps_sat h (belowB_lt hid) hr (hs.perm (pick_one hp))⟩
theorem leads_kps {X : Cx Pd} (hI : X.I = Im Tm) (id : Nat) {l l' : List (Nat × Kpt)} (h : l.Perm l') {rest : List (Chunk Pd)} {s : St Pd} {J : St Pd → Prop}
    (hp : pickC [id] s.cs = some ([.abs (.kps l) [id]], rest)) (hid : belowB s.n id = true) (hr : call (belowB s.n) rest = true)
    (hk : Leads X ⟨s.env, .abs (.kps l') [id] :: rest, s.n⟩ J) : Leads X s J := by
  intro ρ F a w hr2
  refine hk ρ F a w ⟨hr2.env, ?_, hr2.size, hr2.dfs, hr2.nin⟩
  have hs := hr2.mem
  rw [hI] at hs ⊢
  exact kps_sat h (belowB_lt hid) hr (hs.perm (pick_one hp))
theorem fin_kps {B : Base Pd} {G : Gl} (hI : B.I = Im Tm) (n id : Nat) {l l' : List (Nat × Kpt)} (h : l.Perm l') {K : Out → List (Chunk Pd) → Prop} {nin : Nat} {out : Out} {cs rest : List (Chunk Pd)}
    (hp : pickC [id] cs = some ([.abs (.kps l) [id]], rest)) (hid : belowB n id = true) (hr : call (belowB n) rest = true) (hk : Fin B G K nin out (.abs (.kps l') [id] :: rest)) : Fin B G K nin out cs := by
  intro ρ F w hs
  refine hk ρ F w ?_
  rw [hI] at hs ⊢
  exact kps_sat h (belowB_lt hid) hr (hs.perm (pick_one hp))
/-- what is kept, each with its name, at its block -/
abbrev Item := Nat × (ByteArray × Kpt)
def mapL (l : List Item) : List (Sx.Lit × Sx.Lit) := l.map fun x => (.str x.2.1, .ptr x.1)
def kpsL (l : List Item) : List (Nat × Kpt) := l.map fun x => (x.1, x.2.2)
def AncB (a : Anc) : Prop := a.size ≤ 200 ∧ a.told ≤ 40 ∧ a.kept.length ≤ a.size ∧ (∀ x ∈ a.kept, x.2.list.length ≤ a.size) ∧ (∀ x ∈ a.kept, ∀ y ∈ x.2.list, okE y) ∧ (a.kept.map (·.1)).Nodup ∧ (∀ x ∈ a.kept, x.1.size ≤ 200)
def ancC (a : Anc) (es : List (Sx.Lit × Sx.Lit)) (ks : List (Nat × Kpt)) : List (Chunk Pd) := [.cells 0 70 [.map 1, .int .i64 (Int.ofNat a.size), .int .i64 (Int.ofNat a.told)], .map 1 es, .abs (.kps ks) [2]]
theorem zip_facts : ∀ (gs : List Nat) (kept : List (ByteArray × Kpt)), gs.length = kept.length → (gs.zip kept).map (·.2) = kept ∧ ancL kept gs = mapL (gs.zip kept) ∧ gs.zip (kept.map (·.2)) = kpsL (gs.zip kept)
  | [], [], _ => ⟨rfl, rfl, rfl⟩
  | g :: gs, k :: kept, h => by
    obtain ⟨h1, h2, h3⟩ := zip_facts gs kept (by simpa using h)
    refine ⟨?_, ?_, ?_⟩
    · simp only [List.zip_cons_cons, List.map_cons, h1]
    · simp only [ancL, mapL, List.zip_cons_cons, List.map_cons, List.cons.injEq, true_and] at h2 ⊢; exact h2
    · simp only [kpsL, List.zip_cons_cons, List.map_cons, List.cons.injEq, true_and] at h3 ⊢; exact h3
theorem anc_open {a : Anc} {cs : List (Chunk Pd)} (h : Tm (.anc a) cs) : AncB a ∧ ∃ (items : List Item) (es : List (Sx.Lit × Sx.Lit)) (ks : List (Nat × Kpt)), items.map (·.2) = a.kept ∧ es = mapL items ∧ ks = kpsL items ∧ cs = ancC a es ks := by
  obtain ⟨gs, h1, h2, h3, h4, h5, h6, h7, h8, rfl⟩ := h
  obtain ⟨z1, z2, z3⟩ := zip_facts gs a.kept h1
  exact ⟨⟨h2, h3, h4, h5, h6, h7, h8⟩, gs.zip a.kept, _, _, z1, rfl, rfl, by rw [z2, z3]; rfl⟩
theorem anc_close {a : Anc} {items : List Item} {es : List (Sx.Lit × Sx.Lit)} {ks : List (Nat × Kpt)} (hb : AncB a) (hi : items.map (·.2) = a.kept) (he : es = mapL items) (hk : ks = kpsL items) : Tm (.anc a) (ancC a es ks) := by
  subst he hk
  obtain ⟨h2, h3, h4, h5, h6, h7, h8⟩ := hb
  have hl : (items.map (·.1)).length = a.kept.length := by rw [← hi]; simp
  obtain ⟨z1, z2, z3⟩ := zip_facts (items.map (·.1)) a.kept hl
  have hz : (items.map (·.1)).zip a.kept = items := by rw [← hi]; clear hi hl z1 z2 z3; induction items with
    | nil => rfl
    | cons x r ih => simp only [List.map_cons, List.zip_cons_cons, ih]
  refine ⟨items.map (·.1), hl, h2, h3, h4, h5, h6, h7, h8, ?_⟩
  rw [z2, z3, hz]; rfl
end Hx
/- anchors.kept.goes, Anchors.Open. -/
namespace Hx
open Go Sx Go.Proofs
set_option maxRecDepth 100000
set_option maxHeartbeats 4000000
set_option linter.unusedVariables false
set_option linter.unusedSimpArgs false
variable {GOk : Gl → Prop}
variable {right : Ev → Bool}
def RgtOk (GOk : Gl → Prop) (right : Ev → Bool) : Prop := ∀ x, okE x → Triple (BB Ip GOk) 17 0 0 [.agg [.int .i64 x.kind, .str x.text, .str x.val]] [] (fun K => ∀ b, b = right x → K (.ret (.bool b)) [])
theorem step_rgt (hr : RgtOk GOk right) (c : Chk) (x : Ev) (hx : okE x) : Triple (BB Ip GOk) 11 1 1 [.ptr 0 0, .agg [.int .i64 x.kind, .str x.text, .str x.val]] [.abs (.chk c) [0]]
      (fun K => ∀ e c', (e, c') = chkStep right c x → K (.ret (.int .i64 e)) [.abs (.chk c') [0]]) := by
  cases h : c.opens with
  | nil => exact step_none right c x (hr x hx) h
  | cons o r => exact step_some right c x (hr x hx) o r h
theorem chkRun_snoc (c : Chk) (l : List Ev) (x : Ev) : chkRun right c (l ++ [x]) = (chkStep right (chkRun right c l) x).2 := by simp [chkRun]
theorem goes_spec (hr : RgtOk GOk right) (k : Kpt) (x : Ev) (hx : okE x) (hl : ∀ y ∈ k.list, okE y) (hlen : k.list.length ≤ 1000) : Triple (BB Ip GOk) 174 1 1 [.ptr 0 0, .agg [.int .i64 x.kind, .str x.text, .str x.val]] [.abs (.kpt k) [0]]
    (fun K => ∀ b, b = kptGoes right k x → K (.ret (.bool b)) [.abs (.kpt k) [0]]) := by
  obtain ⟨list, check⟩ := k
  obtain ⟨kind, text, val⟩ := x
  simp only at hl hlen
  refine triple_of BB_ok (tb := ty) rfl (n0 := 3) (fun y : {cs' // Tm (.kpt ⟨list, check⟩) cs'} => csRen (sg [0] 1) y.1 ++ []) pl174 Tryz.call174 Tryz.func174 rfl (by kernel_rfl) (Nat.le_of_ble_eq_true rfl) (by decide) rfl (pre_open rfl rfl rfl) ?_
  rintro G hG K hK W bi bc bs bk bu bb bo bg bl bp bn be Ncond Nob Nop Nloop Nscope hN Nfin hf _ ⟨cs', hT⟩
  obtain ⟨p, lo, len, cap, xs, hv, rfl⟩ := id hT
  simp only at hv
  have hvl := hv.length
  have hroom := hv.room
  have hfits := hv.fits
  cbv
  refine op_ hN (call_ (ev_new_spec) hG [] rfl rfl rfl rfl rfl ?_)
  cbv
  refine loopN_ hN (loop_ hN ty_ok mixed (ι := Nat) (fun i => ⟨[(3, .ptr 3 0), (5, .ptr 4 0), (12, .vec p 1 3 lo len cap), (13, .int .i64 (Int.ofNat len)), (14, .int .i64 (Int.ofNat i))],
      [.cells 3 44 [.int .i64 kind, .str text, .str val], .abs (.chk (chkRun right chk0 (list.take i))) [4], .cells 0 233 [.vec p 1 3 lo len cap, .ptr 2 0], .arr p true 1 44 encE xs, .abs (.chk check) [2]], 5⟩)
    (fun i => i ≤ len) (fun i => len - i) ?_ ?_)
  · exact Leads.idx 0 [1, 2, 3, 4] (Nat.zero_le _) ⟨⟨rfl, rfl, rfl, rfl, rfl, trivial⟩, rfl, Nat.le_of_ble_eq_true rfl⟩
  rintro i hi Nnext hn _
  generalize hc : chkRun right chk0 (list.take i) = c
  cbv
  refine cond_ hN (fun h => ?_) (fun h => ?_)
  · rw [clt hN] at h
    simp only [decide_eq_true_eq, decide_eq_false_iff_not, Int.ofNat_eq_natCast, gt_iff_lt, ge_iff_le, Bool.not_eq_true', Bool.not_eq_false', Int.not_lt, Int.not_le] at h
    have hilt : i < len := by have : (i : Int) < (len : Int) := h; omega
    have hpt : p = true := by
      cases p with
      | true => rfl
      | false => have := hv.pr rfl; omega
    have hidx : bp lo (Int.ofNat i) = lo + i := by rw [bp_ hN]; simp
    have hil : i < list.length := by omega
    have hxi : xs[lo + i]? = some (list[i]'hil) := by
      have h5 : ((xs.drop lo).take len)[i]? = some (list[i]'hil) := by rw [hv.eq]; exact List.getElem?_eq_getElem hil
      rw [List.getElem?_take, if_pos hilt, List.getElem?_drop] at h5
      exact h5
    have htake : list.take (i + 1) = list.take i ++ [list[i]'hil] := by rw [List.take_add_one, List.getElem?_eq_getElem hil]; rfl
    have hoky := hl _ (List.getElem_mem hil)
    generalize (list[i]'hil) = y at hxi htake hoky
    obtain ⟨kind1, text1, val1⟩ := y
    have hsub : bi .add .i64 (Int.ofNat i) 1 = Int.ofNat (i + 1) := inext hN (by omega)
    cbv
    refine ob_ hN ⟨⟨by simp, by simpa using hilt⟩, hpt, trivial⟩ ?_
    cbv
    refine op_ hN (load_arr ty_ok rfl hpt rfl wideE (Nat.le_of_ble_eq_true rfl) (by rw [hidx]; omega) ?_)
    intro x2 hx2
    rw [hidx, hxi] at hx2
    obtain rfl := (Option.some.inj hx2).symm
    cbv
    refine op_ hN (call_ (step_rgt hr c ⟨kind1, text1, val1⟩ hoky) hG [4] rfl rfl rfl rfl rfl ?_)
    intro e c' he
    have hc' : chkRun right chk0 (list.take (i + 1)) = c' := by rw [htake, chkRun_snoc, hc, ← he]
    cbv
    simp only [hsub]
    rw [← hc']
    exact hn _ (Leads.nxt (i + 1) [1, 2, 3, 4] hilt (by omega) ⟨⟨rfl, rfl, rfl, rfl, rfl, trivial⟩, rfl, Nat.le_of_ble_eq_true rfl⟩)
  · rw [clt hN] at h
    simp only [decide_eq_true_eq, decide_eq_false_iff_not, Int.ofNat_eq_natCast, gt_iff_lt, ge_iff_le, Bool.not_eq_true', Bool.not_eq_false', Int.not_lt, Int.not_le] at h
    have hie : i = len := by have : (len : Int) ≤ (i : Int) := h; omega
    have hc2 : c = chkRun right chk0 list := by rw [← hc, hie, ← hvl, List.take_length]
    cbv
    refine op_ hN (call_ (step_rgt hr c ⟨kind, text, val⟩ hx) hG [4] rfl rfl rfl rfl rfl ?_)
    intro e c' he
    cbv
    refine hf _ _ (fin_close rfl (.kpt ⟨list, check⟩) [0] [1, 2] _ hT rfl (fin_ [] rfl rfl (hK _ ?_)))
    rw [ceq hN]
    simp only [kptGoes]
    rw [← hc2, ← he]
end Hx
/- anchors.Anchors.Open. -/
namespace Hx
open Go Sx Go.Proofs
set_option maxRecDepth 100000
set_option maxHeartbeats 4000000
set_option linter.unusedVariables false
set_option linter.unusedSimpArgs false
variable {GOk : Gl → Prop}
variable {right : Ev → Bool}
theorem mapL_keys (l : List Item) : ∀ x ∈ mapL l, keyK .string x.1 := by
  intro x hx
  obtain ⟨y, _, rfl⟩ := List.mem_map.1 hx
  trivial
theorem mapL_mem {l : List Item} {s : ByteArray} {v : Sx.Lit} (h : (Sx.Lit.str s, v) ∈ mapL l) : ∃ x ∈ l, x.2.1 = s ∧ v = .ptr x.1 := by
  obtain ⟨x, hx, e⟩ := List.mem_map.1 h
  simp only [Prod.mk.injEq, Sx.Lit.str.injEq] at e
  exact ⟨x, hx, e.1, e.2.symm⟩
theorem mapL_not {l : List Item} {s : ByteArray} (h : ∀ x ∈ mapL l, x.1 ≠ .str s) : ∀ x ∈ l, x.2.1 ≠ s :=
  fun x hx e => h (.str x.2.1, .ptr x.1) (List.mem_map.2 ⟨x, hx, rfl⟩) (by rw [e])
theorem ancHas_none {l : List (ByteArray × Kpt)} {s : ByteArray} (h : ∀ x ∈ l, x.1 ≠ s) : ancHas l s = none := by
  unfold ancHas
  rw [List.find?_eq_none.2 (fun x hx => by simpa using h x hx)]; rfl
theorem ancHas_some {l : List (ByteArray × Kpt)} {s : ByteArray} {k : Kpt} (hn : (l.map (·.1)).Nodup) (h : (s, k) ∈ l) : ancHas l s = some k := by
  unfold ancHas
  induction l with
  | nil => exact nomatch h
  | cons y r ih =>
    rw [List.map_cons, List.nodup_cons] at hn
    rw [List.find?_cons]
    rcases List.mem_cons.1 h with rfl | h
    · simp
    · have hne : y.1 ≠ s := fun e => hn.1 (e ▸ List.mem_map.2 ⟨(s, k), h, rfl⟩)
      simp only [hne, decide_false]
      exact ih hn.2 h
theorem open_spec (a : Anc) (name : ByteArray) (hz : name.size < 1099511627776) : Triple (BB Ip GOk) 177 1 1 [.ptr 0 0, .str name] [.abs (.anc a) [0]] (fun K => ∀ e a', (e, a') = ancOpen a name → K (.ret (.int .i64 e)) [.abs (.anc a') [0]]) := by
  refine triple_of BB_ok (tb := ty) rfl (n0 := 3) (fun y : {cs' // Tm (.anc a) cs'} => csRen (sg [0] 1) y.1 ++ []) pl177 Tryz.call177 Tryz.func177 rfl (by kernel_rfl) (Nat.le_of_ble_eq_true rfl) (by decide) rfl (pre_open rfl rfl rfl) ?_
  rintro G hG K hK W bi bc bs bk bu bb bo bg bl bp bn be Ncond Nob Nop Nloop Nscope hN Nfin hf _ ⟨cs', hT⟩
  obtain ⟨hB, items, es, ks, hi, hes, hks, rfl⟩ := anc_open hT
  obtain ⟨kept, size, told⟩ := a
  obtain ⟨b1, b2, b3, b4, b5, b6, b7⟩ := id hB
  simp only at b1 b2 b3 b4 b5 b6 b7 hi
  cbv
  have hkept : ∀ x : Item, x ∈ items → x.2 ∈ kept := fun x hx => by rw [← hi]; exact List.mem_map.2 ⟨x, hx, rfl⟩
  have same : ∀ e : Int, (e, (⟨kept, size, told⟩ : Anc)) = ancOpen ⟨kept, size, told⟩ name → ∀ cs rest, pickC (idsOf (csRen (nm ([0] ++ [1, 2])) (ancC ⟨kept, size, told⟩ es ks))) cs = some (csRen (nm ([0] ++ [1, 2])) (ancC ⟨kept, size, told⟩ es ks), rest) → Nfin (.ret (.int .i64 e)) cs :=
    fun e he cs rest hp => hf _ _ (fin_close rfl (.anc ⟨kept, size, told⟩) [0] [1, 2] _ hT hp (fin_ [] rfl rfl (hK e _ he)))
  refine op_ hN (lookup_ ty_ok (.str name) rfl rfl rfl rfl rfl rfl rfl trivial (hes ▸ mapL_keys items) (fun v hv => ?_) (fun hno => ?_))
  · obtain ⟨⟨g, nm, k⟩, hx, hxn, rfl⟩ := mapL_mem (hes ▸ hv)
    have hh : ancHas kept name = some k := ancHas_some b6 (by have := hkept _ hx; simp only at this hxn; rw [← hxn]; exact this)
    cbv
    refine op_ hN (call_ (local_spec name) hG [] rfl rfl rfl rfl rfl ?_)
    intro l hl
    cases l with
    | false =>
      cbv
      refine cond_T hN rfl ?_
      cbv
      exact same 1 (by simp only [ancOpen]; rw [if_pos (by rw [← hl]; rfl)]) _ _ rfl
    | true =>
      cbv
      refine cond_F hN rfl ?_
      cbv
      exact same 6 (by simp only [ancOpen]; rw [if_neg (by rw [← hl]; decide), if_pos (by rw [hh]; rfl)]) _ _ rfl
  · have hh : ancHas kept name = none := ancHas_none fun x hx => by
      rw [← hi] at hx
      obtain ⟨y, hy, rfl⟩ := List.mem_map.1 hx
      exact mapL_not (hes ▸ hno) y hy
    cbv
    refine op_ hN (call_ (local_spec name) hG [] rfl rfl rfl rfl rfl ?_)
    intro l hl
    cases l with
    | false =>
      cbv
      refine cond_T hN rfl ?_
      cbv
      exact same 1 (by simp only [ancOpen]; rw [if_pos (by rw [← hl]; rfl)]) _ _ rfl
    | true =>
      have hpos : 0 < name.size := by
        refine Nat.pos_of_ne_zero fun h0 => ?_
        have : name = ⟨#[]⟩ := by cases name; simp only [ByteArray.mk.injEq]; exact Array.eq_empty_of_size_eq_zero h0
        rw [this] at hl
        exact absurd hl (by decide)
      have hadd : bi .add .i64 (Int.ofNat size) (bn name) = Int.ofNat (size + name.size) := by rw [len_eq hN, iadd hN (by simp; omega) (by simp; omega)]; simp
      obtain ⟨S, hS⟩ : ∃ x, x = size + name.size := ⟨_, rfl⟩
      rw [← hS] at hadd
      cbv
      refine cond_F hN rfl ?_
      cbv
      simp only [hadd]
      refine cond_ hN (fun h2 => ?_) (fun h2 => ?_)
      · rw [cgt hN] at h2
        have h2' : size + name.size > 200 := by have : (200 : Int) < ((S : Nat) : Int) := by simpa using h2
                                                omega
        cbv
        exact same 12 (by simp only [ancOpen]; rw [if_neg (by rw [← hl]; decide), if_neg (by rw [hh]; decide), if_pos h2']) _ _ rfl
      · rw [cgt hN] at h2
        have h2' : ¬ size + name.size > 200 := by have : ¬ (200 : Int) < ((S : Nat) : Int) := by simpa using h2
                                                  omega
        have hM : ancOpen ⟨kept, size, told⟩ name = (0, ⟨kept ++ [(name, ⟨[], chk0⟩)], S, told⟩) := by
          simp only [ancOpen]; rw [if_neg (by rw [← hl]; decide), if_neg (by rw [hh]; decide), if_neg h2', hS]
        have hK2 := hK 0 _ hM.symm
        cbv
        simp only [hadd]
        cbv
        repeat' (first | exact True.intro | with_reducible refine dup ?_ | refine And.intro ?_ ?_)
        all_goals
          refine op_ hN (call_ (ev_new_spec) hG [] rfl rfl rfl rfl rfl ?_)
          cbv
          repeat' (first | exact True.intro | with_reducible refine dup ?_ | refine And.intro ?_ ?_)
          all_goals
            refine op_ hN (op_name 10 rfl fun g => ?_)
            refine op_vals (vals' := [.map 1, .str name, .gptr g 0]) (fun ρ F w h => by have := h.at_ (j := 10) (g := g) (List.mem_cons_self ..); simp [SV.denL, SV.den, this]) ?_
            refine update_ ty_ok (.str name) (.ptr g) (.inl rfl) rfl rfl rfl rfl rfl rfl (fun _ => rfl) trivial (hes ▸ mapL_keys items) hno ?_
            have hes2 : es ++ [(Sx.Lit.str name, Sx.Lit.ptr g)] = mapL (items ++ [(g, (name, ⟨[], chk0⟩))]) := by rw [hes]; simp [mapL]
            have hks2 : ks ++ [(g, (⟨[], chk0⟩ : Kpt))] = kpsL (items ++ [(g, (name, ⟨[], chk0⟩))]) := by rw [hks]; simp [kpsL]
            have hperm : ((g, (⟨[], chk0⟩ : Kpt)) :: ks).Perm (ks ++ [(g, ⟨[], chk0⟩)]) := List.perm_append_comm (l₁ := [(g, (⟨[], chk0⟩ : Kpt))])
            have hB2 : AncB ⟨kept ++ [(name, ⟨[], chk0⟩)], S, told⟩ := by
              refine ⟨by simp only; omega, b2, by simp only [List.length_append, List.length_singleton]; omega, ?_, ?_, ?_, ?_⟩
              · intro x hx
                rcases List.mem_append.1 hx with hx | hx
                · exact Nat.le_trans (b4 x hx) (by simp only; omega)
                · rw [List.mem_singleton.1 hx]; exact Nat.zero_le _
              · intro x hx
                rcases List.mem_append.1 hx with hx | hx
                · exact b5 x hx
                · rw [List.mem_singleton.1 hx]; exact fun y hy => nomatch hy
              · simp only [List.map_append, List.map_cons, List.map_nil]
                refine List.nodup_append.2 ⟨b6, by simp, fun y hy z hz e => ?_⟩
                rw [List.mem_singleton.1 hz] at e
                obtain ⟨x, hx, rfl⟩ := List.mem_map.1 hy
                rw [← hi] at hx
                obtain ⟨v, hv, rfl⟩ := List.mem_map.1 hx
                exact mapL_not (hes ▸ hno) v hv e
              · intro x hx
                rcases List.mem_append.1 hx with hx | hx
                · exact b7 x hx
                · rw [List.mem_singleton.1 hx]; simp only; omega
            have hi2 : (items ++ [(g, (name, (⟨[], chk0⟩ : Kpt)))]).map (·.2) = kept ++ [(name, ⟨[], chk0⟩)] := by rw [List.map_append, hi]; rfl
            have hT2 := anc_close (a := ⟨kept ++ [(name, ⟨[], chk0⟩)], S, told⟩) hB2 hi2 hes2 hks2
            clear hB2 hi2
            generalize kept ++ [(name, (⟨[], chk0⟩ : Kpt))] = kept2 at hK2 hT2
            generalize ks ++ [(g, (⟨[], chk0⟩ : Kpt))] = ks2 at hT2 hperm
            generalize es ++ [(Sx.Lit.str name, Sx.Lit.ptr g)] = es2 at hT2 ⊢
            cbv
            refine hf _ _ (fin_noArr true 13 44 encE [] ?_)
            refine fin_cput 10 [.vec false 13 3 0 0 0, .ptr 12 0] rfl (fun _ => rfl) ?_
            refine fin_close rfl (.kpt ⟨[], chk0⟩) [10] [13, 12] [.cells 0 233 [.vec false 1 3 0 0 0, .ptr 2 0], .arr false true 1 44 encE [], .abs (.chk chk0) [2]] ⟨false, 0, 0, 0, [], ⟨fun _ => rfl, Nat.le_refl _, Nat.le_refl _, rfl⟩, rfl⟩ rfl ?_
            refine fin_close rfl (.kps ((g, ⟨[], chk0⟩) :: ks)) [14] [10, 2] [.at_ 1 g, .abs (.kpt ⟨[], chk0⟩) [1], .abs (.kps ks) [2]] rfl rfl ?_
            refine fin_kps rfl 20 14 hperm rfl rfl rfl ?_
            exact fin_close rfl (.anc ⟨kept2, S, told⟩) [0] [1, 14] _ hT2 rfl (fin_ [] rfl rfl hK2)
end Hx
/- anchors.Anchors.Get. -/
namespace Hx
open Go Sx Go.Proofs
set_option maxRecDepth 100000
set_option maxHeartbeats 4000000
set_option linter.unusedVariables false
set_option linter.unusedSimpArgs false
variable {GOk : Gl → Prop}
variable {right : Ev → Bool}
theorem item_perm {items : List Item} {x : Item} (hx : x ∈ items) : ∃ l1 l2, items = l1 ++ x :: l2 ∧ (kpsL items).Perm ((x.1, x.2.2) :: kpsL (l1 ++ l2)) := by
  obtain ⟨l1, l2, rfl⟩ := List.append_of_mem hx
  refine ⟨l1, l2, rfl, ?_⟩
  simp only [kpsL, List.map_append, List.map_cons]
  exact List.perm_middle
theorem get_spec (a : Anc) (name : ByteArray) : Triple (BB Ip GOk) 186 1 2 [.ptr 0 0, .str name] [.abs (.anc a) [0]]
    (fun K => ∀ l e a', ((l, e), a') = ancGet a name → (∀ x ∈ l, okE x) → ∀ p lo len cap xs, VecOk p lo len cap xs l → K (.ret (.tuple [.vec p 1 3 lo len cap, .int .i64 e])) [.abs (.anc a') [0], .arr p true 1 44 encE xs]) := by
  refine triple_of BB_ok (tb := ty) rfl (n0 := 3) (fun y : {cs' // Tm (.anc a) cs'} => csRen (sg [0] 1) y.1 ++ []) pl186 Tryz.call186 Tryz.func186 rfl (by kernel_rfl) (Nat.le_of_ble_eq_true rfl) (by decide) rfl (pre_open rfl rfl rfl) ?_
  rintro G hG K hK W bi bc bs bk bu bb bo bg bl bp bn be Ncond Nob Nop Nloop Nscope hN Nfin hf _ ⟨cs', hT⟩
  obtain ⟨hB, items, es, ks, hi, hes, hks, rfl⟩ := anc_open hT
  obtain ⟨kept, size, told⟩ := a
  obtain ⟨b1, b2, b3, b4, b5, b6, b7⟩ := id hB
  simp only at b1 b2 b3 b4 b5 b6 b7 hi
  have hkept : ∀ x : Item, x ∈ items → x.2 ∈ kept := fun x hx => by rw [← hi]; exact List.mem_map.2 ⟨x, hx, rfl⟩
  have none_ : ∀ e : Int, (([], e), (⟨kept, size, told⟩ : Anc)) = ancGet ⟨kept, size, told⟩ name → K (.ret (.tuple [.vec false 1 3 0 0 0, .int .i64 e])) [.abs (.anc ⟨kept, size, told⟩) [0], .arr false true 1 44 encE []] :=
    fun e he => hK [] e _ he (fun x hx => nomatch hx) false 0 0 0 [] ⟨fun _ => rfl, Nat.le_refl _, Nat.le_refl _, rfl⟩
  cbv
  refine op_ hN (lookup_ ty_ok (.str name) rfl rfl rfl rfl rfl rfl rfl trivial (hes ▸ mapL_keys items) (fun v hv => ?_) (fun hno => ?_))
  · obtain ⟨⟨g, nm, k⟩, hx, hxn, rfl⟩ := mapL_mem (hes ▸ hv)
    simp only at hxn
    have hmem : (name, k) ∈ kept := by have := hkept _ hx; rw [← hxn]; exact this
    have hh : ancHas kept name = some k := ancHas_some b6 hmem
    obtain ⟨l1, l2, hit, hperm⟩ := item_perm hx
    rw [← hks] at hperm
    simp only at hperm
    have hlk := b4 _ hmem
    have hok := b5 _ hmem
    simp only at hlk hok
    obtain ⟨ks2, hks2⟩ : ∃ ks2, ks2 = kpsL (l1 ++ l2) := ⟨_, rfl⟩
    rw [← hks2] at hperm
    obtain ⟨list, check⟩ := k
    simp only at hlk hok hperm
    have back : (( (g, (⟨list, check⟩ : Kpt))) :: ks2).Perm ks := hperm.symm
    cbv
    refine op_ hN (op_kps rfl 2 hperm rfl rfl rfl rfl ?_)
    refine op_open rfl 2 2 rfl rfl rfl rfl ?_
    rintro _ rfl
    refine op_open rfl 3 2 rfl rfl rfl rfl ?_
    rintro _ ⟨p, lo, len, cap, xs, hv1, rfl⟩
    refine op_vals (vals' := [.ptr 3 1]) (fun ρ F w h => by have := h.at_ (j := 3) (g := g) (by simp [csRen, Chunk.ren, sg]); simp [SV.denL, SV.den, this]) ?_
    refine load_ ty_ok rfl ?_
    simp only at hv1
    have hlen := hv1.length
    have hroom := hv1.room
    have hfits := hv1.fits
    have hkpt : Tm (.kpt ⟨list, check⟩) [.cells 0 233 [.vec p 1 3 lo len cap, .ptr 2 0], .arr p true 1 44 encE xs, .abs (.chk check) [2]] := ⟨p, lo, len, cap, xs, hv1, rfl⟩
    cbv
    refine op_ hN (call_ (done_spec check) hG [6] rfl rfl rfl rfl rfl ?_)
    intro b hb
    have hb : b = kptDone ⟨list, check⟩ := hb
    cases b with
    | false =>
      have hM : ancGet ⟨kept, size, told⟩ name = (([], 11), ⟨kept, size, told⟩) := by simp only [ancGet]; rw [hh]; simp only; rw [if_pos (by rw [← hb]; rfl)]
      cbv
      refine cond_T hN rfl ?_
      cbv
      refine hf _ _ (fin_noArr true 30 44 encE [] (fin_as (.tuple [.vec false 30 3 0 0 0, .int .i64 11]) (fun _ => rfl) ?_))
      refine fin_close rfl (.kpt ⟨list, check⟩) [3] [5, 6] _ hkpt rfl ?_
      refine fin_close rfl (.kps ((g, ⟨list, check⟩) :: ks2)) [2] [3, 4] [.at_ 1 g, .abs (.kpt ⟨list, check⟩) [1], .abs (.kps ks2) [2]] rfl rfl ?_
      refine fin_kps rfl 40 2 back rfl rfl rfl ?_
      exact fin_close rfl (.anc ⟨kept, size, told⟩) [0] [1, 2] _ hT rfl (fin_ [30] rfl rfl (none_ 11 hM.symm))
    | true =>
      cbv
      refine cond_F hN rfl ?_
      cbv
      repeat' (first | exact True.intro | with_reducible refine dup ?_ | refine And.intro ?_ ?_)
      all_goals
        have hadd : bi .add .i64 (Int.ofNat told) (Int.ofNat len) = Int.ofNat (told + len) := by rw [iadd hN (by simp; omega) (by simp; omega)]; simp
        refine op_ hN (op_vals (vals' := [.ptr 3 0]) (fun ρ F w h => by have := h.at_ (j := 3) (g := g) (by simp); simp [SV.denL, SV.den, this]) (load_ ty_ok rfl ?_))
        cbv
        repeat' (first | exact True.intro | with_reducible refine dup ?_ | refine And.intro ?_ ?_)
      all_goals
        simp only [hadd]
        refine cond_ hN (fun h2 => ?_) (fun h2 => ?_)
        · rw [cgt hN] at h2
          have h2' : told + list.length > 40 := by have : (40 : Int) < ((told + len : Nat) : Int) := by simpa using h2
                                                   omega
          have hM : ancGet ⟨kept, size, told⟩ name = (([], 13), ⟨kept, size, told⟩) := by simp only [ancGet]; rw [hh]; simp only; rw [if_neg (by rw [← hb]; decide), if_pos h2']
          cbv
          refine hf _ _ (fin_noArr true 30 44 encE [] (fin_as (.tuple [.vec false 30 3 0 0 0, .int .i64 13]) (fun _ => rfl) ?_))
          refine fin_close rfl (.kpt ⟨list, check⟩) [3] [5, 6] _ hkpt rfl ?_
          refine fin_close rfl (.kps ((g, ⟨list, check⟩) :: ks2)) [2] [3, 4] [.at_ 1 g, .abs (.kpt ⟨list, check⟩) [1], .abs (.kps ks2) [2]] rfl rfl ?_
          refine fin_kps rfl 40 2 back rfl rfl rfl ?_
          exact fin_close rfl (.anc ⟨kept, size, told⟩) [0] [1, 2] _ hT rfl (fin_ [30] rfl rfl (none_ 13 hM.symm))
        · rw [cgt hN] at h2
          have h2' : ¬ told + list.length > 40 := by have : ¬ (40 : Int) < ((told + len : Nat) : Int) := by simpa using h2
                                                     omega
          obtain ⟨tld, htld⟩ : ∃ x, x = told + len := ⟨_, rfl⟩
          have hM : ancGet ⟨kept, size, told⟩ name = ((list, 0), ⟨kept, size, tld⟩) := by simp only [ancGet]; rw [hh]; simp only; rw [if_neg (by rw [← hb]; decide), if_neg h2', hlen, htld]
          rw [← htld] at hadd
          cbv
          repeat' (first | exact True.intro | with_reducible refine dup ?_ | refine And.intro ?_ ?_)
          all_goals
            refine op_ hN (op_vals (vals' := [.ptr 3 0]) (fun ρ F w h => by have := h.at_ (j := 3) (g := g) (by simp); simp [SV.denL, SV.den, this]) (load_ ty_ok rfl ?_))
            cbv
            simp only [hadd]
            repeat' (first | exact True.intro | with_reducible refine dup ?_ | refine And.intro ?_ ?_)
          all_goals
            refine op_ hN (op_vals (vals' := [.ptr 3 0]) (fun ρ F w h => by have := h.at_ (j := 3) (g := g) (by simp); simp [SV.denL, SV.den, this]) (load_ ty_ok rfl ?_))
            cbv
            refine op_ hN (inline_ BB_ok (tb := ty) rfl pl195 Tryz.call195 Tryz.func195 rfl (by kernel_rfl) (Nat.le_of_ble_eq_true rfl) ?_)
            intro W2 bi2 bc2 bs2 bk2 bu2 bb2 bo2 bg2 bl2 bp2 bn2 be2 Ncond2 Nob2 Nop2 Nloop2 Nscope2 hN2
            have hTm2 := anc_close (a := ⟨kept, size, tld⟩) (items := items) ⟨b1, by simp only; omega, b3, b4, b5, b6, b7⟩ hi hes hks
            have hK2 := hK list 0 _ hM.symm hok
            cbv
            refine op_ hN2 (eq_nil_slice ty_ok rfl rfl (by kernel_rfl) ?_)
            cases p with
            | false =>
              have hl0 : list = [] := List.eq_nil_of_length_eq_zero (by have := hv1.pr rfl; omega)
              cbv
              refine cond_T hN2 rfl ?_
              cbv
              refine hf _ _ (fin_noArr true 50 44 encE [] (fin_as (.tuple [.vec false 50 3 0 0 0, .int .i64 0]) (fun _ => rfl) ?_))
              refine fin_close rfl (.kpt ⟨list, check⟩) [3] [5, 6] _ hkpt rfl ?_
              refine fin_close rfl (.kps ((g, ⟨list, check⟩) :: ks2)) [2] [3, 4] [.at_ 1 g, .abs (.kpt ⟨list, check⟩) [1], .abs (.kps ks2) [2]] rfl rfl ?_
              refine fin_kps rfl 60 2 back rfl rfl rfl ?_
              exact fin_close rfl (.anc ⟨kept, size, tld⟩) [0] [1, 2] _ hTm2 rfl (fin_ [50] rfl rfl (hK2 false 0 0 0 [] ⟨fun _ => rfl, Nat.le_refl _, Nat.le_refl _, by rw [hl0]; rfl⟩))
            | true =>
              cbv
              refine cond_F hN2 rfl ?_
              cbv
              refine op_ hN2 (build0_ ty_ok encE rfl rfl rfl rfl rfl ?_)
              cbv
              refine op_ hN2 (append_vec (new := list) (z := ⟨0, ⟨#[]⟩, ⟨#[]⟩⟩) ty_ok rfl rfl rfl rfl (fun k => by simp) rfl rfl wideE rfl rfl (src_vec wideE rfl (by omega) (fun h => nomatch h) hv1.eq) (fun h => nomatch h) (Nat.le_refl _) (Nat.le_refl _) (by simp; omega) (by decide) ?_)
              intro p' lo' m' cap' xs' hm' e1 e2 e3 e4
              have hv' : VecOk p' lo' m' cap' xs' list := ⟨e1, e2, e3, by rw [e4]; rfl⟩
              cbv
              refine hf _ _ ?_
              refine fin_close rfl (.kpt ⟨list, check⟩) [3] [5, 6] _ hkpt rfl ?_
              refine fin_close rfl (.kps ((g, ⟨list, check⟩) :: ks2)) [2] [3, 4] [.at_ 1 g, .abs (.kpt ⟨list, check⟩) [1], .abs (.kps ks2) [2]] rfl rfl ?_
              refine fin_kps rfl 60 2 back rfl rfl rfl ?_
              exact fin_close rfl (.anc ⟨kept, size, tld⟩) [0] [1, 2] _ hTm2 rfl (fin_ [33] rfl rfl (hK2 p' lo' m' cap' xs' hv'))
  · have hh : ancHas kept name = none := ancHas_none fun x hx => by
      rw [← hi] at hx
      obtain ⟨y, hy, rfl⟩ := List.mem_map.1 hx
      exact mapL_not (hes ▸ hno) y hy
    have hM : ancGet ⟨kept, size, told⟩ name = (([], 11), ⟨kept, size, told⟩) := by simp only [ancGet]; rw [hh]
    cbv
    refine hf _ _ (fin_noArr true 9 44 encE [] (fin_as (.tuple [.vec false 9 3 0 0 0, .int .i64 11]) (fun _ => rfl) (fin_close rfl (.anc ⟨kept, size, told⟩) [0] [1, 2] _ hT rfl (fin_ [9] rfl rfl (none_ 11 hM.symm)))))
end Hx
/- anchors.Anchors.opens. -/
namespace Hx
open Go Sx Go.Proofs
set_option maxRecDepth 100000
set_option maxHeartbeats 4000000
set_option linter.unusedVariables false
set_option linter.unusedSimpArgs false
variable {GOk : Gl → Prop}
variable {right : Ev → Bool}
theorem perm_lift {α β : Type} {f : α → β} {l m : List β} (h : l.Perm m) : ∀ {l' : List α}, m = l'.map f → ∃ l2 : List α, l2.Perm l' ∧ l2.map f = l := by
  induction h with
  | nil => intro l' e; exact ⟨l', .refl _, e.symm⟩
  | cons x _ ih =>
    intro l' e
    cases l' with
    | nil => exact nomatch e
    | cons y r =>
      simp only [List.map_cons, List.cons.injEq] at e
      obtain ⟨l2, h1, h2⟩ := ih e.2
      exact ⟨y :: l2, h1.cons y, by rw [List.map_cons, h2, e.1]⟩
  | swap x y l =>
    intro l' e
    match l', e with
    | a :: b :: r, e =>
      simp only [List.map_cons, List.cons.injEq] at e
      exact ⟨b :: a :: r, List.Perm.swap _ _ _, by simp only [List.map_cons, e.1, e.2.1, e.2.2]⟩
  | trans _ _ ih1 ih2 =>
    intro l' e
    obtain ⟨l2, h1, h2⟩ := ih2 e
    obtain ⟨l3, h3, h4⟩ := ih1 h2.symm
    exact ⟨l3, h3.trans h1, h4⟩
theorem nodup_inj {α β : Type} {f : α → β} : ∀ {l : List α}, (l.map f).Nodup → ∀ {x y : α}, x ∈ l → y ∈ l → f x = f y → x = y
  | [], _, _, _, h, _, _ => nomatch h
  | z :: r, hn, x, y, hx, hy, e => by
    rw [List.map_cons, List.nodup_cons] at hn
    rcases List.mem_cons.1 hx with h1 | h1
    · rcases List.mem_cons.1 hy with h2 | h2
      · rw [h1, h2]
      · exact absurd (List.mem_map.2 ⟨y, h2, by rw [← e, h1]⟩ : f z ∈ r.map f) hn.1
    · rcases List.mem_cons.1 hy with h2 | h2
      · exact absurd (List.mem_map.2 ⟨x, h1, by rw [e, h2]⟩ : f z ∈ r.map f) hn.1
      · exact nodup_inj hn.2 h1 h2 e
def openI (x : Item) : Bool := !kptDone x.2.2
theorem opens_spec2 (S Td : Nat) (items : List Item) (es : List (Sx.Lit × Sx.Lit)) (ks : List (Nat × Kpt)) (hes : es = mapL items) (hks : ks = kpsL items) (hnd : (items.map (·.2.1)).Nodup) (hsz : ∀ x ∈ items, x.2.1.size ≤ 200) (hl : items.length ≤ 200) :
    Triple (BB Ip GOk) 173 3 4 [.ptr 0 0] [.cells 0 70 [.map 1, .int .i64 (Int.ofNat S), .int .i64 (Int.ofNat Td)], .map 1 es, .abs (.kps ks) [2]]
    (fun K => ∀ order : List Item, order.Perm (items.filter openI) → ∀ p lo len cap xs, VecOk p lo len cap xs (order.map fun x => some x.1) → K (.ret (.vec p 3 1 lo len cap)) [.cells 0 70 [.map 1, .int .i64 (Int.ofNat S), .int .i64 (Int.ofNat Td)], .map 1 es, .abs (.kps ks) [2], .arr p true 3 231 encP xs]) := by
  refine triple_of BB_ok (tb := ty) rfl (n0 := 3) (fun _ : Unit => _) pl173 Tryz.call173 Tryz.func173 rfl (by kernel_rfl) (Nat.le_of_ble_eq_true rfl) (by decide) rfl pre_none ?_
  rintro G hG K hK W bi bc bs bk bu bb bo bg bl bp bn be Ncond Nob Nop Nloop Nscope hN Nfin hf _ _
  have hnames : es.map (·.1) = (items.map (·.2.1)).map Sx.Lit.str := by rw [hes]; simp [mapL]
  cbv
  refine op_ hN (inline_ BB_ok (tb := ty) rfl pl185 Tryz.call185 Tryz.func185 rfl (by kernel_rfl) (Nat.le_of_ble_eq_true rfl) ?_)
  intro W2 bi2 bc2 bs2 bk2 bu2 bb2 bo2 bg2 bl2 bp2 bn2 be2 Ncond2 Nob2 Nop2 Nloop2 Nscope2 hN2
  cbv
  refine op_ hN (call_ (sorted_spec (items.map (·.2.1)) es hnames (fun s hs => by obtain ⟨x, hx, rfl⟩ := List.mem_map.1 hs; exact Nat.le_trans (hsz x hx) (by decide)) (by simp; omega)) hG [1, 3] rfl rfl rfl rfl rfl ?_)
  intro ss hss
  obtain ⟨its, hits, hmap⟩ := perm_lift hss rfl
  refine ⟨fun hnil => ?_, fun n cap cur hn0 hncap hcur => ?_⟩
  · have h1 : its = [] := by rw [hnil] at hmap; simpa using hmap
    have h2 : items = [] := by rw [h1] at hits; simpa using hits.symm.eq_nil
    cbv
    refine loopN_ hN (loop_ hN ty_ok mixed (ι := Unit) (fun _ => ⟨[(3, .nilslice), (13, .int .i64 0), (14, .int .i64 0)], [.cells 0 70 [.map 1, .int .i64 (Int.ofNat S), .int .i64 (Int.ofNat Td)], .map 1 es, .abs (.kps ks) [2]], 3⟩) (fun _ => True) (fun _ => 0) ?_ ?_)
    · exact Leads.idx () [] trivial ⟨⟨rfl, rfl, rfl, trivial⟩, rfl, Nat.le_of_ble_eq_true rfl⟩
    rintro _ _ Nnext hn _
    cbv
    refine cond_F hN (by rw [clt hN]; rfl) ?_
    cbv
    exact hf _ _ (fin_noArr true 9 231 encP [] (fin_as (.vec false 9 1 0 0 0) (fun _ => rfl) (fin_ [9] rfl rfl (hK [] (by rw [h2]; exact .refl _) false 0 0 0 [] ⟨fun _ => rfl, Nat.le_refl _, Nat.le_refl _, rfl⟩))))
  · have hn1 : n = its.length := by rw [hn0, ← hmap, List.length_map]
    have hn2 : n ≤ 200 := by rw [hn1, hits.length_eq]; exact hl
    cbv
    refine loopN_ hN (loop_ hN ty_ok mixed (ι := Nat × Bool × Nat × Nat × Nat × List (Option Nat)) (fun y => ⟨[(0, .ptr 0 0), (3, .vec y.2.1 4 1 y.2.2.1 y.2.2.2.1 y.2.2.2.2.1), (12, .vec true 3 1 0 n cap), (13, .int .i64 (Int.ofNat n)), (14, .int .i64 (Int.ofNat y.1))],
        [.cells 0 70 [.map 1, .int .i64 (Int.ofNat S), .int .i64 (Int.ofNat Td)], .map 1 es, .abs (.kps ks) [2], .obj 3 (.cells cur 9 (0, 0)), .arr y.2.1 true 4 231 encP y.2.2.2.2.2], 5⟩)
      (fun y => y.1 ≤ n ∧ VecOk y.2.1 y.2.2.1 y.2.2.2.1 y.2.2.2.2.1 y.2.2.2.2.2 (((its.take y.1).filter openI).map fun x => some x.1)) (fun y => n - y.1) ?_ ?_)
    · refine leads_noArr true 5 6 231 encP [] rfl ?_
      refine leads_eset 3 .nilslice (.vec false 5 1 0 0 0) rfl (fun _ => rfl) ?_
      exact Leads.idx (0, false, 0, 0, 0, []) [4, 5] ⟨Nat.zero_le _, fun _ => rfl, Nat.le_refl _, Nat.le_refl _, rfl⟩ ⟨⟨rfl, rfl, rfl, rfl, rfl, trivial⟩, rfl, Nat.le_of_ble_eq_true rfl⟩
    rintro ⟨i, p, lo, len, cap1, xs⟩ ⟨hi, hv⟩ Nnext hnx _
    simp only at hi hv
    cbv
    refine cond_ hN (fun h => ?_) (fun h => ?_)
    · rw [clt hN] at h
      simp only [decide_eq_true_eq, decide_eq_false_iff_not, Int.ofNat_eq_natCast, gt_iff_lt, ge_iff_le, Bool.not_eq_true', Bool.not_eq_false', Int.not_lt, Int.not_le] at h
      have hilt : i < n := by have : (i : Int) < (n : Int) := h; omega
      have hil : i < its.length := by omega
      have htake : its.take (i + 1) = its.take i ++ [its[i]'hil] := by rw [List.take_add_one, List.getElem?_eq_getElem hil]; rfl
      have hmem : (its[i]'hil) ∈ items := hits.mem_iff.1 (List.getElem_mem hil)
      have hssi : ss[i]? = some (its[i]'hil).2.1 := by rw [← hmap, List.getElem?_map, List.getElem?_eq_getElem hil]; rfl
      have hcuri := hcur i _ hssi
      generalize (its[i]'hil) = it at htake hmem hcuri
      obtain ⟨g, name, k⟩ := it
      simp only at hcuri
      have hp0 : bp 0 (Int.ofNat i) = i := plus0 hN i
      have hadd : bi .add .i64 (Int.ofNat i) 1 = Int.ofNat (i + 1) := inext hN (by omega)
      cbv
      refine ob_ hN ⟨⟨by simp, by simpa using hilt⟩, rfl, trivial⟩ ?_
      cbv
      refine op_ hN (load_obj ty_ok rfl rfl rfl (by rw [hp0]; exact hcuri) ?_)
      cbv
      refine op_ hN (lookup_ ty_ok (.str name) rfl rfl rfl rfl rfl rfl rfl trivial (hes ▸ mapL_keys items) (fun v hv2 => ?_) (fun hno => ?_))
      · obtain ⟨x, hx, hxn, rfl⟩ := mapL_mem (hes ▸ hv2)
        have hxe : x = (g, name, k) := nodup_inj (f := fun x : Item => x.2.1) hnd hx hmem hxn
        subst hxe
        obtain ⟨l1, l2, hit, hperm⟩ := item_perm hx
        rw [← hks] at hperm
        obtain ⟨ks2, hks2⟩ : ∃ ks2, ks2 = kpsL (l1 ++ l2) := ⟨_, rfl⟩
        rw [← hks2] at hperm
        obtain ⟨list, check⟩ := k
        have hperm : ks.Perm ((g, (⟨list, check⟩ : Kpt)) :: ks2) := hperm
        have back := hperm.symm
        have hflen : len ≤ 200 := by
          have h9 := hv.length
          rw [List.length_map] at h9
          have h8 := List.length_filter_le openI (its.take i)
          rw [List.length_take] at h8
          omega
        cbv
        refine op_ hN (op_kps rfl 2 hperm rfl rfl rfl rfl ?_)
        refine op_open rfl 2 2 rfl rfl rfl rfl ?_
        rintro _ rfl
        refine op_open rfl 5 2 rfl rfl rfl rfl ?_
        rintro _ ⟨pk, lok, lenk, capk, xk, hvk, rfl⟩
        refine op_vals (vals' := [.ptr 5 1]) (fun ρ F w h => by have := h.at_ (j := 5) (g := g) (by simp [csRen, Chunk.ren, sg]); simp [SV.denL, SV.den, this]) ?_
        refine load_ ty_ok rfl ?_
        have hkpt : Tm (.kpt ⟨list, check⟩) [.cells 0 233 [.vec pk 1 3 lok lenk capk, .ptr 2 0], .arr pk true 1 44 encE xk, .abs (.chk check) [2]] := ⟨pk, lok, lenk, capk, xk, hvk, rfl⟩
        cbv
        refine op_ hN (call_ (done_spec check) hG [8] rfl rfl rfl rfl rfl ?_)
        intro b hb
        have hb : b = kptDone ⟨list, check⟩ := hb
        cases b with
        | true =>
          have hv3 : ((its.take (i + 1)).filter openI).map (fun x => some x.1) = ((its.take i).filter openI).map fun x => some x.1 := by
            rw [htake, List.filter_append, List.filter_cons_of_neg (by simp [openI, ← hb]), List.filter_nil, List.append_nil]
          rw [← hv3] at hv
          cbv
          refine cond_F hN rfl ?_
          cbv
          simp only [hadd]
          refine hnx _ (leads_close rfl (.kpt ⟨list, check⟩) [5] [7, 8] _ hkpt rfl ?_)
          refine leads_close rfl (.kps ((g, ⟨list, check⟩) :: ks2)) [2] [5, 6] [.at_ 1 g, .abs (.kpt ⟨list, check⟩) [1], .abs (.kps ks2) [2]] rfl rfl ?_
          refine leads_kps rfl 2 back rfl rfl rfl ?_
          exact Leads.nxt (i + 1, p, lo, len, cap1, xs) [3, 4] ⟨hilt, hv⟩ (by simp only; omega) ⟨⟨rfl, rfl, rfl, rfl, rfl, trivial⟩, rfl, Nat.le_of_ble_eq_true rfl⟩
        | false =>
          have hv3 : ((its.take (i + 1)).filter openI).map (fun x => some x.1) = (((its.take i).filter openI).map fun x => some x.1) ++ [some g] := by
            rw [htake, List.filter_append, List.filter_cons_of_pos (by simp [openI, ← hb]), List.filter_nil, List.map_append]; rfl
          cbv
          refine cond_T hN rfl ?_
          cbv
          refine op_ hN (append_vec (new := [some g]) (z := none) ty_ok rfl rfl rfl rfl (fun k => by simp) rfl rfl wideP rfl rfl (src_cells wideP rfl (fun _ _ _ _ => rfl) rfl) hv.pr hv.room hv.fits (by simp; omega) (by decide) ?_)
          intro p' lo' m' cap' xs' hm' e1 e2 e3 e4
          have hv' : VecOk p' lo' m' cap' xs' (((its.take (i + 1)).filter openI).map fun x => some x.1) := ⟨e1, e2, e3, by rw [e4, hv.eq, hv3]⟩
          cbv
          simp only [hadd]
          refine hnx _ (leads_close rfl (.kpt ⟨list, check⟩) [5] [7, 8] _ hkpt rfl ?_)
          refine leads_close rfl (.kps ((g, ⟨list, check⟩) :: ks2)) [2] [5, 6] [.at_ 1 g, .abs (.kpt ⟨list, check⟩) [1], .abs (.kps ks2) [2]] rfl rfl ?_
          refine leads_kps rfl 2 back rfl rfl rfl ?_
          exact Leads.nxt (i + 1, p', lo', m', cap', xs') [3, 10] ⟨hilt, hv'⟩ (by simp only; omega) ⟨⟨rfl, rfl, rfl, rfl, rfl, trivial⟩, rfl, Nat.le_of_ble_eq_true rfl⟩
      · exact absurd rfl (mapL_not (hes ▸ hno) _ hmem)
    · rw [clt hN] at h
      simp only [decide_eq_true_eq, decide_eq_false_iff_not, Int.ofNat_eq_natCast, gt_iff_lt, ge_iff_le, Bool.not_eq_true', Bool.not_eq_false', Int.not_lt, Int.not_le] at h
      have hie : i = n := by have : (n : Int) ≤ (i : Int) := h; omega
      have hfin : its.take i = its := by rw [hie, hn1, List.take_length]
      rw [hfin] at hv
      cbv
      exact hf _ _ (fin_ [4] rfl rfl (hK (its.filter openI) (hits.filter _) p lo len cap1 xs (by rw [List.map_congr_left (fun x _ => rfl)] at hv; exact hv)))
end Hx
