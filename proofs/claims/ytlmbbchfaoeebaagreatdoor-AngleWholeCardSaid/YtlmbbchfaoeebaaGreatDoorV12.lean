/-
  Part of a proof.
-/
import Derived.Test.YtlmbbchfaoeebaaGreatDoorV11
set_option linter.unusedVariables false
set_option linter.unusedSimpArgs false
/- Maps of texts by texts; entities.Get, Define: the walks. -/
namespace Hx
open Go Sx Go.Proofs
set_option maxRecDepth 100000
set_option maxHeartbeats 4000000
set_option linter.unusedVariables false
set_option linter.unusedSimpArgs false
variable {GOk : Gl → Prop}
theorem bindL_keys (l : List (ByteArray × ByteArray)) : ∀ x ∈ bindL l, keyK .string x.1 := by
  intro x hx
  obtain ⟨s, _, rfl⟩ := List.mem_map.1 hx
  trivial
theorem lookB_mem : ∀ {l : List (ByteArray × ByteArray)} {k v : ByteArray}, (l.map (·.1)).Nodup → (k, v) ∈ l → lookB l k = some v
  | (a, b) :: r, k, v, hn, h => by
    simp only [List.map_cons, List.nodup_cons] at hn
    unfold lookB
    rw [List.find?_cons]
    rcases List.mem_cons.1 h with h | h
    · obtain ⟨rfl, rfl⟩ := Prod.mk.inj h
      simp
    · have hne : a ≠ k := fun e => hn.1 (List.mem_map.2 ⟨(k, v), h, e.symm⟩)
      simp only [hne, decide_false]
      exact lookB_mem hn.2 h
theorem lookB_none {l : List (ByteArray × ByteArray)} {k : ByteArray} (h : ∀ x ∈ l, x.1 ≠ k) : lookB l k = none := by
  unfold lookB
  rw [List.find?_eq_none.2 (fun x hx => by simpa using h x hx)]
  rfl
theorem lookB_some {l : List (ByteArray × ByteArray)} {k v : ByteArray} (h : lookB l k = some v) : (k, v) ∈ l := by
  unfold lookB at h
  cases e : l.find? fun x => decide (x.1 = k) with
  | none => rw [e] at h; exact nomatch h
  | some x =>
    rw [e] at h
    have h1 := List.mem_of_find?_eq_some e
    have h2 := List.find?_some e
    simp only [Option.map_some, Option.some.injEq] at h
    obtain ⟨a, b⟩ := x
    simp only [decide_eq_true_eq] at h2 h
    subst h2 h
    exact h1
theorem lookB_not {l : List (ByteArray × ByteArray)} {k : ByteArray} (h : lookB l k = none) : ∀ x ∈ l, x.1 ≠ k := by
  intro x hx e
  unfold lookB at h
  rw [Option.map_eq_none_iff, List.find?_eq_none] at h
  exact h x hx (by simp [e])
/-- a text that is looked up -/
theorem lookupQ_ {Pd : Type} {X : Cx Pd} (hty : X.ty.ok X.P) {mt type : TypeId} {tm : TI} {tk : TI} {a b : Operand} {mv : SV} {n : Nat} {cs : List (Chunk Pd)} {l : List (ByteArray × ByteArray)} (k : ByteArray) {cont : Out → List (Chunk Pd) → Nat → Prop}
    (hm : X.ty mt = some tm) (hmd : tm.d = .map 9 9) (hkt : X.ty 9 = some tk) (hkd : tk.d = .str) (hz : tk.zero = .str ⟨#[]⟩) (Q : Prop)
    (hmv : ∀ ρ F w, SatC X.I X.G ρ cs F w → ∃ g e c, mv.den ρ = .map (some g) ∧ mapOf (bindL l) (e, c) ∧ w.heap[g]? = some (.map e c) ∧ (l.map (·.1)).Nodup ∧ Q)
    (hk : Q → ∀ v b, lookB l k = (if b then some v else none) → (b = false → v = sEmp) → cont (.ret (.tuple [.str v, .bool b])) cs n) :
    NodeX X (.lookup mt a b true) type [mv, .str k] cs n cont := by
  intro ρ F w ρe o ho _ hv hs
  obtain ⟨dst, op, ty', pos, after, guard⟩ := o
  simp only at ho; subst ho
  obtain ⟨g, e, c, hg, ⟨h1, _⟩, h2, hnd, hq⟩ := hmv ρ F w hs
  have hab : ρe a = .map (some g) ∧ ρe b = .string k := by
    rw [← hg]; simpa [Op.operands, SV.denL, SV.den] using hv
  have hd := (hty _ _ hm).desc
  rw [hmd] at hd; simp only [TD.ok] at hd
  have hkd' : X.P.underlying 9 = some .string := keyD_ok (hty _ _ hkt) (by rw [hkd]; rfl)
  have hz' := (hty _ _ hkt).run_zeroValue ρ w
  rw [hz] at hz'
  have hK : MapKept.IsKey .string (.string k) := trivial
  have hkeys : ∀ x ∈ e.toList, MapKept.IsKey .string x.key := by
    intro x hx
    have : (x.key, x.val) ∈ (bindL l).map (fun x => (x.1.val, x.2.val)) := h1 ▸ List.mem_map.2 ⟨x, hx, rfl⟩
    obtain ⟨y, hy, e⟩ := List.mem_map.1 this
    simp only [Prod.mk.injEq] at e
    rw [← e.1]; exact bindL_keys l y hy
  rcases MapKept.findNow_spec hK e.toList 0 hkeys with ⟨f1, f2⟩ | ⟨j, x, f1, f2, f3⟩
  · have hno : lookB l k = none := lookB_none fun y hy hyK => by
      have : (Value.string y.1, Value.string y.2) ∈ e.toList.map (fun x => (x.key, x.val)) := h1 ▸ List.mem_map.2 ⟨(.str y.1, .str y.2), List.mem_map.2 ⟨y, hy, rfl⟩, rfl⟩
      obtain ⟨x, hx, e⟩ := List.mem_map.1 this
      simp only [Prod.mk.injEq] at e
      exact f2 x hx (by rw [e.1, hyK])
    have hrun : (Instr.lookup mt (.map (some g)) (.string k) true).run X.P w = .ok (.tuple #[.string ⟨#[]⟩, .bool false]) w := by
      simp [Instr.lookup, run_underlying hd, MapKept.run_getObj_map h2, MapKept.run_checkKey hkd' hK, MapKept.run_findKey hkd' f1, hz', SV.den]
    simp only [execOp, hab.1, hab.2, Sem.run_bind, hrun, Result.andThen_ok, Sem.run_pure, Upon]
    refine ⟨_, cs, n, ρ, ?_, Nat.le_refl _, Ext.refl _ _, hs, hk hq ⟨#[]⟩ false (by rw [hno]; rfl) (fun _ => rfl)⟩
    simp [SV.den, SV.denL]
  · have hx : x ∈ e.toList := List.mem_of_getElem? f2
    have : (x.key, x.val) ∈ (bindL l).map (fun x => (x.1.val, x.2.val)) := h1 ▸ List.mem_map.2 ⟨x, hx, rfl⟩
    obtain ⟨y, hy, e3⟩ := List.mem_map.1 this
    obtain ⟨⟨k', v⟩, hy2, rfl⟩ := List.mem_map.1 hy
    simp only [Prod.mk.injEq, Sx.Lit.val] at e3
    have hkk : k' = k := by
      have := e3.1.trans f3
      simpa using this
    subst hkk
    have hl : lookB l k' = some v := lookB_mem hnd hy2
    have hrun : (Instr.lookup mt (.map (some g)) (.string k') true).run X.P w = .ok (.tuple #[.string v, .bool true]) w := by
      simp [Instr.lookup, run_underlying hd, MapKept.run_getObj_map h2, MapKept.run_checkKey hkd' hK, MapKept.run_findKey hkd' f1, ← e3.2]
    simp only [execOp, hab.1, hab.2, Sem.run_bind, hrun, Result.andThen_ok, Sem.run_pure, Upon]
    refine ⟨_, cs, n, ρ, ?_, Nat.le_refl _, Ext.refl _ _, hs, hk hq v true (by rw [hl]; rfl) (fun h => nomatch h)⟩
    simp [SV.den, SV.denL]
theorem lookupS_ {Pd : Type} {X : Cx Pd} (hty : X.ty.ok X.P) {mt type : TypeId} {tm : TI} {tk : TI} {a b : Operand} {mv : SV} {n : Nat} {cs : List (Chunk Pd)} {l : List (ByteArray × ByteArray)} (k : ByteArray) {cont : Out → List (Chunk Pd) → Nat → Prop}
    (hm : X.ty mt = some tm) (hmd : tm.d = .map 9 9) (hkt : X.ty 9 = some tk) (hkd : tk.d = .str) (hz : tk.zero = .str ⟨#[]⟩) (hnd : (l.map (·.1)).Nodup)
    (hmv : ∀ ρ F w, SatC X.I X.G ρ cs F w → ∃ g e c, mv.den ρ = .map (some g) ∧ mapOf (bindL l) (e, c) ∧ w.heap[g]? = some (.map e c))
    (hk : ∀ v b, lookB l k = (if b then some v else none) → (b = false → v = sEmp) → cont (.ret (.tuple [.str v, .bool b])) cs n) :
    NodeX X (.lookup mt a b true) type [mv, .str k] cs n cont :=
  lookupQ_ hty k hm hmd hkt hkd hz True (fun ρ F w hs => let ⟨g, e, c, h1, h2, h3⟩ := hmv ρ F w hs; ⟨g, e, c, h1, h2, h3, hnd, trivial⟩) fun _ => hk
theorem map_at {Pd : Type} {I : Pd → List Nat → HP} {G : Gl} {id : Nat} {es : List (Sx.Lit × Sx.Lit)} {cs rest : List (Chunk Pd)} {l : List (ByteArray × ByteArray)} (hp : pickC [id] cs = some ([.map id es], rest)) (hes : es = bindL l) :
    ∀ ρ F w, SatC I G ρ cs F w → ∃ g e c, (SV.map id).den ρ = .map (some g) ∧ mapOf (bindL l) (e, c) ∧ w.heap[g]? = some (.map e c) := by
  intro ρ F w hs
  obtain ⟨e, c, h1, h2⟩ := (hs.perm (pick_one hp)).mapc
  exact ⟨ρ id, e, c, rfl, hes ▸ h1, h2⟩
theorem four_nd : (four.map (·.1)).Nodup := by decide
theorem four_spec : Triple (BB Ip GOk) 219 0 1 [] [] (fun K => ∀ es, es = bindL four → K (.ret (.map 0)) [.map 0 es]) := by
  refine triple_of BB_ok (tb := ty) rfl (n0 := 0) (fun _ : Unit => _) pl219 Tryz.call219 Tryz.func219 rfl (by kernel_rfl) (Nat.le_of_ble_eq_true rfl) (by decide) rfl pre_none ?_
  rintro G hG K hK W bi bc bs bk bu bb bo bg bl bp bn be Ncond Nob Nop Nloop Nscope hN Nfin hf _ _
  cbv
  refine op_ hN (update_ ty_ok (.str ⟨#[108, 116]⟩) (.str ⟨#[60]⟩) (.inr rfl) rfl rfl rfl rfl rfl rfl (fun _ => rfl) trivial (by simp) (by simp) ?_)
  cbv
  refine op_ hN (update_ ty_ok (.str ⟨#[103, 116]⟩) (.str ⟨#[62]⟩) (.inr rfl) rfl rfl rfl rfl rfl rfl (fun _ => rfl) trivial (by simp [keyK, MapKept.IsKey, Sx.Lit.val]) (by simp) ?_)
  cbv
  refine op_ hN (update_ ty_ok (.str ⟨#[97, 109, 112]⟩) (.str ⟨#[38]⟩) (.inr rfl) rfl rfl rfl rfl rfl rfl (fun _ => rfl) trivial (by simp [keyK, MapKept.IsKey, Sx.Lit.val]) (by simp) ?_)
  cbv
  refine op_ hN (update_ ty_ok (.str ⟨#[113, 117, 111, 116]⟩) (.str ⟨#[34]⟩) (.inr rfl) rfl rfl rfl rfl rfl rfl (fun _ => rfl) trivial (by simp [keyK, MapKept.IsKey, Sx.Lit.val]) (by simp) ?_)
  cbv
  exact hf _ _ (fin_ [0] rfl rfl (hK _ rfl))
theorem ent_new_spec : Triple (BB Ip GOk) 27 0 1 [] [] (fun K => K (.ret (.ptr 0 0)) [.abs (.ent ⟨[], 0, 0⟩) [0]]) := by
  refine triple_of BB_ok (tb := ty) rfl (n0 := 0) (fun _ : Unit => _) pl27 Tryz.call27 Tryz.func27 rfl (by kernel_rfl) (Nat.le_of_ble_eq_true rfl) (by decide) rfl pre_none ?_
  rintro G hG K hK W bi bc bs bk bu bb bo bg bl bp bn be Ncond Nob Nop Nloop Nscope hN Nfin hf _ _
  cbv
  exact hf _ _ (fin_close rfl (.ent ⟨[], 0, 0⟩) [1] [0] _ ⟨[], rfl, ⟨Nat.zero_le _, Nat.zero_le _, (fun x hx => nomatch hx), List.nodup_nil⟩, rfl⟩ rfl (fin_ [1] rfl rfl hK))
theorem ent_get_spec (e : Ent) (k : ByteArray) : Triple (BB Ip GOk) 217 1 1 [.ptr 0 0, .str k] [.abs (.ent e) [0]] (fun K => ∀ v f e', ((v, f), e') = entGet e k → v.size ≤ 200 → K (.ret (.tuple [.str v, .int .i64 f])) [.abs (.ent e') [0]]) := by
  obtain ⟨own, size, told⟩ := e
  refine triple_of BB_ok (tb := ty) rfl (n0 := 2) (fun y : {cs' // Tm (.ent ⟨own, size, told⟩) cs'} => csRen (sg [0] 1) y.1 ++ []) pl217 Tryz.call217 Tryz.func217 rfl (by kernel_rfl) (Nat.le_of_ble_eq_true rfl) (by decide) rfl (pre_open rfl rfl rfl) ?_
  rintro G hG K hK W bi bc bs bk bu bb bo bg bl bp bn be Ncond Nob Nop Nloop Nscope hN Nfin hf _ ⟨cs', hT⟩
  obtain ⟨es, hes, hok, rfl⟩ := id hT
  simp only at hes hok
  simp only [entGet] at hK
  have h4 : ∀ v, lookB four k = some v → v.size ≤ 200 := fun v h => by
    have := lookB_some h
    simp only [four, List.mem_cons, Prod.mk.injEq, List.not_mem_nil, or_false] at this
    rcases this with ⟨_, rfl⟩ | ⟨_, rfl⟩ | ⟨_, rfl⟩ | ⟨_, rfl⟩ <;> decide
  have hT2 : ∀ t, t ≤ 40 → Tm (.ent ⟨own, size, t⟩) [.cells 0 92 [.map 1, .int .i64 (Int.ofNat size), .int .i64 (Int.ofNat t)], .map 1 es] := fun t ht => ⟨es, hes, ⟨hok.size, ht, hok.own, hok.nd⟩, rfl⟩
  have hadd : told ≤ 40 → bi .add .i64 (Int.ofNat told) 1 = Int.ofNat (told + 1) := fun _ => inext hN (by omega)
  cbv
  refine op_ hN (call_ (four_spec) hG [] rfl rfl rfl rfl rfl ?_)
  intro fs hfs
  cbv
  refine op_ hN (lookupS_ ty_ok (l := four) k rfl rfl rfl rfl rfl four_nd (map_at rfl hfs) ?_)
  intro v b hv hv0
  cases b with
  | true =>
    have hv : lookB four k = some v := hv
    rw [hv] at hK
    have hsz := h4 v hv
    cbv
    refine cond_T hN rfl ?_
    cbv
    exact hf _ _ (fin_close rfl (.ent ⟨own, size, told⟩) [0] [1] _ (hT2 told hok.told) rfl (fin_ [] rfl rfl (hK v 0 _ rfl hsz)))
  | false =>
    have hv : lookB four k = none := hv
    rw [hv] at hK
    simp only at hK
    cbv
    refine cond_F hN rfl ?_
    cbv
    refine op_ hN (lookupS_ ty_ok (l := own) k rfl rfl rfl rfl rfl hok.nd (map_at rfl hes) ?_)
    intro v2 b2 hv2 hv3
    cases b2 with
    | false =>
      have hv2 : lookB own k = none := hv2
      rw [hv2] at hK
      cbv
      refine cond_T hN rfl ?_
      cbv
      exact hf _ _ (fin_close rfl (.ent ⟨own, size, told⟩) [0] [1] _ (hT2 told hok.told) rfl (fin_ [] rfl rfl (hK ⟨#[]⟩ 14 _ rfl (by decide))))
    | true =>
      have hv2 : lookB own k = some v2 := hv2
      rw [hv2] at hK
      simp only at hK
      have hsz : v2.size ≤ 200 := hok.own _ (lookB_some hv2)
      cbv
      refine cond_F hN rfl ?_
      cbv
      refine cond_ hN ?_ ?_ <;> intro h1 <;> rw [cge hN] at h1
      ·
        simp only [decide_eq_true_eq, decide_eq_false_iff_not, Int.ofNat_eq_natCast, gt_iff_lt, ge_iff_le, Bool.not_eq_true', Bool.not_eq_false', Int.not_lt, Int.not_le] at h1
        have h1 : 40 ≤ told := by have : (40 : Int) ≤ (told : Int) := h1; omega
        rw [if_pos h1] at hK
        cbv
        exact hf _ _ (fin_close rfl (.ent ⟨own, size, told⟩) [0] [1] _ (hT2 told hok.told) rfl (fin_ [] rfl rfl (hK ⟨#[]⟩ 13 _ rfl (by decide))))
      ·
        simp only [decide_eq_true_eq, decide_eq_false_iff_not, Int.ofNat_eq_natCast, gt_iff_lt, ge_iff_le, Bool.not_eq_true', Bool.not_eq_false', Int.not_lt, Int.not_le] at h1
        have h1 : told < 40 := by have : (told : Int) < 40 := h1; omega
        rw [if_neg (by omega)] at hK
        cbv
        simp only [hadd (by omega)]
        exact hf _ _ (fin_close rfl (.ent ⟨own, size, told + 1⟩) [0] [1] _ (hT2 (told + 1) (by omega)) rfl (fin_ [] rfl rfl (hK v2 0 _ rfl hsz)))
theorem local_size {k : ByteArray} (h : localOk k = true) : k.size ≤ 16 := by
  unfold localOk at h
  split at h
  · exact nomatch h
  · rename_i hn; omega
theorem ent_define_spec (hTab : GTab GOk) (e : Ent) (k v : ByteArray) (hv : v.size ≤ 48) : Triple (BB Ip GOk) 211 1 1 [.ptr 0 0, .str k, .str v] [.abs (.ent e) [0]] (fun K => ∀ f e', (f, e') = entDefine e k v → K (.ret (.int .i64 f)) [.abs (.ent e') [0]]) := by
  obtain ⟨own, size, told⟩ := e
  refine triple_of BB_ok (tb := ty) rfl (n0 := 2) (fun y : {cs' // Tm (.ent ⟨own, size, told⟩) cs'} => csRen (sg [0] 1) y.1 ++ []) pl211 Tryz.call211 Tryz.func211 rfl (by kernel_rfl) (Nat.le_of_ble_eq_true rfl) (by decide) rfl (pre_open rfl rfl rfl) ?_
  rintro G hG K hK W bi bc bs bk bu bb bo bg bl bp bn be Ncond Nob Nop Nloop Nscope hN Nfin hf _ ⟨cs', hT⟩
  obtain ⟨es, hes, hok, rfl⟩ := id hT
  simp only at hes hok
  simp only [entDefine] at hK
  have hT2 : Tm (.ent ⟨own, size, told⟩) [.cells 0 92 [.map 1, .int .i64 (Int.ofNat size), .int .i64 (Int.ofNat told)], .map 1 es] := ⟨es, hes, hok, rfl⟩
  cbv
  refine op_ hN (call_ (four_spec) hG [] rfl rfl rfl rfl rfl ?_)
  intro fs hfs
  cbv
  refine op_ hN (lookupS_ ty_ok (l := four) k rfl rfl rfl rfl rfl four_nd (map_at rfl hfs) ?_)
  intro v1 b1 hb1 _
  have hb1' : (lookB four k).isSome = b1 := by rw [hb1]; cases b1 <;> rfl
  rw [hb1'] at hK
  clear hb1 hb1'
  cbv
  refine op_ hN (lookupS_ ty_ok (l := own) k rfl rfl rfl rfl rfl hok.nd (map_at rfl hes) ?_)
  intro v2 b2 hb2 _
  have hb2' : (lookB own k).isSome = b2 := by rw [hb2]; cases b2 <;> rfl
  have hnot : b2 = false → ∀ x ∈ bindL own, x.1 ≠ .str k := by
    intro h
    subst h
    have hb2 : lookB own k = none := hb2
    intro x hx
    obtain ⟨y, hy, rfl⟩ := List.mem_map.1 hx
    intro e
    exact lookB_not hb2 y hy (by simpa using e)
  have hnd2 : b2 = false → ((own ++ [(k, v)]).map (·.1)).Nodup := by
    intro h
    subst h
    have hb2 : lookB own k = none := hb2
    rw [List.map_append, List.nodup_append]
    refine ⟨hok.nd, by simp, ?_⟩
    intro a ha b hb
    obtain ⟨y, hy, rfl⟩ := List.mem_map.1 ha
    simp only [List.map_cons, List.map_nil, List.mem_singleton] at hb
    rw [hb]
    exact lookB_not hb2 y hy
  rw [hb2'] at hK
  clear hb2 hb2'
  cbv
  refine op_ hN (call_ (runes_spec hTab v (by omega)) hG [] rfl rfl rfl rfl rfl ?_)
  intro u hu p lo len cap xs
  rw [← hu] at hK
  clear hu
  cbv
  refine op_ hN (call_ (local_spec k) hG [] rfl rfl rfl rfl rfl ?_)
  intro c hc
  rw [← hc] at hK
  have hk16 : c = true → k.size ≤ 16 := fun h => local_size (hc ▸ h)
  clear hc
  cases c with
  | false =>
    rw [if_pos (by decide)] at hK
    cbv
    refine cond_T hN rfl ?_
    cbv
    exact hf _ _ (fin_close rfl (.ent ⟨own, size, told⟩) [0] [1] _ hT2 rfl (fin_ [] rfl rfl (hK 1 _ rfl)))
  | true =>
    rw [if_neg (by decide)] at hK
    cbv
    refine cond_F hN rfl ?_
    cbv
    cases u with
    | false =>
      rw [if_pos (by decide)] at hK
      cbv
      refine cond_T hN rfl ?_
      cbv
      exact hf _ _ (fin_close rfl (.ent ⟨own, size, told⟩) [0] [1] _ hT2 rfl (fin_ [] rfl rfl (hK 3 _ rfl)))
    | true =>
      rw [if_neg (by decide)] at hK
      cbv
      refine cond_F hN rfl ?_
      cbv
      cases b1 with
      | true =>
        rw [if_pos (by simp)] at hK
        cbv
        refine cond_T hN rfl ?_
        cbv
        exact hf _ _ (fin_close rfl (.ent ⟨own, size, told⟩) [0] [1] _ hT2 rfl (fin_ [] rfl rfl (hK 6 _ rfl)))
      | false =>
        cbv
        refine cond_F hN rfl ?_
        cbv
        cases b2 with
        | true =>
          rw [if_pos (by simp)] at hK
          cbv
          refine cond_T hN rfl ?_
          cbv
          exact hf _ _ (fin_close rfl (.ent ⟨own, size, told⟩) [0] [1] _ hT2 rfl (fin_ [] rfl rfl (hK 6 _ rfl)))
        | false =>
          rw [if_neg (by simp)] at hK
          cbv
          refine cond_F hN rfl ?_
          cbv
          have hsz := hok.size
          have hk16 := hk16 rfl
          simp only at hsz
          have hsum : bi .add .i64 (bi .add .i64 (Int.ofNat size) (bn k)) (bn v) = Int.ofNat (size + k.size + v.size) := by
            have e1 : bi .add .i64 (Int.ofNat size) (k.size : Int) = ((size + k.size : Nat) : Int) := by rw [iadd hN (by simp; omega) (by simp; omega)]; simp
            rw [len_eq hN, len_eq hN, e1, iadd hN (by omega) (by omega)]; simp
          have hsum2 : bi .add .i64 (Int.ofNat size) (bi .add .i64 (bn k) (bn v)) = Int.ofNat (size + (k.size + v.size)) := by
            rw [len_eq hN, len_eq hN, iadd hN (a := (k.size : Int)) (by omega) (by omega), iadd hN (by simp; omega) (by simp; omega)]; simp
          refine cond_ hN ?_ ?_ <;> intro h1 <;> rw [hsum, cgt hN] at h1
          ·
            simp only [decide_eq_true_eq, decide_eq_false_iff_not, Int.ofNat_eq_natCast, gt_iff_lt, ge_iff_le, Bool.not_eq_true', Bool.not_eq_false', Int.not_lt, Int.not_le] at h1
            have h1 : 200 < size + k.size + v.size := by have : (200 : Int) < ((size + k.size + v.size : Nat) : Int) := h1; omega
            rw [if_pos h1] at hK
            cbv
            exact hf _ _ (fin_close rfl (.ent ⟨own, size, told⟩) [0] [1] _ hT2 rfl (fin_ [] rfl rfl (hK 15 _ rfl)))
          ·
            simp only [decide_eq_true_eq, decide_eq_false_iff_not, Int.ofNat_eq_natCast, gt_iff_lt, ge_iff_le, Bool.not_eq_true', Bool.not_eq_false', Int.not_lt, Int.not_le] at h1
            have h1 : size + k.size + v.size ≤ 200 := by have : ((size + k.size + v.size : Nat) : Int) ≤ 200 := h1; omega
            rw [if_neg (by omega)] at hK
            have hokn : EntOk ⟨own ++ [(k, v)], size + (k.size + v.size), told⟩ := ⟨by simp only; omega, hok.told, fun x hx => by
              rcases List.mem_append.1 hx with h | h
              · exact hok.own x h
              · rw [List.mem_singleton.1 h]; simp only; omega, hnd2 rfl⟩
            have hnot := hnot rfl
            rw [← hes] at hnot
            cbv
            refine op_ hN (update_ ty_ok (.str k) (.str v) (.inl rfl) rfl rfl rfl rfl rfl rfl (fun _ => rfl) trivial (hes ▸ bindL_keys own) hnot ?_)
            generalize hes2 : es ++ [(Sx.Lit.str k, Sx.Lit.str v)] = es2
            cbv
            simp only [hsum2]
            exact hf _ _ (fin_close rfl (.ent ⟨own ++ [(k, v)], size + (k.size + v.size), told⟩) [0] [1] _ ⟨es2, by rw [← hes2, hes]; simp [bindL], hokn, rfl⟩ rfl (fin_ [] rfl rfl (hK 0 _ rfl)))
end Hx
/- names.Cut, Join: the walks. -/
namespace Hx
open Go Sx Go.Proofs
set_option maxRecDepth 100000
set_option maxHeartbeats 4000000
set_option linter.unusedVariables false
set_option linter.unusedSimpArgs false
variable {GOk : Gl → Prop}
theorem cutB_eq {s sep a b : ByteArray} {c : Bool} (h : (a.data.toList, b.data.toList, c) = Lib.cut s.data.toList sep.data.toList) : cutB s sep = (a, b, c) := by
  unfold cutB
  rw [← h]
theorem ncut_spec (hTab : GTab GOk) (s : ByteArray) (hs : s.size < 950000) : Triple (BB Ip GOk) 35 0 0 [.str s] [] (fun K => ∀ a b c, (a, b, c) = cutN s → K (.ret (.tuple [.str a, .str b, .bool c])) []) := by
  refine triple_of BB_ok (tb := ty) rfl (n0 := 0) (fun _ : Unit => _) pl35 Tryz.call35 Tryz.func35 rfl (by kernel_rfl) (Nat.le_of_ble_eq_true rfl) (by decide) rfl pre_none ?_
  rintro G hG K hK W bi bc bs bk bu bb bo bg bl bp bn be Ncond Nob Nop Nloop Nscope hN Nfin hf _ _
  simp only [cutN] at hK
  cbv
  refine op_ hN (call_ (cut_prefix_spec s ⟨#[123]⟩) hG [] rfl rfl rfl rfl rfl ?_)
  intro r b hr hb
  have hr2 : trimPre s wBrace = r := (ba_of hr).symm
  have hrs : r.size ≤ s.size := hr2 ▸ trimPre_le s wBrace
  have hb2 : hasPre s wBrace = b := hb.symm
  rw [hr2, hb2] at hK
  clear hr2 hb2 hr hb
  cases b with
  | true =>
    rw [if_pos rfl] at hK
    cbv
    refine cond_T hN rfl ?_
    cbv
    refine op_ hN (call_ (scut_spec hTab r ⟨#[125]⟩ (by omega)) hG [] rfl rfl rfl rfl rfl ?_)
    intro a1 b1 c1 hc
    have hc2 : cutB r wClose = (a1, b1, c1) := cutB_eq hc
    have hsz := cutB_le r wClose
    rw [hc2] at hsz hK
    simp only at hsz hK
    clear hc hc2
    cases c1 with
    | false =>
      rw [if_pos (by rfl)] at hK
      cbv
      refine cond_T hN rfl ?_
      cbv
      exact hf _ _ (fin_as (.tuple [.str ⟨#[]⟩, .str ⟨#[]⟩, .bool false]) (fun _ => rfl) (fin_ [] rfl rfl (hK ⟨#[]⟩ ⟨#[]⟩ false rfl)))
    | true =>
      cbv
      refine cond_F hN rfl ?_
      cbv
      refine op_ hN (call_ (space_spec hTab a1 (by omega)) hG [] rfl rfl rfl rfl rfl ?_)
      intro e he
      rw [← he] at hK
      clear he
      cases e with
      | false =>
        rw [if_pos (by rfl)] at hK
        cbv
        refine cond_T hN rfl ?_
        cbv
        exact hf _ _ (fin_as (.tuple [.str ⟨#[]⟩, .str ⟨#[]⟩, .bool false]) (fun _ => rfl) (fin_ [] rfl rfl (hK ⟨#[]⟩ ⟨#[]⟩ false rfl)))
      | true =>
        rw [if_neg (by decide)] at hK
        cbv
        refine cond_F hN rfl ?_
        cbv
        simp only [cutNT] at hK
        refine op_ hN (call_ (local_spec b1) hG [] rfl rfl rfl rfl rfl ?_)
        intro d hd
        rw [← hd] at hK
        clear hd
        cases d with
        | false =>
          rw [if_pos (by rfl)] at hK
          cbv
          refine cond_T hN rfl ?_
          cbv
          exact hf _ _ (fin_as (.tuple [.str ⟨#[]⟩, .str ⟨#[]⟩, .bool false]) (fun _ => rfl) (fin_ [] rfl rfl (hK ⟨#[]⟩ ⟨#[]⟩ false rfl)))
        | true =>
          cbv
          refine cond_F hN rfl ?_
          cbv
          refine cond_ hN ?_ ?_ <;> intro h1 <;> rw [cgt hN, len_eq hN] at h1
          ·
            have h2 : 48 < s.size := by have : (48 : Int) < (s.size : Int) := of_decide_eq_true h1; omega
            rw [if_pos (by simpa using h2)] at hK
            cbv
            exact hf _ _ (fin_as (.tuple [.str ⟨#[]⟩, .str ⟨#[]⟩, .bool false]) (fun _ => rfl) (fin_ [] rfl rfl (hK ⟨#[]⟩ ⟨#[]⟩ false rfl)))
          ·
            have h2 : ¬ 48 < s.size := by have : ¬ (48 : Int) < (s.size : Int) := of_decide_eq_false h1; omega
            rw [if_neg (by simpa using h2)] at hK
            cbv
            exact hf _ _ (fin_as (.tuple [.str a1, .str b1, .bool true]) (fun _ => rfl) (fin_ [] rfl rfl (hK a1 b1 true rfl)))
  | false =>
    rw [if_neg (by decide)] at hK
    cbv
    refine cond_F hN rfl ?_
    cbv
    simp only [cutNT] at hK
    refine op_ hN (call_ (local_spec s) hG [] rfl rfl rfl rfl rfl ?_)
    intro d hd
    rw [← hd] at hK
    clear hd
    cases d with
    | false =>
      rw [if_pos (by rfl)] at hK
      cbv
      refine cond_T hN rfl ?_
      cbv
      exact hf _ _ (fin_as (.tuple [.str ⟨#[]⟩, .str ⟨#[]⟩, .bool false]) (fun _ => rfl) (fin_ [] rfl rfl (hK ⟨#[]⟩ ⟨#[]⟩ false rfl)))
    | true =>
      cbv
      refine cond_F hN rfl ?_
      cbv
      refine cond_ hN ?_ ?_ <;> intro h1 <;> rw [cgt hN, len_eq hN] at h1
      ·
        have h2 : 48 < s.size := by have : (48 : Int) < (s.size : Int) := of_decide_eq_true h1; omega
        rw [if_pos (by simpa using h2)] at hK
        cbv
        exact hf _ _ (fin_as (.tuple [.str ⟨#[]⟩, .str ⟨#[]⟩, .bool false]) (fun _ => rfl) (fin_ [] rfl rfl (hK ⟨#[]⟩ ⟨#[]⟩ false rfl)))
      ·
        have h2 : ¬ 48 < s.size := by have : ¬ (48 : Int) < (s.size : Int) := of_decide_eq_false h1; omega
        rw [if_neg (by simpa using h2)] at hK
        cbv
        exact hf _ _ (fin_as (.tuple [.str ⟨#[]⟩, .str s, .bool true]) (fun _ => rfl) (fin_ [] rfl rfl (hK ⟨#[]⟩ s true rfl)))
theorem join_spec (hTab : GTab GOk) (sp lc : ByteArray) (h1 : sp.size ≤ 48) (h2 : lc.size ≤ 900000) : Triple (BB Ip GOk) 228 0 0 [.str sp, .str lc] [] (fun K => ∀ r b, (r, b) = joinN sp lc → K (.ret (.tuple [.str r, .bool b])) []) := by
  refine triple_of BB_ok (tb := ty) rfl (n0 := 0) (fun _ : Unit => _) pl228 Tryz.call228 Tryz.func228 rfl (by kernel_rfl) (Nat.le_of_ble_eq_true rfl) (by decide) rfl pre_none ?_
  rintro G hG K hK W bi bc bs bk bu bb bo bg bl bp bn be Ncond Nob Nop Nloop Nscope hN Nfin hf _ _
  simp only [joinN] at hK
  obtain ⟨x1, hx1⟩ : ∃ x, bk ⟨#[123]⟩ sp = x := ⟨_, rfl⟩
  obtain ⟨x2, hx2⟩ : ∃ x, bk x1 ⟨#[125]⟩ = x := ⟨_, rfl⟩
  obtain ⟨x3, hx3⟩ : ∃ x, bk x2 lc = x := ⟨_, rfl⟩
  have e1 : x1 = ⟨#[123]⟩ ++ sp := by rw [← hx1, bk_ hN]
  have e2 : x2 = x1 ++ ⟨#[125]⟩ := by rw [← hx2, bk_ hN]
  have e3 : x3 = x2 ++ lc := by rw [← hx3, bk_ hN]
  have s1 : x1.size = sp.size + 1 := by rw [e1, ByteArray.size_append]; have : (⟨#[123]⟩ : ByteArray).size = 1 := rfl; omega
  have s2 : x2.size = sp.size + 2 := by rw [e2, ByteArray.size_append]; have : (⟨#[125]⟩ : ByteArray).size = 1 := rfl; omega
  have s3 : x3.size = sp.size + 2 + lc.size := by rw [e3, ByteArray.size_append]; omega
  have hmx : IntKind.i64.max = 9223372036854775807 := by rfl
  cbv
  refine cond_ hN ?_ ?_ <;> intro g1 <;> rw [sne_eq hN] at g1
  ·
    have hF : joinF sp lc = x3 := by
      have : decide (sp ≠ sEmp) = true := by
        have g1 : ¬ sp = ⟨#[]⟩ := by simpa using g1
        exact decide_eq_true g1
      unfold joinF
      rw [if_pos this, e3, e2, e1]; rfl
    rw [hF] at hK
    cbv
    refine ob_ hN ⟨?_, trivial⟩ ?_
    · show (((⟨#[123]⟩ : ByteArray).size + sp.size : Nat) : Int) ≤ _
      have : (⟨#[123]⟩ : ByteArray).size = 1 := rfl
      rw [hmx]; omega
    simp only [hx1]
    refine ob_ hN ⟨?_, trivial⟩ ?_
    · show ((x1.size + (⟨#[125]⟩ : ByteArray).size : Nat) : Int) ≤ _
      have : (⟨#[125]⟩ : ByteArray).size = 1 := rfl
      rw [hmx]; omega
    cbv
    simp only [hx2]
    refine ob_ hN ⟨?_, trivial⟩ ?_
    · show ((x2.size + lc.size : Nat) : Int) ≤ _
      rw [hmx]; omega
    have hx : x3.size < 950000 := by omega
    cbv
    simp only [hx3]
    clear e1 e2 e3 s1 s2 s3 hx1 hx2 hx3 hF
    refine op_ hN (call_ (ncut_spec hTab x3 hx) hG [] rfl rfl rfl rfl rfl ?_)
    intro a b c hc
    rw [← hc] at hK
    simp only at hK
    clear hc
    cases c with
    | false =>
      rw [if_pos (by rfl)] at hK
      cbv
      refine cond_T hN rfl ?_
      cbv
      exact hf _ _ (fin_as (.tuple [.str ⟨#[]⟩, .bool false]) (fun _ => rfl) (fin_ [] rfl rfl (hK ⟨#[]⟩ false rfl)))
    | true =>
      cbv
      refine cond_F hN rfl ?_
      cbv
      refine cond_ hN ?_ ?_ <;> intro g2 <;> rw [sne_eq hN] at g2
      ·
        rw [if_pos (by simp at g2; simp [g2])] at hK
        cbv
        exact hf _ _ (fin_as (.tuple [.str ⟨#[]⟩, .bool false]) (fun _ => rfl) (fin_ [] rfl rfl (hK ⟨#[]⟩ false rfl)))
      ·
        cbv
        refine cond_ hN ?_ ?_ <;> intro g3 <;> rw [sne_eq hN] at g3
        ·
          rw [if_pos (by simp at g3; simp [g3])] at hK
          cbv
          exact hf _ _ (fin_as (.tuple [.str ⟨#[]⟩, .bool false]) (fun _ => rfl) (fin_ [] rfl rfl (hK ⟨#[]⟩ false rfl)))
        ·
          rw [if_neg (by simp at g2 g3; simp [g2, g3])] at hK
          cbv
          exact hf _ _ (fin_as (.tuple [.str x3, .bool true]) (fun _ => rfl) (fin_ [] rfl rfl (hK x3 true rfl)))
  ·
    have hF : joinF sp lc = lc := by
      have : ¬ decide (sp ≠ sEmp) = true := by
        have g1 : sp = ⟨#[]⟩ := by simpa using g1
        intro h
        exact of_decide_eq_true h g1
      unfold joinF
      rw [if_neg this]
    rw [hF] at hK
    have hx : lc.size < 950000 := by omega
    clear e1 e2 e3 s1 s2 s3 hx1 hx2 hx3 hF
    cbv
    refine op_ hN (call_ (ncut_spec hTab lc hx) hG [] rfl rfl rfl rfl rfl ?_)
    intro a b c hc
    rw [← hc] at hK
    simp only at hK
    clear hc
    cases c with
    | false =>
      rw [if_pos (by rfl)] at hK
      cbv
      refine cond_T hN rfl ?_
      cbv
      exact hf _ _ (fin_as (.tuple [.str ⟨#[]⟩, .bool false]) (fun _ => rfl) (fin_ [] rfl rfl (hK ⟨#[]⟩ false rfl)))
    | true =>
      cbv
      refine cond_F hN rfl ?_
      cbv
      refine cond_ hN ?_ ?_ <;> intro g2 <;> rw [sne_eq hN] at g2
      ·
        rw [if_pos (by simp at g2; simp [g2])] at hK
        cbv
        exact hf _ _ (fin_as (.tuple [.str ⟨#[]⟩, .bool false]) (fun _ => rfl) (fin_ [] rfl rfl (hK ⟨#[]⟩ false rfl)))
      ·
        cbv
        refine cond_ hN ?_ ?_ <;> intro g3 <;> rw [sne_eq hN] at g3
        ·
          rw [if_pos (by simp at g3; simp [g3])] at hK
          cbv
          exact hf _ _ (fin_as (.tuple [.str ⟨#[]⟩, .bool false]) (fun _ => rfl) (fin_ [] rfl rfl (hK ⟨#[]⟩ false rfl)))
        ·
          rw [if_neg (by simp at g2 g3; simp [g2, g3])] at hK
          cbv
          exact hf _ _ (fin_as (.tuple [.str lc, .bool true]) (fun _ => rfl) (fin_ [] rfl rfl (hK lc true rfl)))
end Hx
