/-
  Part of a proof.
-/
import Derived.Test.YtkkifbjdbhjhaaaGreatDoorV03
import Derived.ScopeJumps
import Derived.Recover
set_option linter.unusedVariables false
set_option linter.unusedSimpArgs false
/- More rules. -/
namespace Sx
open Go
section
variable {Pd : Type} {X : Cx Pd} {cs rest : List (Chunk Pd)}
theorem load_byte (hty : X.ty.ok X.P) {id idx n : Nat} {T t type : TypeId} {ti : TI} {a : Operand} {p wr : Bool} {xs : List UInt8} {cont : Out → List (Chunk Pd) → Nat → Prop}
    (hp : pickC [id] cs = some ([.arr p wr id T encB xs], rest)) (hpr : p = true) (ht : X.ty t = some ti) (hta : ti.d.isAgg = false) (hi : idx < xs.length)
    (hk : ∀ (x : UInt8) (b : Int), xs[idx]? = some x → b = (x.toNat : Nat) → cont (.ret (.int .u8 b)) cs n) : NodeX X (.load t a) type [.eptr id 1 idx 0] cs n cont := by
  refine load_arr hty hp hpr ht wideB (by simp [rowRoom, hta]) hi fun x hx => ?_
  have := hk x _ hx rfl
  simpa [rowVal, hta, encB, SV.ofLit] using this
 end
section
variable {Pd : Type} {X : Cx Pd}
theorem drop_byte {xs l : List UInt8} {m k : Nat} {x : UInt8} (h : xs.take m = l) (hk : k < m) (hm : m ≤ xs.length) (hx : xs[k]? = some x) : l.drop k = x :: l.drop (k + 1) := by
  rw [← h, List.drop_take, List.drop_take]
  have hlt : k < xs.length := by omega
  rw [List.drop_eq_getElem_cons hlt, show m - k = (m - (k + 1)) + 1 by omega, List.take_succ_cons]
  rw [List.getElem?_eq_getElem hlt] at hx
  simp at hx; rw [hx]
theorem wrap_id {n : Int} (h0 : -9223372036854775808 ≤ n) (h1 : n < 9223372036854775808) : IntKind.i64.wrap n = n := by
  have e : IntKind.i64.wrap n = (n + 9223372036854775808) % 18446744073709551616 - 9223372036854775808 := by
    simp [IntKind.wrap, IntKind.bits, IntKind.signed]; split <;> omega
  rw [e]; omega
theorem toList_eq (s : ByteArray) : s.toList = s.data.toList := by
  have h : ∀ (i : Nat) (r : List UInt8), ByteArray.toList.loop s i r = r.reverse ++ s.data.toList.drop i := by
    intro i r
    induction i, r using ByteArray.toList.loop.induct s with
    | case1 i r h ih =>
      rw [ByteArray.toList.loop, if_pos h, ih]
      have hlt : i < s.data.toList.length := h
      rw [List.drop_eq_getElem_cons hlt]
      simp [ByteArray.get!]
      rw [getElem!_pos s.data i h]
    | case2 i r h =>
      rw [ByteArray.toList.loop, if_neg h]
      have : s.data.toList.length ≤ i := Nat.le_of_not_lt h
      simp [List.drop_eq_nil_of_le this]
  simpa [ByteArray.toList] using h 0 []
theorem seq_iff {x y : ByteArray} : seq x y = true ↔ x = y := by
  simp only [seq, toList_eq, beq_iff_eq]
  constructor
  · intro h; cases x; cases y; simp only at h; congr; exact Array.toList_inj.1 h
  · rintro rfl; rfl
theorem Leads.idx {ι : Type _} {st : ι → St Pd} {inv : ι → Prop} {s : St Pd} {rest : List (Chunk Pd)} (i : ι) (τ : List Nat) (hi : inv i) (h : Into X.nin τ s (st i) rest) : Leads X s (fun t => ∃ i, inv i ∧ t = st i) :=
  Leads.into τ h ⟨i, hi, rfl⟩
theorem Leads.nxt {ι : Type _} {st : ι → St Pd} {inv : ι → Prop} {μ : ι → Nat} {m : Nat} {s : St Pd} {rest : List (Chunk Pd)} (j : ι) (τ : List Nat) (hj : inv j) (hlt : μ j < m) (h : Into X.nin τ s (st j) rest) :
    Leads X s (fun t => ∃ j, inv j ∧ μ j < m ∧ t = st j) := Leads.into τ h ⟨j, hj, hlt, rfl⟩
theorem fin_as {B : Base Pd} {G : Gl} {K : Out → List (Chunk Pd) → Prop} {nin : Nat} {cs : List (Chunk Pd)} {v : SV} (v' : SV) (hv : ∀ ρ, v.den ρ = v'.den ρ) (h : Fin B G K nin (.ret v') cs) : Fin B G K nin (.ret v) cs := by
  intro ρ F w hs
  obtain ⟨o, c, ρ', h1, h2, h3, h4⟩ := h ρ F w hs
  refine ⟨o, c, ρ', h1, h2, fun e he => h3 e ?_, h4⟩
  cases e <;> simp only [OutRel] at he ⊢
  rw [he, hv]
variable {W : IntKind → Int → Int} {bi : BinOp → IntKind → Int → Int → Int} {bc : BinOp → Int → Int → Bool} {bs : BinOp → ByteArray → ByteArray → Bool} {bk : ByteArray → ByteArray → ByteArray}
  {bu : ByteArray → Int → Int → ByteArray} {bb : ByteArray → Int → Int} {bo : Nat → Int → Nat → Nat} {bg : Int → Int → Nat} {bl : Nat → Int → Nat} {bp : Nat → Int → Nat} {bn : ByteArray → Int} {be : Int → ByteArray}
  {Ncond : Bool → (Unit → Prop) → (Unit → Prop) → Prop} {Nob : List Ob → (Unit → Prop) → Prop}
  {Nop : Op → TypeId → List SV → List (Chunk Pd) → Nat → (Out → List (Chunk Pd) → Nat → Prop) → Prop} {Nloop Nscope : Code → St Pd → (SX → St Pd → Prop) → Prop}

theorem bi_ (hN : Nodes X W ⟨bi, bc, bs, bk, bu, bb, bo, bg, bl, bp, bn, be⟩ Ncond Nob Nop Nloop Nscope) : bi = bitI := congrArg Bits.i hN.bits
theorem bc_ (hN : Nodes X W ⟨bi, bc, bs, bk, bu, bb, bo, bg, bl, bp, bn, be⟩ Ncond Nob Nop Nloop Nscope) : bc = bitC := congrArg Bits.c hN.bits
theorem bs_ (hN : Nodes X W ⟨bi, bc, bs, bk, bu, bb, bo, bg, bl, bp, bn, be⟩ Ncond Nob Nop Nloop Nscope) : bs = bitS := congrArg Bits.s hN.bits
theorem bk_ (hN : Nodes X W ⟨bi, bc, bs, bk, bu, bb, bo, bg, bl, bp, bn, be⟩ Ncond Nob Nop Nloop Nscope) : bk = fun x y => x ++ y := congrArg Bits.cat hN.bits
theorem bu_ (hN : Nodes X W ⟨bi, bc, bs, bk, bu, bb, bo, bg, bl, bp, bn, be⟩ Ncond Nob Nop Nloop Nscope) : bu = subs := congrArg Bits.sub hN.bits
theorem bb_ (hN : Nodes X W ⟨bi, bc, bs, bk, bu, bb, bo, bg, bl, bp, bn, be⟩ Ncond Nob Nop Nloop Nscope) : bb = bt := congrArg Bits.byte hN.bits
theorem bo_ (hN : Nodes X W ⟨bi, bc, bs, bk, bu, bb, bo, bg, bl, bp, bn, be⟩ Ncond Nob Nop Nloop Nscope) : bo = fun o l c => sloff o l.toNat c := congrArg Bits.off hN.bits
theorem bg_ (hN : Nodes X W ⟨bi, bc, bs, bk, bu, bb, bo, bg, bl, bp, bn, be⟩ Ncond Nob Nop Nloop Nscope) : bg = fun h l => h.toNat - l.toNat := congrArg Bits.gap hN.bits
theorem bl_ (hN : Nodes X W ⟨bi, bc, bs, bk, bu, bb, bo, bg, bl, bp, bn, be⟩ Ncond Nob Nop Nloop Nscope) : bl = fun c l => c - l.toNat := congrArg Bits.left hN.bits
theorem bp_ (hN : Nodes X W ⟨bi, bc, bs, bk, bu, bb, bo, bg, bl, bp, bn, be⟩ Ncond Nob Nop Nloop Nscope) : bp = fun o i => o + i.toNat := congrArg Bits.plus hN.bits
theorem bn_ (hN : Nodes X W ⟨bi, bc, bs, bk, bu, bb, bo, bg, bl, bp, bn, be⟩ Ncond Nob Nop Nloop Nscope) : bn = fun s => (s.size : Int) := congrArg Bits.len hN.bits
theorem be_ (hN : Nodes X W ⟨bi, bc, bs, bk, bu, bb, bo, bg, bl, bp, bn, be⟩ Ncond Nob Nop Nloop Nscope) : be = Utf8.encode := congrArg Bits.enc hN.bits
theorem ceq (hN : Nodes X W ⟨bi, bc, bs, bk, bu, bb, bo, bg, bl, bp, bn, be⟩ Ncond Nob Nop Nloop Nscope) (a b : Int) : bc .eql a b = decide (a = b) := by rw [bc_ hN]; rfl
theorem cne (hN : Nodes X W ⟨bi, bc, bs, bk, bu, bb, bo, bg, bl, bp, bn, be⟩ Ncond Nob Nop Nloop Nscope) (a b : Int) : bc .neq a b = !decide (a = b) := by rw [bc_ hN]; rfl
theorem clt (hN : Nodes X W ⟨bi, bc, bs, bk, bu, bb, bo, bg, bl, bp, bn, be⟩ Ncond Nob Nop Nloop Nscope) (a b : Int) : bc .lss a b = decide (a < b) := by rw [bc_ hN]; rfl
theorem cle (hN : Nodes X W ⟨bi, bc, bs, bk, bu, bb, bo, bg, bl, bp, bn, be⟩ Ncond Nob Nop Nloop Nscope) (a b : Int) : bc .leq a b = decide (a ≤ b) := by rw [bc_ hN]; rfl
theorem cgt (hN : Nodes X W ⟨bi, bc, bs, bk, bu, bb, bo, bg, bl, bp, bn, be⟩ Ncond Nob Nop Nloop Nscope) (a b : Int) : bc .gtr a b = decide (a > b) := by rw [bc_ hN]; rfl
theorem cge (hN : Nodes X W ⟨bi, bc, bs, bk, bu, bb, bo, bg, bl, bp, bn, be⟩ Ncond Nob Nop Nloop Nscope) (a b : Int) : bc .geq a b = decide (a ≥ b) := by rw [bc_ hN]; rfl
theorem iadd (hN : Nodes X W ⟨bi, bc, bs, bk, bu, bb, bo, bg, bl, bp, bn, be⟩ Ncond Nob Nop Nloop Nscope) {a b : Int} (h0 : -9223372036854775808 ≤ a + b) (h1 : a + b < 9223372036854775808) : bi .add .i64 a b = a + b := by
  rw [bi_ hN]; exact wrap_id h0 h1
theorem isub (hN : Nodes X W ⟨bi, bc, bs, bk, bu, bb, bo, bg, bl, bp, bn, be⟩ Ncond Nob Nop Nloop Nscope) {a b : Int} (h0 : -9223372036854775808 ≤ a - b) (h1 : a - b < 9223372036854775808) : bi .sub .i64 a b = a - b := by
  rw [bi_ hN]; exact wrap_id h0 h1
theorem inext (hN : Nodes X W ⟨bi, bc, bs, bk, bu, bb, bo, bg, bl, bp, bn, be⟩ Ncond Nob Nop Nloop Nscope) {k : Nat} (h : k < 9223372036854775807) : bi .add .i64 (Int.ofNat k) (Int.ofNat 1) = Int.ofNat (k + 1) := by
  rw [iadd hN (by simp; omega) (by simp; omega)]; rfl
theorem plus0 (hN : Nodes X W ⟨bi, bc, bs, bk, bu, bb, bo, bg, bl, bp, bn, be⟩ Ncond Nob Nop Nloop Nscope) (k : Nat) : bp 0 (Int.ofNat k) = k := by rw [bp_ hN]; simp
theorem len_eq (hN : Nodes X W ⟨bi, bc, bs, bk, bu, bb, bo, bg, bl, bp, bn, be⟩ Ncond Nob Nop Nloop Nscope) (s : ByteArray) : bn s = s.size := by rw [bn_ hN]
theorem seq_eq (hN : Nodes X W ⟨bi, bc, bs, bk, bu, bb, bo, bg, bl, bp, bn, be⟩ Ncond Nob Nop Nloop Nscope) (x y : ByteArray) : bs .eql x y = decide (x = y) := by
  rw [bs_ hN]
  show seq x y = _
  by_cases h : x = y
  · simp [h, seq_iff.2 rfl]
  · have : ¬ seq x y = true := fun e => h (seq_iff.1 e)
    simp [h, this]
theorem sne_eq (hN : Nodes X W ⟨bi, bc, bs, bk, bu, bb, bo, bg, bl, bp, bn, be⟩ Ncond Nob Nop Nloop Nscope) (x y : ByteArray) : bs .neq x y = !decide (x = y) := by
  rw [← seq_eq hN, bs_ hN]; rfl
 end
end Sx
/- Rules for maps. -/
namespace Sx
open Go
theorem Lit.val_inj : ∀ {a b : Lit}, a.val = b.val → a = b := by
  intro a b h
  cases a <;> cases b <;> simp [Lit.val] at h <;> simp [h]
section
variable {Pd : Type} {X : Cx Pd} {I : Pd → List Nat → HP} {P : Program} {G : Gl} {ρ : Nat → Nat} {cs rest : List (Chunk Pd)} {F : HP} {w : World} {ty : Tab}
theorem SatC.mapc {id : Nat} {es : List (Lit × Lit)} (h : SatC I G ρ (.map id es :: rest) F w) : ∃ e c, mapOf es (e, c) ∧ w.heap[ρ id]? = some (.map e c) := by
  obtain ⟨g, ⟨⟨e, c⟩, h1, h2⟩, h3⟩ := h.mem (.head _)
  exact ⟨e, c, h1, h3 _ _ h2.1⟩
def keyD : TD → Option TypeDesc
  | .str => some .string
  | .int k => some (.int k)
  | .bool => some .bool
  | _ => none
def keyK (d : TypeDesc) (K : Lit) : Prop := MapKept.IsKey d K.val
theorem keyD_ok {t : TypeId} {ti : TI} {d : TypeDesc} (h : ti.ok P t) (e : keyD ti.d = some d) : P.underlying t = some d := by
  have := h.desc
  cases e' : ti.d <;> simp only [e', keyD, Option.some.injEq, reduceCtorEq] at e <;> subst e <;> simpa only [e', TD.ok] using this

theorem lookup_run (hty : ty.ok P) {mt kt et : TypeId} {tm tk te : TI} {d : TypeDesc} (hm : ty mt = some tm) (hmd : tm.d = .map kt et) (hkt : ty kt = some tk) (hkd : keyD tk.d = some d) (het : ty et = some te)
    {id : Nat} {es : List (Lit × Lit)} {K : Lit} (hs : SatC I G ρ (.map id es :: rest) F w) (hK : keyK d K) (hks : ∀ x ∈ es, keyK d x.1) (ok : Bool) :
    (∃ v, (K, v) ∈ es ∧ (Instr.lookup mt (.map (some (ρ id))) K.val ok).run P w = .ok (if ok then .tuple #[v.val, .bool true] else v.val) w) ∨
    ((∀ x ∈ es, x.1 ≠ K) ∧ (Instr.lookup mt (.map (some (ρ id))) K.val ok).run P w = .ok (if ok then .tuple #[te.zero.den ρ, .bool false] else te.zero.den ρ) w) := by
  obtain ⟨e, c, ⟨h1, _⟩, h2⟩ := hs.mapc
  have hd := (hty _ _ hm).desc
  rw [hmd] at hd; simp only [TD.ok] at hd
  have hkd' := keyD_ok (hty _ _ hkt) hkd
  have hz := (hty _ _ het).run_zeroValue ρ w
  have hkeys : ∀ x ∈ e.toList, MapKept.IsKey d x.key := by
    intro x hx
    have : (x.key, x.val) ∈ es.map (fun x => (x.1.val, x.2.val)) := h1 ▸ List.mem_map.2 ⟨x, hx, rfl⟩
    obtain ⟨y, hy, e⟩ := List.mem_map.1 this
    simp only [Prod.mk.injEq] at e
    rw [← e.1]; exact hks y hy
  rcases MapKept.findNow_spec hK e.toList 0 hkeys with ⟨f1, f2⟩ | ⟨j, x, f1, f2, f3⟩
  · right
    refine ⟨fun y hy hyK => ?_, ?_⟩
    · have : (y.1.val, y.2.val) ∈ e.toList.map (fun x => (x.key, x.val)) := h1 ▸ List.mem_map.2 ⟨y, hy, rfl⟩
      obtain ⟨x, hx, e⟩ := List.mem_map.1 this
      simp only [Prod.mk.injEq] at e
      exact f2 x hx (by rw [e.1, hyK])
    · simp [Instr.lookup, run_underlying hd, MapKept.run_getObj_map h2, MapKept.run_checkKey hkd' hK, MapKept.run_findKey hkd' f1, hz]
  · left
    have hx : x ∈ e.toList := List.mem_of_getElem? f2
    have : (x.key, x.val) ∈ es.map (fun x => (x.1.val, x.2.val)) := h1 ▸ List.mem_map.2 ⟨x, hx, rfl⟩
    obtain ⟨⟨k, v⟩, hy, e⟩ := List.mem_map.1 this
    simp only [Prod.mk.injEq] at e
    have hk : k = K := Lit.val_inj (e.1.trans f3)
    subst hk
    refine ⟨v, hy, ?_⟩
    simp [Instr.lookup, run_underlying hd, MapKept.run_getObj_map h2, MapKept.run_checkKey hkd' hK, MapKept.run_findKey hkd' f1, e.2]

theorem lookup_ (hty : X.ty.ok X.P) {mt kt et type : TypeId} {tm tk te : TI} {d : TypeDesc} {a b : Operand} {id n : Nat} {es : List (Lit × Lit)} (K : Lit) {k : SV} {ok : Bool} {cont : Out → List (Chunk Pd) → Nat → Prop}
    (hm : X.ty mt = some tm) (hmd : tm.d = .map kt et) (hkt : X.ty kt = some tk) (hkd : keyD tk.d = some d) (het : X.ty et = some te)
    (hp : pickC [id] cs = some ([.map id es], rest)) (hk : k = SV.ofLit K) (hK : keyK d K) (hks : ∀ x ∈ es, keyK d x.1)
    (h1 : ∀ v, (K, v) ∈ es → cont (.ret (if ok then .tuple [SV.ofLit v, .tt] else SV.ofLit v)) cs n)
    (h2 : (∀ x ∈ es, x.1 ≠ K) → cont (.ret (if ok then .tuple [te.zero, .ff] else te.zero)) cs n) :
    NodeX X (.lookup mt a b ok) type [.map id, k] cs n cont := by
  intro ρ F w ρe o ho _ hv hs
  obtain ⟨dst, op, ty', pos, after, guard⟩ := o
  simp only at ho; subst ho
  have hab : ρe a = (SV.map id).den ρ ∧ ρe b = K.val := by
    subst hk
    simpa [Op.operands, SV.denL, SV.ofLit_den] using hv
  rcases lookup_run hty hm hmd hkt hkd het (hs.perm (pick_one hp)) hK hks ok with ⟨v, hv, hr⟩ | ⟨hn, hr⟩
  · simp only [execOp, hab.1, hab.2, SV.den, Sem.run_bind, hr, Result.andThen_ok, Sem.run_pure, Upon]
    refine ⟨_, cs, n, ρ, ?_, Nat.le_refl _, Ext.refl _ _, hs, h1 v hv⟩
    cases ok <;> simp [SV.den, SV.denL, SV.ofLit_den]
  · simp only [execOp, hab.1, hab.2, SV.den, Sem.run_bind, hr, Result.andThen_ok, Sem.run_pure, Upon]
    refine ⟨_, cs, n, ρ, ?_, Nat.le_refl _, Ext.refl _ _, hs, h2 hn⟩
    cases ok <;> simp [SV.den, SV.denL]

theorem update_run (hty : ty.ok P) {mt kt et : TypeId} {tm tk : TI} {d : TypeDesc} (hm : ty mt = some tm) (hmd : tm.d = .map kt et) (hkt : ty kt = some tk) (hkd : keyD tk.d = some d)
    {id : Nat} {es : List (Lit × Lit)} {K v : Lit} (hs : SatC I G ρ (.map id es :: rest) F w) (hK : keyK d K) (hks : ∀ x ∈ es, keyK d x.1) (hn : ∀ x ∈ es, x.1 ≠ K) :
    ∃ w', (Instr.mapUpdate mt (.map (some (ρ id))) K.val v.val).run P w = .ok () w' ∧ SatC I G ρ (.map id (es ++ [(K, v)]) :: rest) F w' := by
  obtain ⟨e, c, ⟨h1, h3⟩, h2⟩ := hs.mapc
  have hd := (hty _ _ hm).desc
  rw [hmd] at hd; simp only [TD.ok] at hd
  have hkd' := keyD_ok (hty _ _ hkt) hkd
  have hkeys : ∀ x ∈ e.toList, MapKept.IsKey d x.key := by
    intro x hx
    have : (x.key, x.val) ∈ es.map (fun x => (x.1.val, x.2.val)) := h1 ▸ List.mem_map.2 ⟨x, hx, rfl⟩
    obtain ⟨y, hy, e⟩ := List.mem_map.1 this
    simp only [Prod.mk.injEq] at e
    rw [← e.1]; exact hks y hy
  rcases MapKept.findNow_spec hK e.toList 0 hkeys with ⟨f1, f2⟩ | ⟨j, x, f1, f2, f3⟩
  · refine ⟨{ w with heap := w.heap.setIfInBounds (ρ id) (.map (e.push { key := K.val, val := v.val, born := c }) (c + 1)) }, ?_, ?_⟩
    · simp [Instr.mapUpdate, run_underlying hd, MapKept.run_getObj_map h2, MapKept.run_checkKey hkd' hK, MapKept.run_findKey hkd' f1, MapKept.run_setObj_map _ h2]
    · obtain ⟨p1, p2, g, ⟨⟨e', c'⟩, hmo, pp⟩, s, t⟩ := hs
      have he : Obj.map e' c' = Obj.map e c := by
        have := (s _ _ pp.1).1
        simp only [Sx.hp] at this
        rw [h2] at this; exact (Option.some.inj this).symm
      cases he
      have h6 : Sat G (pts (ρ id) (.map e c) :: (rest.map (Chunk.den I ρ) ++ [F])) w := ⟨p1, p2, g, pp, s, t⟩
      have h7 := Sat.put (o' := .map (e.push { key := K.val, val := v.val, born := c }) (c + 1)) (w' := { w with heap := w.heap.setIfInBounds (ρ id) (.map (e.push { key := K.val, val := v.val, born := c }) (c + 1)) }) h6 rfl
      obtain ⟨q1, q2, g, pp, s, t⟩ := h7
      refine ⟨q1, q2, g, ⟨(e.push { key := K.val, val := v.val, born := c }, c + 1), ⟨?_, MapKept.stamped_push h3 f2⟩, pp⟩, s, t⟩
      simp [h1]
  · exfalso
    have hx : x ∈ e.toList := List.mem_of_getElem? f2
    have : (x.key, x.val) ∈ es.map (fun x => (x.1.val, x.2.val)) := h1 ▸ List.mem_map.2 ⟨x, hx, rfl⟩
    obtain ⟨y, hy, e⟩ := List.mem_map.1 this
    simp only [Prod.mk.injEq] at e
    exact hn y hy (Lit.val_inj (e.1.trans f3))

def isUpd (mt : TypeId) (a b c : Operand) (op : Op) : Prop := op = .mapUpdate mt a b c ∨ op = .insert mt a b c
theorem update_ (hty : X.ty.ok X.P) {op : Op} {mt kt et type : TypeId} {tm tk : TI} {d : TypeDesc} {a b c : Operand} {id n : Nat} {es : List (Lit × Lit)} (K v : Lit) {k u : SV} {cont : Out → List (Chunk Pd) → Nat → Prop}
    (hop : isUpd mt a b c op) (hm : X.ty mt = some tm) (hmd : tm.d = .map kt et) (hkt : X.ty kt = some tk) (hkd : keyD tk.d = some d)
    (hp : pickC [id] cs = some ([.map id es], rest)) (hk : k = SV.ofLit K) (hu : ∀ ρ, u.den ρ = v.val) (hK : keyK d K) (hks : ∀ x ∈ es, keyK d x.1) (hn : ∀ x ∈ es, x.1 ≠ K)
    (h : cont (.ret (.tuple [])) (.map id (es ++ [(K, v)]) :: rest) n) : NodeX X op type [.map id, k, u] cs n cont := by
  intro ρ F w ρe o ho _ hv hs
  obtain ⟨dst, op', ty', pos, after, guard⟩ := o
  simp only at ho; subst ho
  have hab : ρe a = (SV.map id).den ρ ∧ ρe b = K.val ∧ ρe c = v.val := by
    subst hk
    rcases hop with rfl | rfl <;> simpa [Op.operands, SV.denL, SV.ofLit_den, hu] using hv
  obtain ⟨w', hr, hs'⟩ := update_run (v := v) hty hm hmd hkt hkd (hs.perm (pick_one hp)) hK hks hn
  have hrun : (execOp ρe ⟨dst, op', ty', pos, after, guard⟩).run X.P w = .ok .skip w' := by
    rcases hop with rfl | rfl <;> simp only [execOp, hab.1, hab.2.1, hab.2.2, SV.den, Sem.run_bind, hr, Result.andThen_ok, Sem.run_pure]
  rw [hrun]
  exact ⟨_, n, ρ, Nat.le_refl _, Ext.refl _ _, hs', h⟩

theorem maplen_ (hty : X.ty.ok X.P) {mt kt et type : TypeId} {tm : TI} {a : Operand} {id n : Nat} {es : List (Lit × Lit)} {cont : Out → List (Chunk Pd) → Nat → Prop}
    (hm : X.ty mt = some tm) (hmd : tm.d = .map kt et) (hp : pickC [id] cs = some ([.map id es], rest)) (h : ∀ m : Nat, m = es.length → cont (.ret (.int .i64 m)) cs n) :
    NodeX X (.call ⟨.builtin .len, #[a], #[mt]⟩) type [.map id] cs n cont := by
  intro ρ F w ρe o ho _ hv hs
  obtain ⟨dst, op, ty', pos, after, guard⟩ := o
  simp only at ho; subst ho
  have ha : ρe a = (SV.map id).den ρ := by simpa [Op.operands, Call.operands, SV.denL] using hv
  obtain ⟨e, c, ⟨h1, _⟩, h2⟩ := (hs.perm (pick_one hp)).mapc
  have hd := (hty _ _ hm).desc
  rw [hmd] at hd; simp only [TD.ok] at hd
  have hlen : e.size = es.length := by have := congrArg List.length h1; simpa using this
  have hrun : (execOp ρe ⟨dst, .call ⟨.builtin .len, #[a], #[mt]⟩, ty', pos, after, guard⟩).run X.P w = .ok (.value (.int .i64 es.length)) w := by
    simp only [execOp, resolve, List.map_toArray, List.map_cons, List.map_nil, ha, SV.den, Sem.run_bind, Sem.run_pure, Result.andThen_ok, invoke, builtin]
    simp [Builtin.len_, run_underlying hd, MapKept.run_getObj_map h2, goInt, hlen]
  rw [hrun]
  exact ⟨_, cs, n, ρ, rfl, Nat.le_refl _, Ext.refl _ _, hs, h _ rfl⟩
 end
end Sx
/- Arrays of pointers: a pointer's block has a real number. -/
namespace Sx
open Go
/-- a pointer in an array; none: nil -/
def encP : Option Nat → List Lit
  | some g => [.ptr g]
  | none => [.nil]
theorem wideP : Wide 1 encP := fun x => by cases x <;> rfl
def encS (s : ByteArray) : List Lit := [.str s]
theorem wideS : Wide 1 encS := fun _ => rfl
def hasAt {Pd : Type} : List (Chunk Pd) → Nat → Nat → Bool
  | [], _, _ => false
  | .at_ i h :: r, j, g => (natEq i j && natEq h g) || hasAt r j g
  | _ :: r, j, g => hasAt r j g
section
variable {Pd : Type} {X : Cx Pd} {I : Pd → List Nat → HP} {G : Gl} {ρ : Nat → Nat} {cs rest : List (Chunk Pd)} {F : HP} {w : World}
theorem SatC.at_ {j g : Nat} (h : SatC I G ρ cs F w) (hm : (Chunk.at_ j g : Chunk Pd) ∈ cs) : ρ j = g := by
  obtain ⟨_, h1, _⟩ := h.mem hm
  exact h1
theorem SatC.addAt {j g : Nat} (h : SatC I G ρ cs F w) (e : ρ j = g) : SatC I G ρ (.at_ j g :: cs) F w :=
  ⟨h.size, h.old, SatR.addAny (A := Chunk.den I ρ (.at_ j g)) e h.sep⟩
/-- a block's real number is told -/
theorem op_name (j : Nat) {op : Op} {type : TypeId} {vals : List SV} {n : Nat} {cont : Out → List (Chunk Pd) → Nat → Prop} (hv : SV.idOkL (belowB n) vals = true)
    (h : ∀ g, NodeX X op type vals (.at_ j g :: cs) n cont) : NodeX X op type vals cs n cont :=
  op_ent (ι := Nat) (fun g => .at_ j g :: cs) hv (Nat.le_refl n) (fun ρ F w hs => ⟨ρ j, ρ, Ext.refl _ _, hs.addAt rfl⟩) h
theorem fin_name (j : Nat) {B : Base Pd} {K : Out → List (Chunk Pd) → Prop} {nin : Nat} {out : Out} (h : ∀ g, Fin B G K nin out (.at_ j g :: cs)) : Fin B G K nin out cs :=
  fun ρ F w hs => h (ρ j) ρ F w (hs.addAt rfl)
theorem leads_name (j : Nat) {s : St Pd} {J : St Pd → Prop} (h : ∀ g, Leads X ⟨s.env, .at_ j g :: s.cs, s.n⟩ J) : Leads X s J :=
  fun ρ F a w hr => h (ρ j) ρ F a w ⟨hr.env, hr.mem.addAt rfl, hr.size, hr.dfs, hr.nin⟩
/-- a pointer that is loaded -/
theorem load_ptr (hty : X.ty.ok X.P) {id idx n j g : Nat} {T t type : TypeId} {ti : TI} {a : Operand} {p wr : Bool} {xs : List (Option Nat)} {cont : Out → List (Chunk Pd) → Nat → Prop}
    (hp : pickC [id] cs = some ([.arr p wr id T encP xs], rest)) (hpr : p = true) (ht : X.ty t = some ti) (hta : ti.d.isAgg = false) (hx : xs[idx]? = some (some g))
    (hat : (Chunk.at_ j g : Chunk Pd) ∈ cs) (hk : cont (.ret (.ptr j 0)) cs n) : NodeX X (.load t a) type [.eptr id 1 idx 0] cs n cont := by
  intro ρ F w ρe o ho hty' hv hs
  have hlt : idx < xs.length := (List.getElem?_eq_some_iff.1 hx).1
  have := load_arr (cont := fun out cs' n' => out = .ret (.gptr g 0) ∧ cs' = cs ∧ n' = n) hty (n := n) hp hpr ht wideP (by simp [rowRoom, hta]) hlt (type := type) (a := a) (cs := cs) (fun x hx' => by
    rw [hx] at hx'; cases hx'
    simp [rowVal, hta, encP, SV.ofLit]) ρ F w ρe o ho hty' hv hs
  generalize (execOp ρe o).run X.P w = r at *
  cases r with
  | ok nx w' =>
    cases nx <;> simp only [Upon] at this ⊢
    case value v =>
      obtain ⟨u, c2, n2, ρ2, g1, g2, g3, g4, g5, g6, g7⟩ := this
      cases g5; subst g6; subst g7
      refine ⟨.ptr j 0, _, _, ρ2, ?_, g2, g3, g4, hk⟩
      rw [g1]; simp only [SV.den, g4.at_ hat]
    case skip => obtain ⟨c2, n2, ρ2, g2, g3, g4, g5, _⟩ := this; cases g5
    case enter f args =>
      refine this.mono fun e w'' ⟨out, c2, n2, ρ2, g1, g2, g3, g4, g5, g6, g7⟩ => ?_
      subst g5; subst g6; subst g7
      refine ⟨.ret (.ptr j 0), _, _, ρ2, ?_, g2, g3, g4, hk⟩
      cases e <;> simp only [OutRel] at g1 ⊢
      rw [g1]; simp only [SV.den, g4.at_ hat]
    case round l f tmps assign body =>
      refine ⟨this.1, this.2.mono fun e w'' ⟨out, c2, n2, ρ2, g1, g2, g3, g4, g5, g6, g7⟩ => ?_⟩
      subst g5; subst g6; subst g7
      refine ⟨.ret (.ptr j 0), _, _, ρ2, ?_, g2, g3, g4, hk⟩
      cases e <;> simp only [OutRel] at g1 ⊢
      rw [g1]; simp only [SV.den, g4.at_ hat]
  | halt x w' =>
    cases x <;> simp only [Upon] at this ⊢
    obtain ⟨u, c2, n2, ρ2, g1, g2, g3, g4, g5, _⟩ := this
    cases g5
theorem src_ptr {id j g : Nat} {T : TypeId} (hg : cget cs id = some (T, [.ptr j 0])) (hat : (Chunk.at_ j g : Chunk Pd) ∈ cs) : Src X 1 (.slice id 1 0 1 1) cs encP [some g] :=
  src_cells wideP hg (fun ρ F w hs => by simp [SV.denL, SV.den, encP, Lit.val, hs.at_ hat]) rfl
 end
end Sx
namespace Sx
open Go
section
variable {Pd : Type} {X : Cx Pd} {cs : List (Chunk Pd)}
/-- a load, a store, tried again behind an opening -/
theorem load_ (hty : X.ty.ok X.P) {t type : TypeId} {a : Operand} {id off n : Nat} {v : SV} {cont : Out → List (Chunk Pd) → Nat → Prop}
    (h : loadM cs (X.ty t) (.ptr id off) = some v) (hk : cont (.ret v) cs n) : NodeX X (.load t a) type [.ptr id off] cs n cont := by
  intro ρ F w ρe o ho _ hv hs
  obtain ⟨dst, op, ty', pos, after, guard⟩ := o
  simp only at ho; subst ho
  have ha : ρe a = (SV.ptr id off).den ρ := by simpa [Op.operands, SV.denL] using hv
  simp only [execOp, ha, Sem.run_bind, loadM_run hty hs h, Result.andThen_ok, Sem.run_pure, Upon]
  exact ⟨_, cs, n, ρ, rfl, Nat.le_refl _, Ext.refl _ _, hs, hk⟩
theorem store_ (hty : X.ty.ok X.P) {t type : TypeId} {a b : Operand} {id off n : Nat} {v : SV} {cs' : List (Chunk Pd)} {cont : Out → List (Chunk Pd) → Nat → Prop}
    (h : storeM cs (X.ty t) (.ptr id off) v = some cs') (hk : cont (.ret (.tuple [])) cs' n) : NodeX X (.store t a b) type [.ptr id off, v] cs n cont := by
  intro ρ F w ρe o ho _ hv hs
  obtain ⟨dst, op, ty', pos, after, guard⟩ := o
  simp only at ho; subst ho
  have ha : ρe a = (SV.ptr id off).den ρ ∧ ρe b = v.den ρ := by simpa [Op.operands, SV.denL] using hv
  obtain ⟨w', h1, h2⟩ := storeM_run hty hs h
  simp only [execOp, ha.1, ha.2, Sem.run_bind, h1, Result.andThen_ok, Sem.run_pure, Upon]
  exact ⟨cs', n, ρ, Nat.le_refl _, Ext.refl _ _, h2, hk⟩
 end
end Sx
namespace Sx
open Go
section
variable {Pd : Type} {X : Cx Pd} {cs : List (Chunk Pd)}
/-- the same memory in other words -/
theorem op_eq (cs2 : List (Chunk Pd)) {op : Op} {type : TypeId} {vals : List SV} {n : Nat} {cont : Out → List (Chunk Pd) → Nat → Prop} (hc : ∀ ρ, cs.map (Chunk.den X.I ρ) = cs2.map (Chunk.den X.I ρ))
    (h : NodeX X op type vals cs2 n cont) : NodeX X op type vals cs n cont :=
  fun ρ F w ρe o ho ht hv hs => h ρ F w ρe o ho ht hv (by unfold SatC at hs ⊢; rw [← hc]; exact hs)
theorem fin_eq (cs2 : List (Chunk Pd)) {B : Base Pd} {G : Gl} {K : Out → List (Chunk Pd) → Prop} {nin : Nat} {out : Out} (hc : ∀ ρ, cs.map (Chunk.den B.I ρ) = cs2.map (Chunk.den B.I ρ)) (h : Fin B G K nin out cs2) : Fin B G K nin out cs :=
  fun ρ F w hs => h ρ F w (by unfold SatC at hs ⊢; rw [← hc]; exact hs)
theorem leads_eq (cs2 : List (Chunk Pd)) {s : St Pd} {J : St Pd → Prop} (hc : ∀ ρ, s.cs.map (Chunk.den X.I ρ) = cs2.map (Chunk.den X.I ρ)) (h : Leads X ⟨s.env, cs2, s.n⟩ J) : Leads X s J :=
  fun ρ F a w hr => h ρ F a w ⟨hr.env, by have := hr.mem; unfold SatC at this ⊢; rw [← hc]; exact this, hr.size, hr.dfs, hr.nin⟩
 end
end Sx
namespace Sx
open Go
section
variable {Pd : Type} {X : Cx Pd} {cs : List (Chunk Pd)}
theorem cput_den {I : Pd → List Nat → HP} {id : Nat} {T : TypeId} {vs us : List SV} (h : cget cs id = some (T, vs)) (he : ∀ ρ, SV.denL ρ vs = SV.denL ρ us) (ρ : Nat → Nat) : cs.map (Chunk.den I ρ) = (cput cs id us).map (Chunk.den I ρ) := by
  obtain ⟨l1, l2, h1, h2⟩ := cget_split h
  rw [h2 us, h1]
  simp only [List.map_append, List.map_cons, Chunk.den, he ρ]
theorem fin_cput (id : Nat) {T : TypeId} {vs : List SV} (us : List SV) {B : Base Pd} {G : Gl} {K : Out → List (Chunk Pd) → Prop} {nin : Nat} {out : Out} (h : cget cs id = some (T, vs)) (he : ∀ ρ, SV.denL ρ vs = SV.denL ρ us)
    (h2 : Fin B G K nin out (cput cs id us)) : Fin B G K nin out cs := fin_eq _ (cput_den h he) h2
theorem op_cput (id : Nat) {T : TypeId} {vs : List SV} (us : List SV) {op : Op} {type : TypeId} {vals : List SV} {n : Nat} {cont : Out → List (Chunk Pd) → Nat → Prop} (h : cget cs id = some (T, vs)) (he : ∀ ρ, SV.denL ρ vs = SV.denL ρ us)
    (h2 : NodeX X op type vals (cput cs id us) n cont) : NodeX X op type vals cs n cont := op_eq _ (cput_den h he) h2
theorem leads_cput (id : Nat) {T : TypeId} {vs : List SV} (us : List SV) {s : St Pd} {J : St Pd → Prop} (h : cget s.cs id = some (T, vs)) (he : ∀ ρ, SV.denL ρ vs = SV.denL ρ us)
    (h2 : Leads X ⟨s.env, cput s.cs id us, s.n⟩ J) : Leads X s J := leads_eq _ (cput_den h he) h2
 end
end Sx
/- A callee that is walked in place; calls of function values that lie raw in memory; contracts of the library. -/
namespace Sx
open Go
section
variable {Pd : Type} {B : Base Pd} {G : Gl}
def inlK {Pd : Type} (ty : Tab) (rs : List ResultVar) (cont : Out → List (Chunk Pd) → Nat → Prop) (x : SX) (s : St Pd) : Prop :=
  match x with
  | .normal | .ret => match resOf ty s rs with
    | some l => cont (.ret (resV l)) s.cs s.n
    | none => False
  | .panic v => cont (.pan v) s.cs s.n
  | _ => False

theorem inline_core (hB : B.ok) {f : FuncId} {fn : Func} {c : Code} {tb : Tab} (htb : B.ty = tb) (pl' : List (Nat × Plan)) (hf : B.P.funcs[f]? = some fn) (hb : fn.body = some c) (hpl : plansOk pl' c = true)
    {full : List SV} {cs : List (Chunk Pd)} {n : Nat} {cont : Out → List (Chunk Pd) → Nat → Prop} (hargs : full.length ≤ fn.ntmps)
    (h : ∀ W bi bc bs bk bu bb bo bg bl bp bn be Ncond Nob Nop Nloop Nscope, Nodes (cxOf B G fn.ntmps n pl') W ⟨bi, bc, bs, bk, bu, bb, bo, bg, bl, bp, bn, be⟩ Ncond Nob Nop Nloop Nscope →
      run W ⟨bi, bc, bs, bk, bu, bb, bo, bg, bl, bp, bn, be⟩ tb Ncond Nob Nop Nloop Nscope (fn.ntmps % 65536) n pl' c ⟨envOf 0 full, cs, n⟩ (inlK tb fn.results.toList cont))
    {ρ : Nat → Nat} {F : HP} {w : World} (hs : SatC B.I G ρ cs F w) :
    Calls B.P f (SV.denL ρ full).toArray w fun e w' => ∃ out cs n' ρ', OutRel ρ' out e ∧ n ≤ n' ∧ Ext n ρ ρ' ∧ SatC B.I G ρ' cs F w' ∧ cont out cs n' := by
  subst htb
  let X := cxOf B G fn.ntmps n pl'
  have hN : Nodes X IntKind.wrap bitsOf (fun b x y => (b = true → x ()) ∧ (b = false → y ())) (fun l k => obsP l ∧ k ()) (NodeX X) (LoopX X) (ScopeX X) := ⟨rfl, rfl, rfl, rfl, rfl, rfl, rfl⟩
  have hrun := h _ _ _ _ _ _ _ _ _ _ _ _ _ _ _ _ _ _ hN
  have hrel : Rel X ρ ⟨envOf 0 full, cs, n⟩ F { tmps := (SV.denL ρ full).toArray ++ Array.replicate (fn.ntmps - (SV.denL ρ full).toArray.size) undef, defers := [] } w := by
    refine ⟨fun t v g => ?_, hs, ?_, ⟨rfl, fun k hk => by simp only [X, cxOf] at hk; omega⟩, Nat.le_refl n⟩
    · obtain ⟨_, h2⟩ := envOf_get g
      simp only [Nat.sub_zero] at h2
      have h3 : (SV.denL ρ full)[t]? = some (v.den ρ) := by rw [denL_get, h2]; rfl
      have hlt : t < (SV.denL ρ full).length := (List.getElem?_eq_some_iff.1 h3).1
      rw [Array.getD_eq_getD_getElem?, Array.getElem?_append_left (by simpa using hlt)]
      simp [h3]
    · have : (SV.denL ρ full).length = full.length := by simp [SV.denL_eq]
      simp [this, X, cxOf]; omega
  have hwp := run_ok hN hB.ty hB.mixed c _ _ hpl hrun ρ ρ F _ w (Ext.refl _ _) hrel
  refine calls_of_wp hf hb (wp_mono hwp fun e a w' hq => ?_)
  have hret : ∀ s ρ2, inlK B.ty fn.results.toList cont .ret s → Ext n ρ ρ2 → Rel X ρ2 s F a w' →
      a.defers = [] ∧ ∃ v, (results fn a.tmps).run B.P w' = .ok v w' ∧ ∃ out cs n' ρ', OutRel ρ' out (.returned v) ∧ n ≤ n' ∧ Ext n ρ ρ' ∧ SatC B.I G ρ' cs F w' ∧ cont out cs n' := by
    intro s ρ2 hk he2 hr
    simp only [inlK] at hk
    split at hk
    · rename_i l hl
      have h3 := results_run (X := X) hB.ty hr hl
      exact ⟨hr.dfs.1, _, h3, .ret (resV l), s.cs, s.n, ρ2, rfl, hr.nin, he2, hr.mem, hk⟩
    · exact hk.elim
  cases e with
  | normal => obtain ⟨s, ρ2, hk, he2, hr⟩ := hq; exact hret s ρ2 hk he2 hr
  | ret => obtain ⟨s, ρ2, hk, he2, hr⟩ := hq; exact hret s ρ2 hk he2 hr
  | panic ch =>
    obtain ⟨v, s, ρ2, hk, he2, rfl, hr⟩ := hq
    exact ⟨hr.dfs.1, .pan v, s.cs, s.n, ρ2, rfl, hr.nin, he2, hr.mem, hk⟩
  | exit i => obtain ⟨s, ρ2, hk, _⟩ := hq; exact hk.elim
  | goto i => obtain ⟨s, ρ2, hk, _⟩ := hq; exact hk.elim
  | outgrown => exact hq.elim

/-- the callee is walked in place, in a frame of whatever make -/
theorem inlineX_ (hB : B.ok) {f : FuncId} {fn : Func} {c : Code} {tb : Tab} (htb : B.ty = tb) (pl' : List (Nat × Plan)) (hcall : ∀ as w, (callFunc f as).run B.P w = .ok (.enter f as) w) (hf : B.P.funcs[f]? = some fn) (hb : fn.body = some c) (hpl : plansOk pl' c = true)
    {fo : Operand} {as : Array Operand} {ts : Array TypeId} {type : TypeId} {a b cargs : List SV} {cs : List (Chunk Pd)} {n : Nat} {cont : Out → List (Chunk Pd) → Nat → Prop}
    (hargs : (a ++ cargs ++ b).length ≤ fn.ntmps)
    (h : ∀ W bi bc bs bk bu bb bo bg bl bp bn be Ncond Nob Nop Nloop Nscope, Nodes (cxOf B G fn.ntmps n pl') W ⟨bi, bc, bs, bk, bu, bb, bo, bg, bl, bp, bn, be⟩ Ncond Nob Nop Nloop Nscope →
      run W ⟨bi, bc, bs, bk, bu, bb, bo, bg, bl, bp, bn, be⟩ tb Ncond Nob Nop Nloop Nscope (fn.ntmps % 65536) n pl' c ⟨envOf 0 (a ++ cargs ++ b), cs, n⟩ (inlK tb fn.results.toList cont)) {X : Cx Pd} (hX : IsX X B G := by exact ⟨rfl, rfl, rfl⟩) :
    NodeX X (.call ⟨.value fo, as, ts⟩) type (.fn (.func f) a b :: cargs) cs n cont := by
  intro ρ F w ρe o ho _ hv hs
  obtain ⟨dst, op, ty', pos, after, guard⟩ := o
  simp only at ho
  subst ho
  have hops : (Op.call ⟨.value fo, as, ts⟩).operands.toList = fo :: as.toList := by simp [Op.operands, Call.operands]
  rw [hops] at hv
  simp only [List.map_cons, SV.denL, List.cons.injEq, SV.den] at hv
  obtain ⟨hfo, has⟩ := hv
  have has' : as.map ρe = (SV.denL ρ cargs).toArray := by rw [← has]; apply Array.ext'; simp
  have hrun : (execOp ρe ⟨dst, .call ⟨.value fo, as, ts⟩, ty', pos, after, guard⟩).run B.P w = .ok (.enter f (SV.denL ρ (a ++ cargs ++ b)).toArray) w := by
    simp only [execOp, resolve, hfo, has', Deferred.ofValue, Sem.run_bind, Sem.run_pure, Result.andThen_ok, invoke, hcall]
    congr 2
    apply Array.ext'
    simp [SV.denL_eq]
  obtain ⟨hP, hI, hGe⟩ := hX
  rw [hP, hrun]
  simp only [Upon, hP, hI, hGe]
  rw [hI, hGe] at hs
  exact inline_core hB htb pl' hf hb hpl hargs h hs

/-- the callee is walked in place -/
theorem inline_ (hB : B.ok) {f : FuncId} {fn : Func} {c : Code} {tb : Tab} (htb : B.ty = tb) (pl' : List (Nat × Plan)) (hcall : ∀ as w, (callFunc f as).run B.P w = .ok (.enter f as) w) (hf : B.P.funcs[f]? = some fn) (hb : fn.body = some c) (hpl : plansOk pl' c = true)
    {sz nin0 : Nat} {pl : List (Nat × Plan)} {fo : Operand} {as : Array Operand} {ts : Array TypeId} {type : TypeId} {a b cargs : List SV} {cs : List (Chunk Pd)} {n : Nat} {cont : Out → List (Chunk Pd) → Nat → Prop}
    (hargs : (a ++ cargs ++ b).length ≤ fn.ntmps)
    (h : ∀ W bi bc bs bk bu bb bo bg bl bp bn be Ncond Nob Nop Nloop Nscope, Nodes (cxOf B G fn.ntmps n pl') W ⟨bi, bc, bs, bk, bu, bb, bo, bg, bl, bp, bn, be⟩ Ncond Nob Nop Nloop Nscope →
      run W ⟨bi, bc, bs, bk, bu, bb, bo, bg, bl, bp, bn, be⟩ tb Ncond Nob Nop Nloop Nscope (fn.ntmps % 65536) n pl' c ⟨envOf 0 (a ++ cargs ++ b), cs, n⟩ (inlK tb fn.results.toList cont)) :
    NodeX (cxOf B G sz nin0 pl) (.call ⟨.value fo, as, ts⟩) type (.fn (.func f) a b :: cargs) cs n cont :=
  inlineX_ hB htb pl' hcall hf hb hpl hargs h

/-- the values that an operation is handed are said otherwise -/
theorem op_vals {X : Cx Pd} {op : Op} {type : TypeId} {vals vals' : List SV} {cs : List (Chunk Pd)} {n : Nat} {cont : Out → List (Chunk Pd) → Nat → Prop}
    (hv : ∀ ρ F w, SatC X.I X.G ρ cs F w → SV.denL ρ vals = SV.denL ρ vals') (h : NodeX X op type vals' cs n cont) : NodeX X op type vals cs n cont := by
  intro ρ F w ρe o ho ht hvals hs
  exact h ρ F w ρe o ho ht (hvals.trans (hv ρ F w hs)) hs

/-- the cells of a block are said otherwise, by what is known of the memory -/
theorem cput_at {X : Cx Pd} {cs : List (Chunk Pd)} {id : Nat} {T : TypeId} {vs us : List SV} (h : cget cs id = some (T, vs))
    (he : ∀ ρ F w, SatC X.I X.G ρ cs F w → SV.denL ρ vs = SV.denL ρ us) : ∀ ρ F w, SatC X.I X.G ρ cs F w → SatC X.I X.G ρ (cput cs id us) F w := by
  intro ρ F w hs
  obtain ⟨l1, l2, h1, h2⟩ := cget_split h
  have e := he ρ F w hs
  rw [h2 us]
  rw [h1] at hs
  unfold SatC at hs ⊢
  simpa only [List.map_append, List.map_cons, Chunk.den, e] using hs
theorem op_cput_at {X : Cx Pd} (id : Nat) {cs : List (Chunk Pd)} {T : TypeId} {vs : List SV} (us : List SV) {op : Op} {type : TypeId} {vals : List SV} {n : Nat} {cont : Out → List (Chunk Pd) → Nat → Prop} (hv : SV.idOkL (belowB n) vals = true) (h : cget cs id = some (T, vs))
    (he : ∀ ρ F w, SatC X.I X.G ρ cs F w → SV.denL ρ vs = SV.denL ρ us) (hk : NodeX X op type vals (cput cs id us) n cont) : NodeX X op type vals cs n cont :=
  op_ent (ι := Unit) (fun _ => cput cs id us) hv (Nat.le_refl n) (fun ρ F w hs => ⟨(), ρ, Ext.refl _ _, cput_at h he ρ F w hs⟩) fun _ => hk
theorem fin_cput_at (id : Nat) {cs : List (Chunk Pd)} {T : TypeId} {vs : List SV} (us : List SV) {K : Out → List (Chunk Pd) → Prop} {nin : Nat} {out : Out} (h : cget cs id = some (T, vs))
    (he : ∀ ρ F w, SatC B.I G ρ cs F w → SV.denL ρ vs = SV.denL ρ us) (hk : Fin B G K nin out (cput cs id us)) : Fin B G K nin out cs :=
  fun ρ F w hs => hk ρ F w (cput_at (X := cxOf B G 0 0 []) h he ρ F w hs)

theorem fin_open {Tm : Pd → List (Chunk Pd) → Prop} (hI : B.I = Im Tm) (id k n : Nat) {p : Pd} {ids : List Nat} {K : Out → List (Chunk Pd) → Prop} {nin : Nat} {out : Out} {cs rest : List (Chunk Pd)}
    (hp : pickC [id] cs = some ([.abs p ids], rest)) (hi : idsOk (belowB n) ids = true) (hr : call (belowB n) rest = true)
    (hv : (match out with | .ret v => v.idOk (belowB n) | .pan v => v.idOk (belowB n)) = true) (hn : Nat.ble nin n = true)
    (h : ∀ cs', Tm p cs' → Fin B G K nin out (csRen (sg ids n) cs' ++ rest)) : Fin B G K nin out cs := by
  refine fin_ent (ι := {cs' // Tm p cs'}) (n := n) (fun y => csRen (sg ids n) y.1 ++ rest) hv (Nat.le_of_ble_eq_true hn) (fun ρ F w hs => ?_) fun y => h y.1 y.2
  rw [hI] at hs ⊢
  obtain ⟨cs', c1, ρ', c2, c3⟩ := (hs.perm (pick_one hp)).open hi hr
  exact ⟨⟨cs', c1⟩, ρ', c2, c3⟩
theorem src_vec {X : Cx Pd} {α : Type} {id wd lo len cap : Nat} {T : TypeId} {p wr : Bool} {enc : α → List Lit} {xs new : List α} {cs rest : List (Chunk Pd)} (hw : Wide wd enc) (hp : pickC [id] cs = some ([.arr p wr id T enc xs], rest)) (hl : lo + len ≤ xs.length)
    (hpr : p = false → len = 0) (hnew : (xs.drop lo).take len = new) : Src X wd (.vec p id wd lo len cap) cs enc new := hnew ▸ src_arr hw hp hl hpr
/-- an array that there is not -/
theorem SatC.noArr {I : Pd → List Nat → HP} {ρ : Nat → Nat} {cs : List (Chunk Pd)} {F : HP} {w : World} {α : Type} (h : SatC I G ρ cs F w) (wr : Bool) (id : Nat) (T : TypeId) (enc : α → List Lit) (xs : List α) : SatC I G ρ (.arr false wr id T enc xs :: cs) F w :=
  ⟨h.size, h.old, SatR.addAny (fun h => by cases h) h.sep⟩
theorem fin_noArr {α : Type} (wr : Bool) (id : Nat) (T : TypeId) (enc : α → List Lit) (xs : List α) {K : Out → List (Chunk Pd) → Prop} {nin : Nat} {out : Out} {cs : List (Chunk Pd)}
    (h : Fin B G K nin out (.arr false wr id T enc xs :: cs)) : Fin B G K nin out cs := fun ρ F w hs => h ρ F w (hs.noArr wr id T enc xs)
theorem op_noArr {X : Cx Pd} {α : Type} (wr : Bool) (id n' : Nat) (T : TypeId) (enc : α → List Lit) (xs : List α) {op : Op} {type : TypeId} {vals : List SV} {cs : List (Chunk Pd)} {n : Nat} {cont : Out → List (Chunk Pd) → Nat → Prop}
    (hv : SV.idOkL (belowB n) vals = true) (hn : Nat.ble n n' = true) (h : NodeX X op type vals (.arr false wr id T enc xs :: cs) n' cont) : NodeX X op type vals cs n cont :=
  op_ent (ι := Unit) (fun _ => _) hv (Nat.le_of_ble_eq_true hn) (fun ρ F w hs => ⟨(), ρ, Ext.refl _ _, SatC.noArr hs wr id T enc xs⟩) fun _ => h
theorem leads_noArr {X : Cx Pd} {α : Type} (wr : Bool) (id n' : Nat) (T : TypeId) (enc : α → List Lit) (xs : List α) {s : St Pd} {J : St Pd → Prop}
    (hn : Nat.ble s.n n' = true) (h : Leads X ⟨s.env, .arr false wr id T enc xs :: s.cs, n'⟩ J) : Leads X s J := by
  intro ρ F a w hr
  exact h ρ F a w ⟨hr.env, hr.mem.noArr wr id T enc xs, hr.size, hr.dfs, Nat.le_trans hr.nin (Nat.le_of_ble_eq_true hn)⟩
/-- the memory grows, and no more -/
theorem SatC.grow {I : Pd → List Nat → HP} {ρ : Nat → Nat} {cs : List (Chunk Pd)} {F : HP} {w w' : World} (h : SatC I G ρ cs F w) (hs : w.heap.size ≤ w'.heap.size)
    (he : ∀ b, b < w.heap.size → w'.heap[b]? = w.heap[b]?) (ei : io w' = io w) : SatC I G ρ cs F w' := by
  have hsz := h.size
  refine ⟨Nat.le_trans hsz hs, ⟨ei.trans h.old.io, fun b hb => by rw [he b (by omega)]; exact h.old.old b hb⟩, ?_⟩
  refine SatR.mono h.sep fun b o e n => ⟨?_, n⟩
  simp only [hp] at e ⊢
  have : b < w.heap.size := by
    rcases Nat.lt_or_ge b w.heap.size with x | x
    · exact x
    · rw [Array.getElem?_eq_none x] at e; cases e
  rw [he b this]; exact e

/-- a contract of the library: it asks no memory of ours, and leaves all as it was -/
theorem triple_lib {f : FuncId} {args : List SV} {post : (Out → List (Chunk Pd) → Prop) → Prop} (out : Out) (hpost : ∀ K, post K → K out []) (hcall : ∀ as w, (callFunc f as).run B.P w = .ok (.enter f as) w)
    (hl : ∀ G, B.GOk G → ∀ (ρ : Nat → Nat) (w : World), (∀ b, b < G.base → w.heap[b]? = G.w0 b) → G.base ≤ w.heap.size →
      Calls B.P f (SV.denL ρ args).toArray w fun e w' => OutRel ρ out e ∧ w.heap.size ≤ w'.heap.size ∧ (∀ b, b < w.heap.size → w'.heap[b]? = w.heap[b]?) ∧ io w' = io w) :
    Triple B f 0 0 args [] post := by
  refine ⟨hcall, fun G hG K hK ρ F w hs => (hl G hG ρ w hs.old.old hs.size).mono ?_⟩
  rintro e w' ⟨h1, h2, h3, h4⟩
  exact ⟨out, [], ρ, h1, hpost K hK, Ext.refl _ _, hs.grow h2 h3 h4⟩
 end
end Sx
/- Scopes in which the run jumps; strings that are ranged over. -/
namespace Sx
open Go
section
variable {P : Program}
/-- the scope's body (or what stands behind a label of it), with so many jumps left -/
def scopeW (P : Program) (c : Code) (Q : Exit → Act → World → Prop) : Nat → Code → Act → World → Prop
  | n, code, a, w => code.wp P (fun e a' w' => match e with
    | .goto l => match n with
      | 0 => False
      | m + 1 => ∃ r, findLabel c l = some r ∧ scopeW P c Q m r a' w'
    | e => Q e a' w') a w
theorem wp_scope_n {c : Code} {Q : Exit → Act → World → Prop} {n : Nat} {a : Act} {w : World} (h : scopeW P c Q n c a w) : (Code.scope c).wp P Q a w := by
  intro b k cs
  have key : ∀ n code a w, scopeW P c Q n code a w → ∃ e a' w', Q e a' w' ∧ Arrives P (lone (b.at a (.code code :: .inScope c :: k)) cs w) b k cs e a' w' := by
    intro n
    induction n with
    | zero =>
      intro code a w h
      unfold scopeW at h
      obtain ⟨e, a₁, w₁, hq, harr⟩ := h b (.inScope c :: k) cs
      cases e with
      | normal => exact ⟨.normal, a₁, w₁, hq, Steps.trans harr (.one step_inScope)⟩
      | exit id => exact ⟨.exit id, a₁, w₁, hq, fun k' hk => harr k' (by simp [exitTo, hk])⟩
      | goto l' => exact hq.elim
      | ret => exact ⟨_, a₁, w₁, hq, harr⟩
      | panic ch => exact ⟨_, a₁, w₁, hq, harr⟩
      | outgrown => exact ⟨_, a₁, w₁, hq, harr⟩
    | succ n ih =>
      intro code a w h
      unfold scopeW at h
      obtain ⟨e, a₁, w₁, hq, harr⟩ := h b (.inScope c :: k) cs
      cases e with
      | normal => exact ⟨.normal, a₁, w₁, hq, Steps.trans harr (.one step_inScope)⟩
      | exit id => exact ⟨.exit id, a₁, w₁, hq, fun k' hk => harr k' (by simp [exitTo, hk])⟩
      | goto l' =>
        obtain ⟨r, hr, hq⟩ := hq
        obtain ⟨e₂, a₂, w₂, hq₂, harr₂⟩ := ih _ _ _ hq
        have hg : gotoIn l' (.inScope c :: k) = some (.code r :: .inScope c :: k) := by simp [gotoIn, hr]
        exact ⟨e₂, a₂, w₂, hq₂, .of_steps (harr _ hg) harr₂⟩
      | ret => exact ⟨_, a₁, w₁, hq, harr⟩
      | panic ch => exact ⟨_, a₁, w₁, hq, harr⟩
      | outgrown => exact ⟨_, a₁, w₁, hq, harr⟩
  obtain ⟨e, a', w', hq, harr⟩ := key n c a w h
  exact ⟨e, a', w', hq, .of_steps (.one step_scope) harr⟩
theorem plansOk_label {pl : List (Nat × Plan)} : ∀ {c : Code} {l : Nat} {r : Code}, plansOk pl c = true → findLabel c l = some r → plansOk pl r = true
  | .seq a b, l, r, h, e => by
    simp only [plansOk, Bool.and_eq_true] at h
    simp only [findLabel] at e
    split at e
    · rename_i rest hr
      simp only [Option.some.injEq] at e; subst e
      simp only [plansOk, Bool.and_eq_true]
      exact ⟨plansOk_label h.1 hr, h.2⟩
    · exact plansOk_label h.2 e
  | .label l', l, r, h, e => by
    simp only [findLabel] at e
    split at e
    · simp only [Option.some.injEq] at e; subst e; rfl
    · cases e
  | .skip, _, _, _, e | .region .., _, _, _, e | .cond .., _, _, _, e | .block .., _, _, _, e | .loop _, _, _, _, e | .rangeFunc .., _, _, _, e | .exit _, _, _, _, e | .scope _, _, _, _, e | .goto _, _, _, _, e | .ret, _, _, _, e | .refuse _, _, _, _, e => by simp [findLabel] at e
 end
section
variable {Pd : Type} {X : Cx Pd}
variable {W : IntKind → Int → Int} {bits : Bits} {Ncond : Bool → (Unit → Prop) → (Unit → Prop) → Prop} {Nob : List Ob → (Unit → Prop) → Prop}
  {Nop : Op → TypeId → List SV → List (Chunk Pd) → Nat → (Out → List (Chunk Pd) → Nat → Prop) → Prop} {Nloop Nscope : Code → St Pd → (SX → St Pd → Prop) → Prop}
def scopeK (W : IntKind → Int → Int) (bits : Bits) (ty : Tab) (Ncond : Bool → (Unit → Prop) → (Unit → Prop) → Prop) (Nob : List Ob → (Unit → Prop) → Prop)
  (Nop : Op → TypeId → List SV → List (Chunk Pd) → Nat → (Out → List (Chunk Pd) → Nat → Prop) → Prop) (Nloop Nscope : Code → St Pd → (SX → St Pd → Prop) → Prop) (sz nin : Nat) (pl : List (Nat × Plan)) (c : Code) (K : SX → St Pd → Prop) : Nat → SX → St Pd → Prop
  | 0, .goto _, _ => False
  | n + 1, .goto l, s => match findLabel c l with
    | some r => run W bits ty Ncond Nob Nop Nloop Nscope sz nin pl r s (scopeK W bits ty Ncond Nob Nop Nloop Nscope sz nin pl c K n)
    | none => False
  | _, x, s => K x s
theorem scope_ (hN : Nodes X W bits Ncond Nob Nop Nloop Nscope) (hty : X.ty.ok X.P) (hm : X.P.follows .mixedOrders = true) (n : Nat) {c : Code} {s : St Pd} {K : SX → St Pd → Prop}
    (h : run W bits X.ty Ncond Nob Nop Nloop Nscope X.sz X.nin X.pl c s (scopeK W bits X.ty Ncond Nob Nop Nloop Nscope X.sz X.nin X.pl c K n)) (hro : X.ro = none := by rfl) : ScopeX X c s K := by
  intro hp ρ0 ρ F a w he hr
  rw [hro]
  refine wpIn_wide.2 ?_
  refine wp_scope_n (n := n) ?_
  have key : ∀ n code s ρ a w, plansOk X.pl code = true → run W bits X.ty Ncond Nob Nop Nloop Nscope X.sz X.nin X.pl code s (scopeK W bits X.ty Ncond Nob Nop Nloop Nscope X.sz X.nin X.pl c K n) →
      Ext X.nin ρ0 ρ → Rel X ρ s F a w → scopeW X.P c (Post X K ρ0 F) n code a w := by
    intro n
    induction n with
    | zero =>
      intro code s ρ a w hpc hrun he hr
      unfold scopeW
      refine wp_mono (run_ok hN hty hm code s _ hpc hrun ρ0 ρ F a w he hr hro) fun e a w hq => ?_
      cases e with
      | goto l => obtain ⟨s', ρ', h1, _⟩ := hq; exact h1.elim
      | normal => exact hq
      | exit i => exact hq
      | ret => exact hq
      | panic c => exact hq
      | outgrown => exact hq
    | succ n ih =>
      intro code s ρ a w hpc hrun he hr
      unfold scopeW
      refine wp_mono (run_ok hN hty hm code s _ hpc hrun ρ0 ρ F a w he hr hro) fun e a w hq => ?_
      cases e with
      | goto l =>
        obtain ⟨s', ρ', h1, h2, h3⟩ := hq
        simp only [scopeK] at h1
        split at h1
        · rename_i r hrl
          exact ⟨r, hrl, ih r s' ρ' a w (plansOk_label hp hrl) h1 h2 h3⟩
        · exact h1.elim
      | normal => exact hq
      | exit i => exact hq
      | ret => exact hq
      | panic c => exact hq
      | outgrown => exact hq
  exact key n c s ρ a w hp h he hr
 end
end Sx
/- Deferred calls: a closure that recovers. -/
namespace Sx
open Go
section
variable {P : Program} {ops : Array Oper} {Q : Act → World → Prop} {cs : List Frame}
def upN (Q : Act → World → Prop) : Exit → Act → World → Prop
  | .normal, a, w => Q a w
  | _, _, _ => False
def upS (Q : Act → World → Prop) (cs : List Frame) : Exit → Act → List Frame → World → Prop
  | .normal, a, cs', w => Q a w ∧ cs' = cs
  | _, _, _, _ => False
theorem not_letsOut : ¬ LetsOut (upN Q) := by
  rintro ⟨a, w, h⟩; exact h
theorem stepS {o : Oper} {a : Act} {w : World} {K : Act → World → Prop} {K' : Act → List Frame → World → Prop} (h : o.wp P a w K (upN Q)) (hk : ∀ a w, K a w → K' a cs w) {X : World → Prop} {Q' : Exit → Act → List Frame → World → Prop} :
    (match (execOp a.eval o).run P w with
      | .ok .recover w' => X w'
      | r => o.upon P a (fun a' w' => K' a' cs w') (fun e a' w' => Q' e a' cs w') r) := by
  unfold Oper.wp at h
  generalize (execOp a.eval o).run P w = r at h ⊢
  cases r with
  | ok nx w' =>
    cases nx <;> simp only [Oper.upon] at h ⊢ <;> try exact hk _ _ h
    case enter f args =>
      refine h.mono fun e w2 hq => ?_
      cases e with
      | returned v => exact hk _ _ hq
      | panicked c => exact hq.elim
      | outgrown => exact (not_letsOut hq).elim
    case row row args => 
      intro b cs2
      obtain ⟨v, w2, h1, h2⟩ := h b cs2
      exact ⟨v, w2, hk _ _ h1, h2⟩
    all_goals exact h.elim
  | halt x w' =>
    cases x <;> simp only [Oper.upon] at h ⊢ <;> exact h.elim
theorem opsS_plain {Q' : Exit → Act → List Frame → World → Prop} (hQ : ∀ a w, Q a w → Q' .normal a cs w) : ∀ (l : List Nat) (a : Act) (w : World), wpOps P ops (upN Q) l a w → wpOpsS P ops Q' l a cs w
  | [], a, w, h => hQ a w h
  | i :: r, a, w, h => by
    simp only [wpOps, wpOpsS] at h ⊢
    cases ho : ops[i]? with
    | none => simp only [ho] at h ⊢; exact opsS_plain hQ r a w h
    | some o =>
      simp only [ho] at h ⊢
      by_cases hw : Region.wanted o (yielded ops a.tmps) = true
      · rw [if_pos hw] at h ⊢
        rcases h with h | ⟨_, h⟩
        · exact stepS h (fun a w hk => opsS_plain hQ r a w hk)
        · exact (not_letsOut h).elim
      · rw [if_neg hw] at h ⊢
        exact opsS_plain hQ r _ w h
/-- what a recover gives, and what it makes of the frame that is left -/
def recM : FrameMode → Value × FrameMode
  | .panicking ({ v, recovered := false, goexit := false } :: older) => (v, .panicking ({ v, recovered := true } :: older))
  | m => (.nilIface, m)
theorem recD (c : Frame) (rest : List Frame) : (∃ v, recoverD (c :: rest) = some (v, { c with mode := (recM c.mode).2 } :: rest) ∧ (recM c.mode).1 = v) ∨ (recoverD (c :: rest) = none ∧ recM c.mode = (.nilIface, c.mode)) := by
  cases hm : c.mode with
  | panicking ch =>
    cases ch with
    | nil => exact .inr (by simp [recoverD, recM, hm])
    | cons e older =>
      obtain ⟨v, r, g⟩ := e
      cases r <;> cases g <;> simp [recoverD, recM, hm]
  | run => exact .inr (by simp [recoverD, recM, hm])
  | returning => exact .inr (by simp [recoverD, recM, hm])
theorem recover_step {c : Frame} {rest : List Frame} {o : Oper} {a : Act} {w : World} {K : Act → List Frame → World → Prop} {Y : Result Next → Prop} (ho : (execOp a.eval o).run P w = .ok .recover w)
    (h : K (a.put o.dst (recM c.mode).1) ({ c with mode := (recM c.mode).2 } :: rest) w) :
    (match (execOp a.eval o).run P w with
      | .ok .recover w' =>
          match recoverD (c :: rest) with
          | some (v, cs') => K (a.put o.dst v) cs' w'
          | none => K (a.put o.dst .nilIface) (c :: rest) w'
      | r => Y r) := by
  rw [ho]
  rcases recD c rest with ⟨v, h1, rfl⟩ | ⟨h1, h2⟩
  · simp only [h1]; exact h
  · simp only [h1]; rw [h2] at h; exact h
/-- a region that draws, some operation of which recovers -/
def wpAnyS (P : Program) (md : Region.Mode) (ops : Array Oper) (Q : Exit → Act → List Frame → World → Prop) : Nat → Array Bool → Act → List Frame → World → Prop
  | 0, listed, a, cs, w => Region.ready md ops listed = [] ∧ Q .normal a cs w
  | fuel + 1, listed, a, cs, w =>
    (Region.ready md ops listed = [] → Q .normal a cs w) ∧
    ∀ i ∈ Region.ready md ops listed, match ops[i]? with
      | none => wpAnyS P md ops Q fuel (listed.setIfInBounds i true) a cs w
      | some o =>
        if Region.wanted o (yielded ops a.tmps) then
          match (execOp a.eval o).run P w with
          | .ok .recover w' =>
            match recoverD cs with
            | some (v, cs') => wpAnyS P md ops Q fuel (listed.setIfInBounds i true) (a.put o.dst v) cs' w'
            | none => wpAnyS P md ops Q fuel (listed.setIfInBounds i true) (a.put o.dst .nilIface) cs w'
          | r => o.upon P a (fun a' w' => wpAnyS P md ops Q fuel (listed.setIfInBounds i true) a' cs w') (fun e a' w' => Q e a' cs w') r
        else wpAnyS P md ops Q fuel (listed.setIfInBounds i true) (a.put o.dst undef) cs w
theorem upon_mono {o : Oper} {a : Act} {K K' : Act → World → Prop} {Q : Exit → Act → World → Prop} (hk : ∀ a w, K a w → K' a w) {r : Result Next} (h : o.upon P a K Q r) : o.upon P a K' Q r := by
  cases r with
  | ok nx w' =>
    cases nx <;> simp only [Oper.upon] at h ⊢ <;> try exact hk _ _ h
    case enter f args =>
      refine h.mono fun e w2 hq => ?_
      cases e with
      | returned v => exact hk _ _ hq
      | panicked c => exact hq
      | outgrown => exact hq
    case row row args =>
      intro b cs2
      obtain ⟨v, w2, h1, h2⟩ := h b cs2
      exact ⟨v, w2, hk _ _ h1, h2⟩
  | halt x w' => cases x <;> simp only [Oper.upon] at h ⊢ <;> exact h
theorem wpAnyS_sound {md : Region.Mode} {Q : Exit → Act → List Frame → World → Prop} : ∀ (fuel t : Nat) (listed : Array Bool) (a : Act) (cs : List Frame) (w : World), wpAnyS P md ops Q fuel listed a cs w →
    wpOpsS P ops Q (Region.linearise.go md ops fuel t listed []) a cs w := by
  intro fuel
  induction fuel with
  | zero => intro t listed a cs w h; simpa [Region.linearise.go, wpOpsS] using h.2
  | succ fuel ih =>
    intro t listed a cs w h
    obtain ⟨h₀, h₁⟩ := h
    simp only [Region.linearise.go]
    change wpOpsS P ops Q (match (Region.ready md ops listed)[t % (Region.ready md ops listed).length]? with
      | some i => Region.linearise.go md ops fuel (t / (Region.ready md ops listed).length) (listed.setIfInBounds i true) [i]
      | none => [].reverse) a cs w
    cases hi : (Region.ready md ops listed)[t % (Region.ready md ops listed).length]? with
    | none =>
      have hnil : Region.ready md ops listed = [] := by
        cases hr : Region.ready md ops listed with
        | nil => rfl
        | cons x xs =>
          rw [hr] at hi
          have hlt : t % (x :: xs).length < (x :: xs).length := Nat.mod_lt _ (by simp)
          simp at hi
          simp at hlt
          omega
      simpa [wpOpsS] using h₀ hnil
    | some i =>
      simp only []
      rw [linearise_go_acc, List.reverse_singleton, List.singleton_append]
      have h2 := h₁ i (List.mem_of_getElem? hi)
      simp only [wpOpsS]
      cases ho : ops[i]? with
      | none => simp only [ho] at h2 ⊢; exact ih _ _ _ _ _ h2
      | some o =>
        simp only [ho] at h2 ⊢
        by_cases hw : Region.wanted o (yielded ops a.tmps) = true
        · rw [if_pos hw] at h2 ⊢
          generalize (execOp a.eval o).run P w = r at h2 ⊢
          split at h2
          · split at h2
            · rename_i hr; simp only [hr]; exact ih _ _ _ _ _ h2
            · rename_i hr; simp only [hr]; exact ih _ _ _ _ _ h2
          · rename_i hno
            split
            · exact (hno _ rfl).elim
            · exact upon_mono (fun a w hk => ih _ _ _ _ _ hk) h2
        · rw [if_neg hw] at h2 ⊢
          exact ih _ _ _ _ _ h2
theorem wpS_region_any {id : Nat} {Q : Exit → Act → List Frame → World → Prop} {a : Act} {cs : List Frame} {w : World} (hm : P.follows .mixedOrders = true)
    (h : wpAnyS P .any ops Q ops.size (Array.replicate ops.size false) a cs { w with drawn := w.drawn + 1 }) : (Code.region id ops true).wpS P Q a cs w := by
  intro b k hb hr
  have h2 := fun t => wpAnyS_sound ops.size t (Array.replicate ops.size false) a cs _ h
  have h3 : ∀ t, wpOpsS P ops Q (Region.schedule (P.follows .mixedOrders) ops t) a cs { w with drawn := w.drawn + 1 } := by
    intro t
    simp only [Region.schedule, hm, Bool.true_or, if_true]
    exact h2 t
  obtain ⟨e, a', cs', w', q, r⟩ := wp_opsS _ a cs _ (h3 _) b k hb hr
  exact ⟨e, a', cs', w', q, .of_steps (.one step_region_draw) r⟩
theorem anyS_plain {md : Region.Mode} {Q' : Exit → Act → List Frame → World → Prop} (hQ : ∀ a w, Q a w → Q' .normal a cs w) : ∀ (fuel : Nat) (listed : Array Bool) (a : Act) (w : World), wpAny P md ops (upN Q) fuel listed a w → wpAnyS P md ops Q' fuel listed a cs w
  | 0, listed, a, w, h => ⟨h.1, hQ a w h.2⟩
  | fuel + 1, listed, a, w, h => by
    refine ⟨fun h0 => hQ a w (h.1 h0), fun i hi => ?_⟩
    have h2 := h.2 i hi
    unfold wpOp at h2
    cases ho : ops[i]? with
    | none => simp only [ho] at h2 ⊢; exact anyS_plain hQ fuel _ a w h2
    | some o =>
      simp only [ho] at h2 ⊢
      by_cases hw : Region.wanted o (yielded ops a.tmps) = true
      · rw [if_pos hw] at h2 ⊢
        rcases h2 with h2 | ⟨_, h2⟩
        · exact stepS h2 (fun a w hk => anyS_plain hQ fuel _ a w hk)
        · exact (not_letsOut h2).elim
      · rw [if_neg hw] at h2 ⊢
        exact anyS_plain hQ fuel _ _ w h2
 end

/- Closures that are deferred. -/
section
variable {Pd : Type} (B : Base Pd)
structure DTriple (f : FuncId) (nin : Nat) (args : List SV) (pre : List (Chunk Pd)) (u : FrameMode) (post : (List (Chunk Pd) → Prop) → Prop) : Prop where
  goes : ∀ G, B.GOk G → ∀ K, post K → ∀ ρ F w, SatC B.I G ρ pre F w → CallsD B.P f (SV.denL ρ args).toArray u w fun e u' w' =>
    (∃ v, e = .returned v) ∧ u' = (recM u).2 ∧ ∃ cs ρ', K cs ∧ Ext nin ρ ρ' ∧ SatC B.I G ρ' cs F w'
variable {B}
def finD (Nfin : List (Chunk Pd) → Prop) (x : SX) (s : St Pd) : Prop :=
  match x with
  | .normal | .ret => Nfin s.cs
  | _ => False
def FinD (G : Gl) (K : List (Chunk Pd) → Prop) (nin : Nat) (cs : List (Chunk Pd)) : Prop := ∀ ρ F w, SatC B.I G ρ cs F w → ∃ cs' ρ', K cs' ∧ Ext nin ρ ρ' ∧ SatC B.I G ρ' cs' F w

theorem start_rel {G : Gl} {f : FuncId} {fn : Func} {nin : Nat} {pl : List (Nat × Plan)} {args : List SV} {pre : List (Chunk Pd)} {ρ : Nat → Nat} {F : HP} {w : World} (hargs : args.length ≤ fn.ntmps) (hs : SatC B.I G ρ pre F w) :
    Rel (cxOf B G fn.ntmps nin pl) ρ ⟨envOf 0 args, pre, nin⟩ F { tmps := (SV.denL ρ args).toArray ++ Array.replicate (fn.ntmps - (SV.denL ρ args).toArray.size) undef, defers := [] } w := by
  refine ⟨fun t v g => ?_, hs, ?_, ⟨rfl, fun k hk => by simp only [cxOf] at hk; omega⟩, Nat.le_refl nin⟩
  · obtain ⟨_, h2⟩ := envOf_get g
    simp only [Nat.sub_zero] at h2
    have h3 : (SV.denL ρ args)[t]? = some (v.den ρ) := by rw [denL_get, h2]; rfl
    have hlt : t < (SV.denL ρ args).length := (List.getElem?_eq_some_iff.1 h3).1
    rw [Array.getD_eq_getD_getElem?, Array.getElem?_append_left (by simpa using hlt)]
    simp [h3]
  · have : (SV.denL ρ args).length = args.length := by simp [SV.denL_eq]
    simp [this, cxOf]; omega
variable {G : Gl}
/-- a region does not jump, leave, or give up: what stands behind it -/
theorem FinD.of {K : List (Chunk Pd) → Prop} {nin : Nat} (τ : List Nat) {cs cs' rest : List (Chunk Pd)} (h2 : pickC (idsOf (csRen (tau nin τ) cs')) cs = some (csRen (tau nin τ) cs', rest)) (hk : K cs') : FinD (B := B) G K nin cs := by
  intro ρ F w hs
  exact ⟨cs', fun i => ρ (tau nin τ i), hk, fun i hi => by simp [tau_lt hi], SatC.renI.1 (hs.perm (pickC_perm h2)).appL⟩
theorem restS {fn : Func} {R : Ending → FrameMode → World → Prop} {c0 : Frame} {csf : List Frame} {rest : Code} {K : List (Chunk Pd) → Prop} {nin sz : Nat} {pl : List (Nat × Plan)} {um : FrameMode}
    {W : IntKind → Int → Int} {bits : Bits} {Ncond : Bool → (Unit → Prop) → (Unit → Prop) → Prop} {Nob : List Ob → (Unit → Prop) → Prop}
    {Nop : Op → TypeId → List SV → List (Chunk Pd) → Nat → (Out → List (Chunk Pd) → Nat → Prop) → Prop} {Nloop Nscope : Code → St Pd → (SX → St Pd → Prop) → Prop}
    (hB : B.ok) (hres : fn.results = #[]) (hN : Nodes (cxOf B G sz nin pl) W bits Ncond Nob Nop Nloop Nscope) (hpl : plansOk pl rest = true) {s : St Pd} {ρ0 ρ : Nat → Nat} {F : HP} {a : Act} {w : World}
    (hR : ∀ v w', (∃ cs ρ', K cs ∧ Ext nin ρ0 ρ' ∧ SatC B.I G ρ' cs F w') → R (.returned v) um w')
    (h : run W bits B.ty Ncond Nob Nop Nloop Nscope (sz % 65536) nin pl rest s (finD (FinD (B := B) G K nin))) (he : Ext nin ρ0 ρ) (hr : Rel (cxOf B G sz nin pl) ρ s F a w) :
    rest.wpS B.P (bodyPostS B.P fn c0 csf R) a ({ c0 with mode := um } :: csf) w := by
  refine wpS_of_wp (wp_mono (run_ok hN hB.ty hB.mixed rest s _ hpl h ρ0 ρ F a w he hr) fun e a w hq => ?_)
  have key : ∀ s ρ', FinD (B := B) G K nin s.cs → Ext nin ρ0 ρ' → Rel (cxOf B G sz nin pl) ρ' s F a w → a.defers = [] ∧ ∃ u', ({ c0 with mode := um } : Frame) :: csf = { c0 with mode := u' } :: csf ∧ ∃ v, (results fn a.tmps).run B.P w = .ok v w ∧ R (.returned v) u' w := by
    intro s ρ' hk he' hr'
    obtain ⟨cs2, ρ2, h1, h2, h3⟩ := hk ρ' F w hr'.mem
    refine ⟨hr'.dfs.1, um, rfl, .tuple #[], by simp [results, hres], hR _ _ ⟨cs2, ρ2, h1, he'.trans h2, h3⟩⟩
  cases e with
  | normal => obtain ⟨s, ρ', h1, h2, h3⟩ := hq; exact key s ρ' h1 h2 h3
  | ret => obtain ⟨s, ρ', h1, h2, h3⟩ := hq; exact key s ρ' h1 h2 h3
  | panic ch => obtain ⟨v, s, ρ', h1, _⟩ := hq; exact h1.elim
  | exit i => obtain ⟨s, ρ', h1, _⟩ := hq; exact h1.elim
  | goto i => obtain ⟨s, ρ', h1, _⟩ := hq; exact h1.elim
  | outgrown => exact hq.elim
/-- a closure that recovers first of all -/
theorem dcall_first (hB : B.ok) {f : FuncId} {fn : Func} {id d : Nat} {ops : Array Oper} {o0 : Oper} {os : List Oper} {rest : Code} {tb : Tab} (htb : B.ty = tb) (pl : List (Nat × Plan)) (hf : B.P.funcs[f]? = some fn) (hb : fn.body = some (.seq (.region id ops false) rest))
    (hpl : plansOk pl rest = true) (hops : ops.toList = o0 :: os) (ho : o0.op = .call ⟨.builtin .recover, #[], #[]⟩) (hg : o0.guard = none) (hd : o0.dst = some d) (hdsz : Nat.ble (d + 1) fn.ntmps = true) (hsz : Nat.ble (fn.ntmps + 1) 65536 = true) (hres : fn.results = #[])
    {nin : Nat} {args : List SV} {pre : List (Chunk Pd)} {u : FrameMode} {post : (List (Chunk Pd) → Prop) → Prop} (hargs : Nat.ble args.length fn.ntmps = true) (sv : SV) (hsv : ∀ ρ, sv.den ρ = (recM u).1)
    (h : ∀ G, B.GOk G → ∀ K, post K → ∀ W bi bc bs bk bu bb bo bg bl bp bn be Ncond Nob Nop Nloop Nscope, Nodes (cxOf B G fn.ntmps nin pl) W ⟨bi, bc, bs, bk, bu, bb, bo, bg, bl, bp, bn, be⟩ Ncond Nob Nop Nloop Nscope →
      ∀ Nfin : List (Chunk Pd) → Prop, (∀ cs, FinD (B := B) G K nin cs → Nfin cs) → (∀ cs, Nfin cs → FinD (B := B) G K nin cs) →
      runOps W ⟨bi, bc, bs, bk, bu, bb, bo, bg, bl, bp, bn, be⟩ tb Ncond Nob Nop (fn.ntmps % 65536) nin ops.toList os ⟨eset (envOf 0 args) d sv, pre, nin⟩
        (fun s => run W ⟨bi, bc, bs, bk, bu, bb, bo, bg, bl, bp, bn, be⟩ tb Ncond Nob Nop Nloop Nscope (fn.ntmps % 65536) nin pl rest s (finD Nfin)) (fun _ _ => False)) : DTriple B f nin args pre u post := by
  subst htb
  refine ⟨fun G hG K hK ρ F w hs => callsD_of_wpS hf hb fun c0 csf hu => ?_⟩
  have hargs := Nat.le_of_ble_eq_true hargs
  have hN : Nodes (cxOf B G fn.ntmps nin pl) IntKind.wrap bitsOf (fun b x y => (b = true → x ()) ∧ (b = false → y ())) (fun l k => obsP l ∧ k ()) (NodeX (cxOf B G fn.ntmps nin pl)) (LoopX (cxOf B G fn.ntmps nin pl)) (ScopeX (cxOf B G fn.ntmps nin pl)) := ⟨rfl, rfl, rfl, rfl, rfl, rfl, rfl⟩
  have hrun := h G hG K hK _ _ _ _ _ _ _ _ _ _ _ _ _ _ _ _ _ _ hN (FinD (B := B) G K nin) (fun _ x => x) (fun _ x => x)
  have hrel := start_rel (B := B) (G := G) (f := f) (nin := nin) (pl := pl) hargs hs
  generalize ha : ({ tmps := (SV.denL ρ args).toArray ++ Array.replicate (fn.ntmps - (SV.denL ρ args).toArray.size) undef, defers := [] } : Act) = a at hrel ⊢
  have hsize : ops.size = os.length + 1 := by rw [← Array.length_toList, hops]; rfl
  have h0 : ops[0]? = some o0 := by rw [← Array.getElem?_toList, hops]; rfl
  have hrel2 : Rel (cxOf B G fn.ntmps nin pl) ρ ⟨eset (envOf 0 args) d sv, pre, nin⟩ F (a.put (some d) (sv.den ρ)) w := by
    refine hrel.put (d := some d) (v := sv) (e := eset (envOf 0 args) d sv) ?_ hrel.env hrel.mem hrel.nin
    simp only [setD, cxOf]
    have hk : okT (fn.ntmps % 65536) d = true := by
      have h1 := Nat.le_of_ble_eq_true hdsz
      have h2 := Nat.le_of_ble_eq_true hsz
      exact okT_plain (by omega) h2
    exact if_pos hk
  have hlist := runOps_ok (X := cxOf B G fn.ntmps nin pl) rfl hN hB.ty (ops := ops) (ρ0 := ρ) (F := F) (KP := fun _ _ => False)
    (K := fun s => run IntKind.wrap bitsOf B.ty (fun b x y => (b = true → x ()) ∧ (b = false → y ())) (fun l k => obsP l ∧ k ()) (NodeX (cxOf B G fn.ntmps nin pl)) (LoopX (cxOf B G fn.ntmps nin pl)) (ScopeX (cxOf B G fn.ntmps nin pl)) (fn.ntmps % 65536) nin pl rest s (finD (FinD (B := B) G K nin)))
    (Q := upN fun a w => ∃ s ρ', run IntKind.wrap bitsOf B.ty (fun b x y => (b = true → x ()) ∧ (b = false → y ())) (fun l k => obsP l ∧ k ()) (NodeX (cxOf B G fn.ntmps nin pl)) (LoopX (cxOf B G fn.ntmps nin pl)) (ScopeX (cxOf B G fn.ntmps nin pl)) (fn.ntmps % 65536) nin pl rest s (finD (FinD (B := B) G K nin)) ∧ Ext nin ρ ρ' ∧ Rel (cxOf B G fn.ntmps nin pl) ρ' s F a w)
    (fun s ρ' a w h1 h2 h3 => ⟨s, ρ', h1, h2, h3⟩) (fun v s ρ' a w h1 _ _ => h1.elim) os _ ρ _ w hrun (Ext.refl _ _) hrel2
  have hl2 : wpOps B.P ops (upN fun a w => ∃ s ρ', run IntKind.wrap bitsOf B.ty (fun b x y => (b = true → x ()) ∧ (b = false → y ())) (fun l k => obsP l ∧ k ()) (NodeX (cxOf B G fn.ntmps nin pl)) (LoopX (cxOf B G fn.ntmps nin pl)) (ScopeX (cxOf B G fn.ntmps nin pl)) (fn.ntmps % 65536) nin pl rest s (finD (FinD (B := B) G K nin)) ∧ Ext nin ρ ρ' ∧ Rel (cxOf B G fn.ntmps nin pl) ρ' s F a w) (List.range' 1 os.length) (a.put (some d) (sv.den ρ)) w := by
    rw [wpOps_eq_wpList os 1 (fun j => by rw [← Array.getElem?_toList, hops, Nat.add_comm 1 j]; rfl)]
    exact hlist
  refine wpS_seq (wpS_region ?_)
  rw [hsize, List.range_eq_range', List.range'_succ]
  simp only [wpOpsS, h0]
  rw [if_pos (by simp [Region.wanted, hg])]
  have hrec : (execOp a.eval o0).run B.P w = .ok .recover w := by
    obtain ⟨dst, op, type, pos, after, guard⟩ := o0
    simp only at ho; subst ho
    simp [execOp, resolve, invoke, builtin]
  refine recover_step (K := fun a cs w => wpOpsS B.P ops _ (List.range' (0 + 1) os.length) a cs w) hrec ?_
  rw [hd, hu, ← hsv ρ]
  refine opsS_plain (Q := _) (fun a w hq => ?_) _ _ _ hl2
  obtain ⟨s, ρ', h1, h2, h3⟩ := hq
  refine restS hB hres hN hpl (ρ0 := ρ) (fun v w' ⟨cs, ρ2, k1, k2, k3⟩ => ⟨⟨v, rfl⟩, rfl, cs, ρ2, k1, k2, k3⟩) h1 h2 h3
 end
end Sx
