/-
  Part of a proof.
-/
import Derived.Test.YtkkifbjdbhjhaaaGreatDoorV00
import Derived.MapKept
import Derived.Tactics
import Derived.Deep.LoopGhost
import Derived.ScopeJumps
set_option linter.unusedVariables false
set_option linter.unusedSimpArgs false
/- The model gives what 'pureV' says, in every world. -/
namespace Sx
open Go
section
variable {P : Program} {W : IntKind → Int → Int} {bits : Bits} {ρ : Nat → Nat} {ty : Tab}

theorem noOb_eq {v : Option SV} {u : SV} {obs : List Ob} (h : noOb v = some (u, obs)) : v = some u := by
  cases v <;> simp [noOb] at h
  rw [h.1]

theorem convV_run (hW : W = IntKind.wrap) (hb : bits = bitsOf) (hty : ty.ok P) {s d : TypeId} {x v : SV} (h : convV W bits (ty s) (ty d) x = some v) (w : World) :
    (convert s d (x.den ρ)).run P w = .ok (v.den ρ) w := by
  subst hW hb
  unfold convV at h
  split at h
  · cases h
  · rename_i S hs
    obtain ⟨us, hus⟩ := (hty _ _ hs).und
    split at h <;> first | (cases h; done) | skip
    · rename_i k _ _ _ k' n hd
      have hd := (hty _ _ hd).desc
      simp only [TD.ok] at hd
      simp only [Option.some.injEq] at h; subst h
      simp [convert, SV.den, run_underlying hus, run_underlying hd, Conv.intToInt]
    · rename_i hd
      have hd := (hty _ _ hd).desc
      simp only [TD.ok] at hd
      simp only [Option.some.injEq] at h; subst h
      simp [convert, SV.den, run_underlying hus, run_underlying hd, Conv.intToString]; rfl
    · rename_i hd
      have hd := (hty _ _ hd).desc
      simp only [TD.ok] at hd
      simp only [Option.some.injEq] at h; subst h
      simp [convert, SV.den, run_underlying hus, run_underlying hd]

theorem addr_add (b o n : Nat) : (Addr.mk b o none).add n = ⟨b, o + n, none⟩ := by
  unfold Addr.add; by_cases h : n = 0 <;> simp [h]

theorem fieldV_run (hty : ty.ok P) {t : TypeId} {f : Nat} {x v : SV} (h : fieldV (ty t) x f = some v) (w : World) :
    (Instr.fieldAt t (x.den ρ) f).run P w = .ok (v.den ρ) w := by
  unfold fieldV at h
  split at h
  · rename_i fs _ _ _ ht
    obtain ⟨fl, hu, hf, hi⟩ := (hty _ _ ht).desc
    split at h
    · rename_i off size hfs
      split at h
      · cases h
      · rename_i hz
        have hfl : ∃ fd, fl[f]? = some fd ∧ fd.offset = off ∧ P.cellsOf fd.type = size ∧ (P.info? fd.type).isSome = true := by
          rw [← hf, List.getElem?_map] at hfs
          cases e : fl.toList[f]? with
          | none => simp [e] at hfs
          | some fd =>
            simp only [e, Option.map_some, Option.some.injEq, Prod.mk.injEq] at hfs
            exact ⟨fd, by simpa using e, hfs.1, hfs.2, hi fd (List.mem_of_getElem? e)⟩
        obtain ⟨fd, h1, h2, h3, h4⟩ := hfl
        obtain ⟨i, h4⟩ := Option.isSome_iff_exists.1 h4
        have h5 : i.size ≠ 0 := by
          have : P.cellsOf fd.type = i.size := by simp [Program.cellsOf, h4]
          rw [← this, h3]; simpa using hz
        split at h <;> first | (cases h; done) | skip
        all_goals
          simp only [Option.some.injEq] at h; subst h
          simp [Instr.fieldAt, SV.den, run_underlying hu, h1, Instr.sureAddr, fieldPlace, Go.sizeOf, typeInfo, h4, h5, addr_add, h2, Nat.add_assoc]
    · cases h
  · cases h

theorem chkV_run {x v : SV} (h : chkV x = some v) {o : Oper} {ev : Operand → Value} {q : Operand} (ho : o.op = .nilCheck q) (hq : ev q = x.den ρ) (w : World) :
    (execOp ev o).run P w = .ok (.value (v.den ρ)) w := by
  simp only [execOp, ho, hq]
  cases x with
  | fn f a b =>
    cases f with
    | func f => simp only [chkV, Option.some.injEq] at h; subst h; simp [SV.den]
    | _ => simp [chkV] at h
  | _ => first | (simp [chkV] at h; done) | (simp only [chkV, Option.some.injEq] at h; subst h; simp [SV.den])

theorem denL_get (l : List SV) (i : Nat) : (SV.denL ρ l)[i]? = (l[i]?).map (SV.den ρ) := by
  rw [SV.denL_eq]; simp

theorem extV_run {x v : SV} {i : Nat} (h : extV x i = some v) (w : World) : (Instr.extract (x.den ρ) i).run P w = .ok (v.den ρ) w := by
  cases x <;> simp only [extV, reduceCtorEq] at h
  simp [Instr.extract, SV.den, denL_get, h]

theorem mkIface_run (hty : ty.ok P) {t : TypeId} {x v : SV} (h : mkIface (ty t) t x = some v) (w : World) : (Instr.makeInterface t (x.den ρ)).run P w = .ok (v.den ρ) w := by
  unfold mkIface at h
  split at h
  · cases h
  · rename_i T hn ht
    obtain ⟨d, hu, hd⟩ := (hty _ _ ht).und_not_iface (by
      intro e; obtain ⟨d, a, b, c⟩ := T; simp only at e; subst e; exact hn _ _ _ rfl)
    simp only [Option.some.injEq] at h; subst h
    cases d <;> first | (simp [Instr.makeInterface, run_underlying hu, SV.den]; done) | exact absurd rfl (hd _)
  · cases h

theorem indexV_run (hb : bits = bitsOf) (hty : ty.ok P) {t : TypeId} {x i v : SV} {obs : List Ob} (h : indexV bits (ty t) x i = some (v, obs)) (ho : obsP obs) (w : World) :
    (Instr.index t (x.den ρ) (i.den ρ)).run P w = .ok (v.den ρ) w := by
  subst hb
  unfold indexV at h
  split at h
  · rename_i s k n
    split at h
    · rename_i hs
      have hu := isStrT_ok hty hs
      simp only [Option.some.injEq, Prod.mk.injEq] at h
      obtain ⟨rfl, rfl⟩ := h
      simp only [obsP, Ob.P, and_true] at ho
      obtain ⟨h0, h1⟩ := ho
      have h1 : n < (s.size : Int) := h1
      have hlt : n.toNat < s.size := by omega
      have e : (if 0 ≤ n then s[n.toNat]? else none) = some s[n.toNat] := by rw [if_pos h0, getElem?_pos s n.toNat hlt]
      have e2 : s.data.getD n.toNat 0 = s[n.toNat] := by
        have : n.toNat < s.data.size := hlt
        rw [Array.getD_eq_getD_getElem?, Array.getElem?_eq_getElem this]; rfl
      simp [Instr.index, SV.den, asIntOf, run_underlying hu, e, bitsOf, bt, e2]
    · cases h
  · cases h

theorem sizeAt_ok (hty : ty.ok P) {t : TypeId} {n : Nat} (h : sizeAt ty (ty t) = some n) : ∃ e, P.underlying t = some (.slice e) ∧ ∀ w, (Go.sizeOf e).run P w = .ok n w := by
  unfold sizeAt at h
  split at h
  · rename_i e _ _ _ ht
    split at h
    · rename_i te hte
      simp only [Option.some.injEq] at h; subst h
      exact ⟨e, (hty _ _ ht).desc, fun w => (hty _ _ hte).run_sizeOf w⟩
    · cases h
  · cases h

theorem indexAddrV_run (hb : bits = bitsOf) (hty : ty.ok P) {t : TypeId} {x i v : SV} {obs : List Ob} (h : indexAddrV bits ty (ty t) x i = some (v, obs)) (ho : obsP obs) (w : World) :
    (Instr.indexAt t (x.den ρ) (i.den ρ)).run P w = .ok (v.den ρ) w := by
  subst hb
  unfold indexAddrV at h
  split at h
  · rename_i id wd lo len cap k n
    split at h
    · rename_i m hm
      obtain ⟨e, hu, hz⟩ := sizeAt_ok hty hm
      split at h
      · rename_i hw
        simp only [beq_iff_eq] at hw
        subst hw
        simp only [Option.some.injEq, Prod.mk.injEq] at h
        obtain ⟨rfl, rfl⟩ := h
        simp only [obsP, Ob.P, and_true] at ho
        simp [Instr.indexAt, SV.den, asIntOf, run_underlying hu, ho.1, ho.2, hz, bitsOf, addr_add, Nat.add_mul]
      · cases h
    · cases h
  · rename_i p id wd lo len cap k n
    split at h
    · rename_i m hm
      obtain ⟨e, hu, hz⟩ := sizeAt_ok hty hm
      split at h
      · rename_i hw
        simp only [beq_iff_eq] at hw
        subst hw
        simp only [Option.some.injEq, Prod.mk.injEq] at h
        obtain ⟨rfl, rfl⟩ := h
        simp only [obsP, Ob.P, and_true] at ho
        obtain ⟨⟨h0, h1⟩, rfl⟩ := ho
        simp [Instr.indexAt, SV.den, asIntOf, run_underlying hu, h0, h1, hz, bitsOf, addr_add, Nat.add_mul]
      · cases h
    · cases h
  · rename_i p g off wd len cap k n
    split at h
    · rename_i m hm
      obtain ⟨e, hu, hz⟩ := sizeAt_ok hty hm
      split at h
      · rename_i hw
        simp only [beq_iff_eq] at hw
        subst hw
        simp only [Option.some.injEq, Prod.mk.injEq] at h
        obtain ⟨rfl, rfl⟩ := h
        simp only [obsP, Ob.P, and_true] at ho
        obtain ⟨⟨h0, h1⟩, rfl⟩ := ho
        have hne : len ≠ 0 := by omega
        simp [Instr.indexAt, gad_pos hne, SV.den, asIntOf, run_underlying hu, h0, h1, hz, bitsOf, addr_add, Nat.add_mul]
      · cases h
    · cases h
  · cases h

theorem optI_run {ev : Operand → Option SV} {ρe : Operand → Value} (hev : ∀ x v, ev x = some v → ρe x = v.den ρ) {d : Int} {q : Option Operand} {n : Int} (h : optI ev d q = some n) :
    match q with
    | none => n = d
    | some o => ∃ k, ρe o = .int k n := by
  cases q with
  | none => simpa [optI] using h.symm
  | some o =>
    simp only [optI] at h
    split at h
    · rename_i k m hm
      simp only [Option.some.injEq] at h; subst h
      exact ⟨k, hev _ _ hm⟩
    · cases h

theorem bound_run {k : IntKind} {n : Int} {y : Nat} {c : BoundsCode} (h0 : 0 ≤ n) (h1 : n ≤ y) (w : World) : (Instr.sliceBound (.int k n) y c).run P w = .ok n.toNat w := by
  simp [Instr.sliceBound, asIntOf, h0, h1]

theorem bounds_run {ev : Operand → Option SV} {ρe : Operand → Value} (hev : ∀ x v, ev x = some v → ρe x = v.den ρ) {isS : Bool} {len cap : Nat} {lo hi : Option Operand} {l h : Int}
    (hl : optI ev 0 lo = some l) (hh : optI ev len hi = some h) (h0 : 0 ≤ l) (h1 : l ≤ h) (h2 : hi.isSome = true → h ≤ cap) (w : World) :
    (Instr.sliceBounds isS len cap (lo.map ρe) (hi.map ρe) none).run P w = .ok (l.toNat, h.toNat, cap) w := by
  have el := optI_run hev hl
  have eh := optI_run hev hh
  cases lo with
  | none =>
    simp only at el; subst el
    cases hi with
    | none => simp only at eh; subst eh; simp [Instr.sliceBounds]
    | some hi =>
      obtain ⟨k, eh⟩ := eh
      simp only [Instr.sliceBounds, Option.map, eh, Sem.run_bind, Sem.run_pure, Result.andThen_ok, bound_run (by omega : (0 : Int) ≤ h) (h2 rfl)]
      rfl
  | some lo =>
    obtain ⟨kl, el⟩ := el
    cases hi with
    | none =>
      simp only at eh; subst eh
      simp only [Instr.sliceBounds, Option.map, el, Sem.run_bind, Sem.run_pure, Result.andThen_ok, bound_run h0 (by simpa using h1), Option.isSome]
      simp
    | some hi =>
      obtain ⟨k, eh⟩ := eh
      have h3 : l ≤ (h.toNat : Int) := by omega
      simp only [Instr.sliceBounds, Option.map, el, eh, Sem.run_bind, Sem.run_pure, Result.andThen_ok, bound_run (by omega : (0 : Int) ≤ h) (h2 rfl), bound_run h0 h3]

theorem sliceV_run (hbt : bits = bitsOf) (hty : ty.ok P) {ev : Operand → Option SV} {ρe : Operand → Value} (hev : ∀ x v, ev x = some v → ρe x = v.den ρ) {t : TypeId} {x v : SV} {lo hi mx : Option Operand} {obs : List Ob}
    (h : sliceV bits ty (ty t) ev x lo hi mx = some (v, obs)) (ho : obsP obs) (w : World) :
    (Instr.sliceAt t (x.den ρ) (lo.map ρe) (hi.map ρe) (mx.map ρe)).run P w = .ok (v.den ρ) w := by
  subst hbt
  unfold sliceV at h
  split at h
  · cases h
  · split at h
    · rename_i s
      split at h
      · rename_i l r hl hr
        split at h
        · rename_i hs
          have hu := isStrT_ok hty hs
          simp only [Option.some.injEq, Prod.mk.injEq] at h
          obtain ⟨rfl, rfl⟩ := h
          simp only [obsP, Ob.P, and_true] at ho
          have hb := bounds_run (P := P) (isS := false) (cap := s.size) hev hl hr ho.1 ho.2.1 (fun _ => ho.2.2) w
          simp [Instr.sliceAt, Instr.slice, SV.den, run_underlying hu, hb, bitsOf, subs]
        · cases h
      · cases h
    · rename_i id wd o len cap
      split at h
      · rename_i l r n hl hr hn
        obtain ⟨e, hu, hz⟩ := sizeAt_ok hty hn
        split at h
        · rename_i hw
          simp only [beq_iff_eq] at hw; subst hw
          simp only [Option.some.injEq, Prod.mk.injEq] at h
          obtain ⟨rfl, rfl⟩ := h
          simp only [obsP, Ob.P, and_true] at ho
          have hb := bounds_run (P := P) (isS := true) (cap := cap) hev hl hr ho.1 ho.2.1 (by
            intro hs; cases hi with
            | none => cases hs
            | some q => simpa using ho.2.2) w
          simp [Instr.sliceAt, Instr.slice, SV.den, run_underlying hu, hb, hz, bitsOf, sloff]
          by_cases hc : cap = l.toNat
          · simp [hc]
          · simp [hc, addr_add, Nat.add_mul]
        · cases h
      · cases h
    · rename_i p id wd o len cap
      split at h
      · rename_i l r n hl hr hn
        obtain ⟨e, hu, hz⟩ := sizeAt_ok hty hn
        split at h
        · rename_i hw
          simp only [beq_iff_eq] at hw; subst hw
          simp only [Option.some.injEq, Prod.mk.injEq] at h
          obtain ⟨rfl, rfl⟩ := h
          simp only [obsP, Ob.P, and_true] at ho
          have hb := bounds_run (P := P) (isS := true) (cap := cap) hev hl hr ho.1 ho.2.1 (by
            intro hs; cases hi with
            | none => cases hs
            | some q => simpa using ho.2.2) w
          simp [Instr.sliceAt, Instr.slice, SV.den, run_underlying hu, hb, hz, bitsOf, sloff]
          cases p
          · simp
          · by_cases hc : cap = l.toNat
            · simp [hc]
            · simp [hc, addr_add, Nat.add_mul]
        · cases h
      · cases h
    · split at h
      · rename_i l r n hl hr hn
        obtain ⟨e, hu, hz⟩ := sizeAt_ok hty hn
        simp only [Option.some.injEq, Prod.mk.injEq] at h
        obtain ⟨rfl, rfl⟩ := h
        simp only [obsP, Ob.P, and_true] at ho
        have hb := bounds_run (P := P) (isS := true) (len := 0) (cap := 0) hev hl hr ho.1 ho.2.1 (fun _ => by simpa using ho.2.2) w
        have h1 : l.toNat = 0 := by omega
        have h2 : r.toNat = 0 := by omega
        simp [Instr.sliceAt, Instr.slice, SV.den, run_underlying hu, hb, hz, h1, h2]
      · cases h
    · cases h

theorem lenV_run (hb : bits = bitsOf) (hty : ty.ok P) {t : TypeId} {ts : Array TypeId} (hts : ts[0]? = some t) {rt : TypeId} {x v : SV} (h : lenV bits (ty t) x = some v) (w : World) :
    (Builtin.len_ ts rt #[x.den ρ]).run P w = .ok (v.den ρ) w := by
  subst hb
  unfold lenV at h
  split at h <;> first | (cases h; done) | skip
  · split at h
    · rename_i hs
      have hu := isStrT_ok hty hs
      simp only [Option.some.injEq] at h; subst h
      simp [Builtin.len_, hts, SV.den, run_underlying hu, goInt, bitsOf]
    · cases h
  · split at h
    · rename_i hs
      obtain ⟨u, hu⟩ := isSlice_ok hty hs
      simp only [Option.some.injEq] at h; subst h
      simp [Builtin.len_, hts, SV.den, run_underlying hu, goInt]
    · cases h
  · split at h
    · rename_i hs
      obtain ⟨u, hu⟩ := isSlice_ok hty hs
      simp only [Option.some.injEq] at h; subst h
      simp [Builtin.len_, hts, SV.den, run_underlying hu, goInt]
    · cases h
  · split at h
    · rename_i hs
      obtain ⟨u, hu⟩ := isSlice_ok hty hs
      simp only [Option.some.injEq] at h; subst h
      simp [Builtin.len_, hts, SV.den, run_underlying hu, goInt]
    · cases h
  · split at h
    · rename_i hs
      obtain ⟨u, hu⟩ := isSlice_ok hty hs
      simp only [Option.some.injEq] at h; subst h
      simp [Builtin.len_, hts, SV.den, run_underlying hu, goInt]
    · cases h
  · split at h
    · rename_i hs
      obtain ⟨k, u, hu⟩ := isMapT_ok hty hs
      simp only [Option.some.injEq] at h; subst h
      simp [Builtin.len_, hts, SV.den, run_underlying hu, goInt]
    · cases h

theorem capV_run (hty : ty.ok P) {t : TypeId} {ts : Array TypeId} (hts : ts[0]? = some t) {rt : TypeId} {x v : SV} (h : capV (ty t) x = some v) (w : World) :
    (Builtin.cap_ ts rt #[x.den ρ]).run P w = .ok (v.den ρ) w := by
  unfold capV at h
  split at h <;> first | (cases h; done) | skip
  · split at h
    · rename_i hs
      obtain ⟨u, hu⟩ := isSlice_ok hty hs
      simp only [Option.some.injEq] at h; subst h
      simp [Builtin.cap_, hts, SV.den, run_underlying hu, goInt]
    · cases h
  · split at h
    · rename_i hs
      obtain ⟨u, hu⟩ := isSlice_ok hty hs
      simp only [Option.some.injEq] at h; subst h
      simp [Builtin.cap_, hts, SV.den, run_underlying hu, goInt]
    · cases h
  · split at h
    · rename_i hs
      obtain ⟨u, hu⟩ := isSlice_ok hty hs
      simp only [Option.some.injEq] at h; subst h
      simp [Builtin.cap_, hts, SV.den, run_underlying hu, goInt]
    · cases h

theorem bltV_run (hb : bits = bitsOf) (hty : ty.ok P) {b : Builtin} {ts : Array TypeId} {rt : TypeId} {cs : Array Bool} {xs : List SV} {v : SV} (h : bltV bits ty b ts.toList xs = some v) (w : World) :
    (builtin b ts rt cs (SV.denL ρ xs).toArray).run P w = .ok (.value (v.den ρ)) w := by
  subst hb
  unfold bltV at h
  split at h <;> first | (cases h; done) | skip
  · rename_i t r x ht
    have hts : ts[0]? = some t := by rw [← Array.getElem?_toList, ht]; rfl
    simp only [builtin, SV.denL, Sem.run_bind, lenV_run rfl hty hts h w, Result.andThen_ok, Sem.run_pure]
  · rename_i t r x ht
    have hts : ts[0]? = some t := by rw [← Array.getElem?_toList, ht]; rfl
    simp only [builtin, SV.denL, Sem.run_bind, capV_run hty hts h w, Result.andThen_ok, Sem.run_pure]
  · simp only [Option.some.injEq] at h; subst h
    simp [builtin, SV.denL, SV.den, bitsOf, bitI, imax, run_max_int2]
  · simp only [Option.some.injEq] at h; subst h
    simp [builtin, SV.denL, SV.den, bitsOf, bitI, imin, run_min_int2]
  · simp only [Option.some.injEq] at h; subst h
    simp [builtin, SV.denL, SV.den, bitsOf, bitI, imin, Builtin.min_, Builtin.min2]

theorem unV_run (hW : W = IntKind.wrap) (hb : bits = bitsOf) {op : UnOp} {x v : SV} (h : unV W bits op x = some v) (w : World) : (Op.unary op (x.den ρ)).run P w = .ok (v.den ρ) w := by
  subst hW; subst hb
  unfold unV at h
  split at h <;> first | (cases h; done) | skip
  all_goals simp only [Option.some.injEq] at h; subst h
  all_goals simp [Op.unary, SV.den, Op.intArith, Op.intBits, bitsOf, bitI]

theorem assertV_run (hty : ty.ok P) {t a : TypeId} {ok : Bool} {x v : SV} (h : assertV (ty a) a ok x = some v) (w : World) : (Instr.typeAssert (x.den ρ) t a ok).run P w = .ok (v.den ρ) w := by
  unfold assertV at h
  split at h <;> first | (cases h; done) | skip
  rename_i A hn hA
  have hA' := hty _ _ hA
  obtain ⟨d, hu, hd⟩ := hA'.und_not_iface (by
      intro e; obtain ⟨d, a, b, c⟩ := A; simp only at e; subst e; exact hn _ _ _ rfl)
  have hz := hA'.run_zeroValue ρ w
  split at h
  · rename_i u x
    split at h
    · rename_i hua
      have hua : u = a := Nat.eq_of_beq_eq_true hua
      subst hua
      simp only [Option.some.injEq] at h; subst h
      cases d <;> first | exact absurd rfl (hd _) | skip
      all_goals cases ok <;> simp [Instr.typeAssert, SV.den, SV.denL, run_underlying hu]
    · rename_i hua
      have hua : u ≠ a := fun e => hua (by subst e; exact Nat.beq_refl _)
      split at h
      · rename_i hok; subst hok
        simp only [Option.some.injEq] at h; subst h
        cases d <;> first | exact absurd rfl (hd _) | skip
        all_goals simp [Instr.typeAssert, SV.den, SV.denL, run_underlying hu, hua, hz]
      · cases h
  · split at h
    · rename_i hok; subst hok
      simp only [Option.some.injEq] at h; subst h
      cases d <;> first | exact absurd rfl (hd _) | skip
      all_goals simp [Instr.typeAssert, SV.den, SV.denL, run_underlying hu, hz]
    · cases h
  · cases h

theorem set_range (cs vs : List Value) (off : Nat) : ∀ (c : Array Value), c.toList = cs → off + vs.length ≤ cs.length →
    ((vs.toArray.zipIdx.foldl (fun a (x, j) => a.setIfInBounds (off + j) x) c).toList = cs.take off ++ vs ++ cs.drop (off + vs.length)) := by
  intro c hc hl
  rw [← Array.foldl_toList]
  simp only [Array.toList_zipIdx]
  have key : ∀ (vs : List Value) (k : Nat) (c : Array Value), off + k + vs.length ≤ c.toList.length →
      ((vs.zipIdx k).foldl (fun a (x, j) => a.setIfInBounds (off + j) x) c).toList = c.toList.take (off + k) ++ vs ++ c.toList.drop (off + k + vs.length) := by
    intro vs
    induction vs with
    | nil => intro k c h; simp
    | cons v r ih =>
      intro k c h
      simp only [List.length_cons] at h
      simp only [List.zipIdx_cons, List.foldl_cons]
      rw [ih (k + 1) _ (by simp at h ⊢; omega)]
      have h1 : (c.setIfInBounds (off + k) v).toList = c.toList.set (off + k) v := by simp
      rw [h1]
      have h2 : off + k < c.toList.length := by omega
      rw [show off + (k + 1) = off + k + 1 by omega, List.take_succ_eq_append_getElem (by simpa using h2)]
      rw [List.take_set_of_le (Nat.le_refl _)]
      simp only [List.getElem_set_self]
      rw [List.drop_set_of_lt (by omega)]
      simp only [List.length_cons, List.append_assoc, List.cons_append, List.nil_append]
      congr 4
      omega
  have := key vs 0 c (by rw [hc]; simpa using hl)
  rw [hc] at this
  simpa using this

theorem fillS_run {fs : List (Nat × Nat)} : ∀ {ps : List (Nat × SV)} {cells l : List SV} {c : Array Value}, fillS fs cells ps = some l → c.toList = SV.denL ρ cells →
    ∃ d, Instr.fill (fun i => fs[i]?) c (ps.map fun p => (p.1, p.2.den ρ)) = some d ∧ d.toList = SV.denL ρ l
  | [], cells, l, c, h, hc => by
    simp only [fillS, Option.some.injEq] at h; subst h
    exact ⟨c, by simp [Instr.fill], hc⟩
  | (i, v) :: r, cells, l, c, h, hc => by
    simp only [fillS] at h
    split at h
    · rename_i off size vc hf hv
      split at h
      · rename_i hb
        simp only [Bool.and_eq_true, beq_iff_eq] at hb
        have hb2 := Nat.le_of_ble_eq_true hb.2
        have hcells := SV.cellsL_den (ρ := ρ) hv
        have hlen : (SV.den ρ v).cells.size = vc.length := by
          rw [← Array.length_toList, hcells, SV.denL_eq, List.length_map]
        have hclen : c.size = cells.length := by rw [← Array.length_toList, hc, SV.denL_eq, List.length_map]
        have hset : (((SV.den ρ v).cells.zipIdx.foldl (fun cs (x, j) => cs.setIfInBounds (off + j) x) c)).toList = SV.denL ρ (setRange cells off vc) := by
          have h1 := set_range (SV.denL ρ cells) (SV.denL ρ vc) off c hc (by simp [SV.denL_eq]; omega)
          have h2 : (SV.den ρ v).cells = (SV.denL ρ vc).toArray := by rw [← hcells]
          rw [h2, h1]
          simp [setRange, SV.denL_eq]
        obtain ⟨d, h3, h4⟩ := fillS_run h hset
        refine ⟨d, ?_, h4⟩
        simp only [List.map_cons, Instr.fill, hf]
        rw [if_neg (by simp [hlen, hclen, hb.1]; omega)]
        exact h3
      · cases h
    · cases h

theorem evPs_run {ev : Operand → Option SV} {ρe : Operand → Value} (hev : ∀ x v, ev x = some v → ρe x = v.den ρ) : ∀ {ps : List (Nat × Operand)} {l : List (Nat × SV)}, evPs ev ps = some l →
    ps.map (fun p => (p.1, ρe p.2)) = l.map (fun p => (p.1, p.2.den ρ))
  | [], l, h => by simp only [evPs, Option.some.injEq] at h; subst h; simp
  | (i, o) :: r, l, h => by
    simp only [evPs] at h
    split at h
    · rename_i v hv
      split at h
      · rename_i l' hl
        simp only [Option.some.injEq] at h; subst h
        simp [hev _ _ hv, evPs_run hev hl]
      · cases h
    · cases h

theorem mapM_sizes {P : Program} {w : World} : ∀ (l : List Field), (∀ x ∈ l, (P.info? x.type).isSome = true) →
    (l.mapM (fun f => do pure (f.offset, ← Go.sizeOf f.type) : Field → Sem (Nat × Nat))).run P w = .ok (l.map fun f => (f.offset, P.cellsOf f.type)) w
  | [], _ => by simp
  | f :: r, h => by
    obtain ⟨i, hi⟩ := Option.isSome_iff_exists.1 (h f (by simp))
    have ih := mapM_sizes (P := P) (w := w) r (fun x hx => h x (by simp [hx]))
    rw [List.mapM_cons]
    simp only [Sem.run_bind, Go.sizeOf, typeInfo, run_program, Result.andThen_ok, hi, Sem.run_pure]
    simp only [Go.sizeOf, typeInfo] at ih
    simp only [ih, Result.andThen_ok]
    simp [Program.cellsOf, hi]

theorem buildV_run (hty : ty.ok P) {t : TypeId} {ps : List (Nat × SV)} {v : SV} (h : buildV (ty t) ps = some v) (w : World) :
    (Instr.build t (ps.map fun p => (p.1, p.2.den ρ)).toArray).run P w = .ok (v.den ρ) w := by
  unfold buildV at h
  split at h
  · rename_i fs sz by_ z ht
    have hT := hty _ _ ht
    obtain ⟨fl, hu, hf, hi⟩ := hT.desc
    split at h
    · rename_i l hl
      simp only [Option.some.injEq] at h; subst h
      have hz := hT.run_zeroValue ρ w
      obtain ⟨d, h1, h2⟩ := fillS_run (ρ := ρ) (c := (SV.denL ρ z).toArray) hl (by simp)
      have h3 := mapM_sizes (P := P) (w := w) fl.toList hi
      rw [hf] at h3
      have h4 : (fl.mapM (fun f => do pure (f.offset, ← Go.sizeOf f.type) : Field → Sem (Nat × Nat))).run P w = .ok fs.toArray w := by
        rw [Array.mapM_eq_mapM_toList, Sem.run_map, h3]
        rfl
      have h5 : (fun i : Nat => fs.toArray[i]?) = (fun i : Nat => fs[i]?) := by funext i; simp
      simp only [Instr.build, Sem.run_bind, hz, Result.andThen_ok, SV.den, Value.cells, run_underlying hu, h4, h5, h1]
      simp [← h2]
    · cases h
  · cases h

theorem pickV_run {ev : Operand → Option SV} {ρe : Operand → Value} (hev : ∀ x v, ev x = some v → ρe x = v.den ρ) {c a b : Operand} {v : SV} (h : pickV ev c a b = some v) (w : World) :
    (do pure (Next.value (if ← asBool (ρe c) then ρe a else ρe b)) : Sem Next).run P w = .ok (.value (v.den ρ)) w := by
  unfold pickV at h
  split at h
  · rename_i hc
    simp [hev _ _ hc, SV.den, asBool, hev _ _ h]
  · rename_i hc
    simp [hev _ _ hc, SV.den, asBool, hev _ _ h]
  · cases h

/-- what is asked of an evaluation of operands -/
structure EvOk (ρ : Nat → Nat) (ev : Operand → Option SV) (evs : List Operand → Option (List SV)) (ρe : Operand → Value) : Prop where
  one : ∀ x v, ev x = some v → ρe x = v.den ρ
  all : ∀ xs l, evs xs = some l → xs.map ρe = SV.denL ρ l

theorem EvOk.arr {ev : Operand → Option SV} {evs : List Operand → Option (List SV)} {ρe : Operand → Value} (h : EvOk ρ ev evs ρe) {xs : Array Operand} {l : List SV} (g : evs xs.toList = some l) :
    xs.map ρe = (SV.denL ρ l).toArray := by
  rw [← h.all _ _ g]; apply Array.ext'; simp

theorem pureV_run (hW : W = IntKind.wrap) (hb : bits = bitsOf) (hty : ty.ok P) {ev : Operand → Option SV} {evs : List Operand → Option (List SV)} {ρe : Operand → Value}
    (hev : EvOk ρ ev evs ρe) {o : Oper} {v : SV} {obs : List Ob} (h : pureV W bits ty ev evs o.op = some (v, obs)) (ho : obsP obs) (w : World) :
    (execOp ρe o).run P w = .ok (.value (v.den ρ)) w := by
  obtain ⟨dst, op, type, pos, after, guard⟩ := o
  simp only at h
  unfold pureV at h
  split at h
  · simp [execOp, hev.one _ _ (noOb_eq h)]
  · simp [execOp, hev.one _ _ (noOb_eq h)]
  · simpa [execOp] using pickV_run hev.one (noOb_eq h) w
  · split at h
    · rename_i hx; exact chkV_run (noOb_eq h) rfl (hev.one _ _ hx) w
    · cases h
  · split at h
    · rename_i hx hy
      have := binV_run (ρ := ρ) hb hty h ho w
      simp only [execOp, hev.one _ _ hx, hev.one _ _ hy, Sem.run_bind] at this ⊢
      simp only [this, Result.andThen_ok, Sem.run_pure]
    · cases h
  · split at h
    · rename_i hx
      simp only [execOp, hev.one _ _ hx, Sem.run_bind, unV_run hW hb (noOb_eq h), Result.andThen_ok, Sem.run_pure]
    · cases h
  · split at h
    · rename_i hx
      simp only [execOp, hev.one _ _ hx, Sem.run_bind, convV_run hW hb hty (noOb_eq h), Result.andThen_ok, Sem.run_pure]
    · cases h
  · split at h
    · rename_i hx
      simp only [execOp, hev.one _ _ hx, Sem.run_bind, fieldV_run hty (noOb_eq h), Result.andThen_ok, Sem.run_pure]
    · cases h
  · split at h
    · rename_i hx
      simp only [execOp, hev.one _ _ hx, Sem.run_bind, extV_run (noOb_eq h), Result.andThen_ok, Sem.run_pure]
    · cases h
  · split at h
    · rename_i hx
      simp only [execOp, hev.one _ _ hx, Sem.run_bind, mkIface_run hty (noOb_eq h), Result.andThen_ok, Sem.run_pure]
    · cases h
  · split at h
    · rename_i ha hb'
      have := noOb_eq h
      simp only [Option.some.injEq] at this
      subst this
      simp [execOp, hev.arr ha, hev.arr hb', Instr.makeFunc, SV.den]
    · cases h
  · split at h
    · rename_i ps _ l hl
      have h1 := evPs_run hev.one hl
      have h2 : (ps.map fun p => (p.1, ρe p.2)) = (l.map fun p => (p.1, p.2.den ρ)).toArray := by
        rw [← h1]; apply Array.ext'; simp
      have h3 := buildV_run (ρ := ρ) hty (noOb_eq h) w
      simp only [execOp]
      have h4 : (ps.map fun x => match x with | (i, x) => (i, ρe x)) = (l.map fun p => (p.1, p.2.den ρ)).toArray := by rw [← h2]
      simp only [h4, Sem.run_bind, h3, Result.andThen_ok, Sem.run_pure]
    · cases h
  · split at h
    · rename_i hx hy
      simp only [execOp, hev.one _ _ hx, hev.one _ _ hy, Sem.run_bind, indexV_run hb hty h ho, Result.andThen_ok, Sem.run_pure]
    · cases h
  · split at h
    · rename_i hx hy
      simp only [execOp, hev.one _ _ hx, hev.one _ _ hy, Sem.run_bind, indexAddrV_run hb hty h ho, Result.andThen_ok, Sem.run_pure]
    · cases h
  · split at h
    · rename_i hx
      simp only [execOp, hev.one _ _ hx, Sem.run_bind, sliceV_run hb hty hev.one h ho, Result.andThen_ok, Sem.run_pure]
    · cases h
  · split at h
    · rename_i hx
      simp only [execOp, hev.one _ _ hx, Sem.run_bind, assertV_run hty (noOb_eq h), Result.andThen_ok, Sem.run_pure]
    · cases h
  · split at h
    · rename_i b xs ts _ l hl
      have := bltV_run (P := P) (ρ := ρ) (rt := type) (cs := xs.map fun | .const _ => true | _ => false) hb hty (noOb_eq h) w
      simp only [execOp, resolve, hev.arr hl, Sem.run_bind, Sem.run_pure, Result.andThen_ok, invoke]
      exact this
    · cases h
  · cases h
 end
end Sx
/- Chunks of memory, in logical blocks; loads, stores, new blocks. -/
namespace Sx
open Go

inductive Chunk (Pd : Type) : Type 1 where
  | cells (id : Nat) (T : TypeId) (vs : List SV)
  | arr {α : Type} (p wr : Bool) (id : Nat) (T : TypeId) (enc : α → List Lit) (xs : List α)
  | map (id : Nat) (es : List (Lit × Lit))
  | abs (p : Pd) (ids : List Nat)
  | at_ (id g : Nat)
  | obj (id : Nat) (o : Obj)
  | own (id : Nat) (A : HP)

section
variable {Pd : Type} (I : Pd → List Nat → HP)

def notFrozen (fz : Nat × Nat) (n : Nat) : Prop := ∀ i, i < n → (fz.1 ≤ i && i < fz.2) = false
def arrCells {α : Type} (enc : α → List Lit) (xs : List α) : Array Value := ((xs.flatMap enc).map Lit.val).toArray
def mapOf (es : List (Lit × Lit)) (e : Array MapEntry × Nat) : Prop := e.1.toList.map (fun x => (x.key, x.val)) = es.map (fun x => (x.1.val, x.2.val)) ∧ MapKept.Stamped e.1 e.2

def Chunk.den (ρ : Nat → Nat) : Chunk Pd → HP
  | .cells id T vs => pts (ρ id) (.cells (SV.denL ρ vs).toArray T (0, 0))
  | .arr p wr id T enc xs => fun h => p = true → exP (fun fz : Nat × Nat => fun h => (wr = true → notFrozen fz (arrCells enc xs).size) ∧ pts (ρ id) (.cells (arrCells enc xs) T fz) h) h
  | .map id es => exP fun x : Array MapEntry × Nat => fun h => mapOf es x ∧ pts (ρ id) (.map x.1 x.2) h
  | .abs p ids => I p (ids.map ρ)
  | .at_ id g => fun _ => ρ id = g
  | .obj id o => pts (ρ id) o
  | .own _ A => A

def idsOk (p : Nat → Bool) : List Nat → Bool
  | [] => true
  | i :: r => p i && idsOk p r
def Chunk.idOk (p : Nat → Bool) : Chunk Pd → Bool
  | .cells id _ vs => p id && SV.idOkL p vs
  | .arr _ _ id _ _ _ => p id
  | .map id _ => p id
  | .abs _ ids => idsOk p ids
  | .at_ id _ => p id
  | .obj id _ => p id
  | .own _ _ => true
def call (p : Nat → Bool) : List (Chunk Pd) → Bool
  | [] => true
  | c :: r => c.idOk p && call p r
def idsRen (σ : Nat → Nat) : List Nat → List Nat
  | [] => []
  | i :: r => σ i :: idsRen σ r
def Chunk.ren (σ : Nat → Nat) : Chunk Pd → Chunk Pd
  | .cells id T vs => .cells (σ id) T (SV.renL σ vs)
  | .arr p wr id T enc xs => .arr p wr (σ id) T enc xs
  | .map id es => .map (σ id) es
  | .abs p ids => .abs p (idsRen σ ids)
  | .at_ id g => .at_ (σ id) g
  | .obj id o => .obj (σ id) o
  | .own i A => .own i A
def csRen (σ : Nat → Nat) : List (Chunk Pd) → List (Chunk Pd)
  | [] => []
  | c :: r => c.ren σ :: csRen σ r
def Chunk.id : Chunk Pd → Nat
  | .cells id _ _ => id
  | .arr _ _ id _ _ _ => id
  | .map id _ => id
  | .abs _ ids => ids.headD 0
  | .at_ id _ => id + 2000
  | .obj id _ => id
  | .own i _ => i + 3000

theorem idsOk_congr {ρ ρ' : Nat → Nat} {p : Nat → Bool} (h : ∀ i, p i = true → ρ i = ρ' i) : ∀ ids, idsOk p ids = true → ids.map ρ = ids.map ρ'
  | [], _ => rfl
  | i :: r, e => by
    simp only [idsOk, Bool.and_eq_true] at e
    simp only [List.map_cons]
    rw [h i e.1, idsOk_congr h r e.2]
theorem Chunk.den_congr {ρ ρ' : Nat → Nat} {p : Nat → Bool} (h : ∀ i, p i = true → ρ i = ρ' i) (c : Chunk Pd) (e : c.idOk p = true) : c.den I ρ = c.den I ρ' := by
  cases c with
  | cells id T vs =>
    simp only [Chunk.idOk, Bool.and_eq_true] at e
    simp only [Chunk.den, h id e.1, SV.denL_congr h vs e.2]
  | arr q wr id T enc xs => simp only [Chunk.idOk] at e; simp only [Chunk.den, h id e]
  | map id es => simp only [Chunk.idOk] at e; simp only [Chunk.den, h id e]
  | abs p ids => simp only [Chunk.idOk] at e; simp only [Chunk.den, idsOk_congr h ids e]
  | at_ id g => simp only [Chunk.idOk] at e; simp only [Chunk.den, h id e]
  | obj id o => simp only [Chunk.idOk] at e; simp only [Chunk.den, h id e]
  | own i A => rfl
theorem cs_congr {ρ ρ' : Nat → Nat} {p : Nat → Bool} (h : ∀ i, p i = true → ρ i = ρ' i) : ∀ cs : List (Chunk Pd), call p cs = true → cs.map (Chunk.den I ρ) = cs.map (Chunk.den I ρ')
  | [], _ => rfl
  | c :: r, e => by
    simp only [call, Bool.and_eq_true] at e
    simp only [List.map_cons, Chunk.den_congr I h c e.1, cs_congr h r e.2]

theorem idsRen_den {ρ σ : Nat → Nat} : ∀ ids, (idsRen σ ids).map ρ = ids.map (fun i => ρ (σ i))
  | [] => rfl
  | i :: r => by simp only [idsRen, List.map_cons, idsRen_den r]
theorem Chunk.den_ren {ρ σ : Nat → Nat} (c : Chunk Pd) : (c.ren σ).den I ρ = c.den I (fun i => ρ (σ i)) := by
  cases c with
  | cells id T vs => simp only [Chunk.ren, Chunk.den, SV.denL_ren]
  | arr q wr id T enc xs => rfl
  | map id es => rfl
  | abs p ids => simp only [Chunk.ren, Chunk.den, idsRen_den]
  | at_ id g => rfl
  | obj id o => rfl
  | own i A => rfl
theorem csRen_den {ρ σ : Nat → Nat} : ∀ cs : List (Chunk Pd), (csRen σ cs).map (Chunk.den I ρ) = cs.map (Chunk.den I (fun i => ρ (σ i)))
  | [] => rfl
  | c :: r => by simp only [csRen, List.map_cons, Chunk.den_ren, csRen_den r]

/-- The memory of a walk: the chunks, and a frame. -/
def SatC (G : Gl) (ρ : Nat → Nat) (cs : List (Chunk Pd)) (F : HP) (w : World) : Prop := Sat G (cs.map (Chunk.den I ρ) ++ [F]) w

variable {I} {G : Gl} {ρ : Nat → Nat} {cs : List (Chunk Pd)} {F : HP} {w : World}

theorem SatR.mem {A : HP} : ∀ {Ps : List HP} {U : Nat → Prop} {H : Hp}, A ∈ Ps → SatR Ps U H → ∃ h, A h ∧ ∀ b o, h b = some o → H b = some o
  | B :: r, U, H, hm, ⟨h1, q, s, t⟩ => by
    rcases List.mem_cons.1 hm with e | e
    · subst e; exact ⟨h1, q, fun b o x => (s b o x).1⟩
    · exact SatR.mem e t

theorem SatC.mem {c : Chunk Pd} (h : SatC I G ρ cs F w) (hc : c ∈ cs) : ∃ g, c.den I ρ g ∧ ∀ b o, g b = some o → w.heap[b]? = some o :=
  SatR.mem (List.mem_append_left _ (List.mem_map.2 ⟨c, hc, rfl⟩)) h.sep

def cget : List (Chunk Pd) → Nat → Option (TypeId × List SV)
  | [], _ => none
  | .cells i T vs :: r, id => if natEq i id then some (T, vs) else cget r id
  | _ :: r, id => cget r id
def cput : List (Chunk Pd) → Nat → List SV → List (Chunk Pd)
  | [], _, _ => []
  | .cells i T vs :: r, id, us => if natEq i id then .cells i T us :: r else .cells i T vs :: cput r id us
  | c :: r, id, us => c :: cput r id us

theorem natEq_iff {a b : Nat} : natEq a b = true ↔ a = b := ⟨Nat.eq_of_beq_eq_true, fun e => by subst e; exact Nat.beq_refl _⟩

theorem cget_split : ∀ {cs : List (Chunk Pd)} {id : Nat} {T : TypeId} {vs : List SV}, cget cs id = some (T, vs) →
    ∃ l1 l2, cs = l1 ++ .cells id T vs :: l2 ∧ ∀ us, cput cs id us = l1 ++ .cells id T us :: l2
  | .cells i T' vs' :: r, id, T, vs, h => by
    simp only [cget] at h
    split at h
    · rename_i e
      have e := natEq_iff.1 e
      subst e
      simp only [Option.some.injEq, Prod.mk.injEq] at h
      obtain ⟨rfl, rfl⟩ := h
      exact ⟨[], r, rfl, fun us => by simp [cput, natEq_iff.2 rfl]⟩
    · rename_i e
      obtain ⟨l1, l2, h1, h2⟩ := cget_split h
      exact ⟨.cells i T' vs' :: l1, l2, by simp [h1], fun us => by simp [cput, e, h2]⟩
  | .arr q wr i T' enc xs :: r, id, T, vs, h => by
    obtain ⟨l1, l2, h1, h2⟩ := cget_split (cs := r) (by simpa [cget] using h)
    exact ⟨_ :: l1, l2, by rw [h1]; rfl, fun us => by simp [cput, h2]⟩
  | .map i es :: r, id, T, vs, h => by
    obtain ⟨l1, l2, h1, h2⟩ := cget_split (cs := r) (by simpa [cget] using h)
    exact ⟨_ :: l1, l2, by rw [h1]; rfl, fun us => by simp [cput, h2]⟩
  | .abs p ids :: r, id, T, vs, h => by
    obtain ⟨l1, l2, h1, h2⟩ := cget_split (cs := r) (by simpa [cget] using h)
    exact ⟨_ :: l1, l2, by rw [h1]; rfl, fun us => by simp [cput, h2]⟩
  | .at_ i g :: r, id, T, vs, h => by
    obtain ⟨l1, l2, h1, h2⟩ := cget_split (cs := r) (by simpa [cget] using h)
    exact ⟨_ :: l1, l2, by rw [h1]; rfl, fun us => by simp [cput, h2]⟩
  | .obj i o :: r, id, T, vs, h => by
    obtain ⟨l1, l2, h1, h2⟩ := cget_split (cs := r) (by simpa [cget] using h)
    exact ⟨_ :: l1, l2, by rw [h1]; rfl, fun us => by simp [cput, h2]⟩
  | .own i A :: r, id, T, vs, h => by
    obtain ⟨l1, l2, h1, h2⟩ := cget_split (cs := r) (by simpa [cget] using h)
    exact ⟨_ :: l1, l2, by rw [h1]; rfl, fun us => by simp [cput, h2]⟩

theorem SatC.perm {cs' : List (Chunk Pd)} (h : SatC I G ρ cs F w) (p : cs.Perm cs') : SatC I G ρ cs' F w :=
  Sat.perm h ((p.map _).append_right _)
theorem perm_mid {α : Type _} (l1 l2 : List α) (c : α) : (l1 ++ c :: l2).Perm (c :: (l1 ++ l2)) := List.perm_middle

theorem SatC.cell {id : Nat} {T : TypeId} {vs : List SV} (h : SatC I G ρ cs F w) (e : cget cs id = some (T, vs)) :
    w.heap[ρ id]? = some (.cells (SV.denL ρ vs).toArray T (0, 0)) := by
  obtain ⟨l1, l2, h1, _⟩ := cget_split e
  obtain ⟨g, hg, hs⟩ := h.mem (c := .cells id T vs) (by rw [h1]; simp)
  exact hs _ _ hg.1

theorem SatC.putw {id : Nat} {T : TypeId} {vs us : List SV} {w' : World} (h : SatC I G ρ cs F w) (e : cget cs id = some (T, vs))
    (hw : w'.heap = w.heap.setIfInBounds (ρ id) (.cells (SV.denL ρ us).toArray T (0, 0))) (ei : io w' = io w := by rfl) : SatC I G ρ (cput cs id us) F w' := by
  obtain ⟨l1, l2, h1, h2⟩ := cget_split e
  rw [h2 us]
  have h3 : SatC I G ρ (.cells id T vs :: (l1 ++ l2)) F w := h.perm (by rw [h1]; exact perm_mid _ _ _)
  have h4 : SatC I G ρ (.cells id T us :: (l1 ++ l2)) F w' := Sat.put (o := .cells (SV.denL ρ vs).toArray T (0, 0)) h3 hw ei
  exact h4.perm (perm_mid _ _ _).symm

theorem SatC.newCells {id : Nat} {T : TypeId} {vs : List SV} (h : SatC I G ρ cs F w) (hid : ρ id = w.heap.size) :
    SatC I G ρ (.cells id T vs :: cs) F { w with heap := w.heap.push (.cells (SV.denL ρ vs).toArray T (0, 0)) } := by
  have := Sat.new h (.cells (SV.denL ρ vs).toArray T (0, 0))
  simp only [SatC, List.map_cons, Chunk.den, hid]
  exact this
theorem SatC.newMap {id : Nat} (h : SatC I G ρ cs F w) (hid : ρ id = w.heap.size) : SatC I G ρ (.map id [] :: cs) F { w with heap := w.heap.push (.map #[] 0) } := by
  have := Sat.new h (.map #[] 0)
  obtain ⟨a, b, h1, p, s, t⟩ := this
  refine ⟨a, b, h1, ?_, s, t⟩
  simp only [Chunk.den, hid]
  exact ⟨(#[], 0), ⟨rfl, MapKept.stamped_empty 0⟩, p⟩
theorem SatC.congr {ρ' : Nat → Nat} {p : Nat → Bool} (h : SatC I G ρ cs F w) (hp : call p cs = true) (hr : ∀ i, p i = true → ρ i = ρ' i) : SatC I G ρ' cs F w := by
  unfold SatC; rw [← cs_congr I hr cs hp]; exact h
theorem SatC.same {w' : World} (h : SatC I G ρ cs F w) (e : w'.heap = w.heap) (ei : io w' = io w := by rfl) : SatC I G ρ cs F w' := Sat.same h e ei
 end

/- Reading and writing cells. -/
theorem loadCellsFrom_run {P : Program} {w : World} {b : Nat} {c : Array Value} {T : TypeId} {fz : Nat × Nat} (h : w.heap[b]? = some (.cells c T fz)) :
    ∀ (n : Nat) (off i : Nat) (acc : Array Value), off + i + n ≤ c.size →
      (loadCellsFrom ⟨b, off, none⟩ i n acc).run P w = .ok (acc ++ c.extract (off + i) (off + i + n)) w
  | 0, off, i, acc, hl => by
    simp [loadCellsFrom]; omega
  | n + 1, off, i, acc, hl => by
    have hlt : off + i < c.size := by omega
    have hc : w.cell? ⟨b, off + i, none⟩ = some c[off + i] := by simp [World.cell?, h, hlt]
    have ih := loadCellsFrom_run (P := P) h n off (i + 1) (acc.push c[off + i]) (by omega)
    simp only [loadCellsFrom, addr_add, Sem.run_bind]
    have hl : (load ⟨b, off + i, none⟩).run P w = .ok c[off + i] w := by simp [load, Sem.run, hc]
    rw [hl, Result.andThen_ok, ih]
    congr 1
    apply Array.ext'
    simp only [Array.toList_append, Array.toList_push, Array.toList_extract, List.append_assoc]
    congr 1
    have e1 : (c.toList.extract (off + i) (off + i + (n + 1))) = c[off + i] :: c.toList.extract (off + (i + 1)) (off + (i + 1) + n) := by
      simp only [List.extract_eq_take_drop]
      rw [show off + i + (n + 1) - (off + i) = n + 1 by omega, show off + (i + 1) + n - (off + (i + 1)) = n by omega]
      rw [List.drop_eq_getElem_cons (by simpa using hlt)]
      simp [Nat.add_assoc]
    rw [e1]; rfl

theorem storeCells_run {P : Program} {b : Nat} {T : TypeId} {fz : Nat × Nat} :
    ∀ (vs : List Value) (off i : Nat) (c : Array Value) (w : World), w.heap[b]? = some (.cells c T fz) → off + i + vs.length ≤ c.size →
      (∀ v ∈ vs, v.oneCell' = true) → (∀ j, j < vs.length → (fz.1 ≤ off + i + j && off + i + j < fz.2) = false) →
      ∃ w', (storeCells ⟨b, off, none⟩ vs i).run P w = .ok () w' ∧
        w'.heap = w.heap.setIfInBounds b (.cells (c.toList.take (off + i) ++ vs ++ c.toList.drop (off + i + vs.length)).toArray T fz) ∧ io w' = io w
  | [], off, i, c, w, h, _, _, _ => by
    refine ⟨w, by simp [storeCells], ?_, rfl⟩
    have e : (c.toList.take (off + i) ++ [] ++ c.toList.drop (off + i + ([] : List Value).length)).toArray = c := by simp
    rw [e]
    apply Array.ext_getElem?
    intro k
    by_cases hk : b = k
    · subst hk; rw [Array.getElem?_setIfInBounds_self_of_lt (Array.getElem?_eq_some_iff.1 h).1, h]
    · rw [Array.getElem?_setIfInBounds_ne hk]
  | v :: r, off, i, c, w, h, hl, h1, hf => by
    simp only [List.length_cons] at hl
    have hlt : off + i < c.size := by omega
    have hc : w.cell? ⟨b, off + i, none⟩ = some c[off + i] := by simp [World.cell?, h, hlt]
    have hfr : w.frozen? ⟨b, off + i, none⟩ = false := by simpa [World.frozen?, h] using hf 0 (by simp)
    have hst : (store ⟨b, off + i, none⟩ v).run P w = .ok () (w.setCell ⟨b, off + i, none⟩ v) := by
      unfold store
      have := run_store P w ⟨b, off + i, none⟩ v .plain (h1 v (by simp))
      simpa [store, hc, hfr] using this
    have hw1 : (w.setCell ⟨b, off + i, none⟩ v).heap = w.heap.setIfInBounds b (.cells (c.setIfInBounds (off + i) v) T fz) := by
      simp only [World.setCell]; rw [modify_eq_set _ _ _ _ h]; simp
    have hlt' : b < w.heap.size := (Array.getElem?_eq_some_iff.1 h).1
    have h' : (w.setCell ⟨b, off + i, none⟩ v).heap[b]? = some (.cells (c.setIfInBounds (off + i) v) T fz) := by
      rw [hw1]; simp [hlt']
    obtain ⟨w', h3, h4, h5⟩ := storeCells_run (P := P) r off (i + 1) _ _ h' (by simp; omega) (fun u hu => h1 u (by simp [hu])) (fun j hj => by
      have := hf (j + 1) (by simp; omega)
      rw [show off + (i + 1) + j = off + i + (j + 1) by omega]; exact this)
    refine ⟨w', by simp only [storeCells, addr_add, Sem.run_bind, hst, Result.andThen_ok, h3], ?_, h5.trans rfl⟩
    rw [h4, hw1]
    have e : (c.setIfInBounds (off + i) v).toList = c.toList.set (off + i) v := by simp
    rw [e, show off + (i + 1) = off + i + 1 by omega, List.take_succ_eq_append_getElem (by simpa using hlt), List.take_set_of_le (Nat.le_refl _), List.getElem_set_self, List.drop_set_of_lt (by omega)]
    rw [Array.setIfInBounds_setIfInBounds]
    congr 3
    simp only [List.length_cons, List.append_assoc, List.cons_append, List.nil_append]
    rw [show off + i + 1 + r.length = off + i + (r.length + 1) by omega]

/- Operations on memory. -/
def SV.one : SV → Bool
  | .agg _ | .tuple _ | .raw _ => false
  | _ => true
def oneL : List SV → Bool
  | [] => true
  | v :: r => v.one && oneL r
def notId (fr : Nat) (i : Nat) : Bool := !natEq i fr
section
variable {Pd : Type}
def loadM (cs : List (Chunk Pd)) (T : Option TI) (x : SV) : Option SV :=
  match T, x with
  | some t, .ptr id off => match cget cs id with
    | some (_, vs) => if t.d.isAgg then (if Nat.ble (off + t.size) vs.length then some (.agg ((vs.drop off).take t.size)) else none) else vs[off]?
    | none => none
  | _, _ => none
def storeM (cs : List (Chunk Pd)) (T : Option TI) (x v : SV) : Option (List (Chunk Pd)) :=
  match T, x with
  | some t, .ptr id off => match v.cellsL, cget cs id with
    | some vc, some (_, vs) => if vc.length == t.size && Nat.ble (off + vc.length) vs.length && oneL vc then some (cput cs id (setRange vs off vc)) else none
    | _, _ => none
  | _, _ => none
def allocM (cs : List (Chunk Pd)) (fr : Nat) (t : TypeId) (T : Option TI) : Option (SV × List (Chunk Pd)) :=
  match T with
  | some x => match x.zero.cellsL with
    | some z => some (.ptr fr 0, .cells fr t z :: cs)
    | none => none
  | none => none
def boxM (cs : List (Chunk Pd)) (fr : Nat) (t : TypeId) (v : SV) : Option (SV × List (Chunk Pd)) :=
  match v.cellsL with
  | some vc => if SV.idOkL (notId fr) vc then some (.ptr fr 0, .cells fr t vc :: cs) else none
  | none => none
def catS (size : Nat) : Nat → List (Nat × SV) → Option (List SV)
  | _, [] => some []
  | k, (i, v) :: r => match v.cellsL with
    | some vc => if natEq i k && natEq vc.length size then (match catS size (k + 1) r with
      | some l => some (vc ++ l)
      | none => none) else none
    | none => none
def buildSliceM (ty : Tab) (cs : List (Chunk Pd)) (fr : Nat) (T : Option TI) (len : Nat) (ps : List (Nat × SV)) : Option (SV × List (Chunk Pd)) :=
  match T with
  | some ⟨.slice e, _, _, _⟩ => match ty e with
    | some te => match catS te.size 0 ps with
      | some l => if natEq ps.length len && Nat.ble 1 te.size && Nat.ble (len * te.size) 16777216 && SV.idOkL (notId fr) l && natEq len 0 == false then some (.slice fr te.size 0 len len, .cells fr e l :: cs) else none
      | none => none
    | none => none
  | _ => none
def memV (ty : Tab) (ev : Operand → Option SV) (cs : List (Chunk Pd)) (fr : Nat) (o : Op) : Option (SV × List (Chunk Pd)) :=
  match o with
  | .load t x => match ev x with
    | some a => match loadM cs (ty t) a with
      | some v => some (v, cs)
      | none => none
    | none => none
  | .store t x y => match ev x, ev y with
    | some a, some v => match storeM cs (ty t) a v with
      | some cs' => some (.tuple [], cs')
      | none => none
    | _, _ => none
  | .alloc t => allocM cs fr t (ty t)
  | .box t x => match ev x with
    | some v => boxM cs fr t v
    | none => none
  | .buildSlice t n ps => match evPs ev ps.toList with
    | some l => buildSliceM ty cs fr (ty t) n l
    | none => none
  | .makeMap _ none => some (.map fr, .map fr [] :: cs)
  | _ => none
 end

section
variable {Pd : Type} {I : Pd → List Nat → HP} {P : Program} {G : Gl} {ρ : Nat → Nat} {cs cs' : List (Chunk Pd)} {F : HP} {w : World} {ty : Tab}

theorem one_den {v : SV} (h : v.one = true) : (v.den ρ).oneCell' = true := by cases v <;> simp [SV.one] at h <;> simp [SV.den, Value.oneCell']
theorem oneL_den : ∀ {l : List SV}, oneL l = true → ∀ x ∈ SV.denL ρ l, x.oneCell' = true
  | [], _, x, hx => by simp [SV.denL] at hx
  | v :: r, h, x, hx => by
    simp only [oneL, Bool.and_eq_true] at h
    simp only [SV.denL, List.mem_cons] at hx
    rcases hx with rfl | hx
    · exact one_den h.1
    · exact oneL_den h.2 x hx

theorem loadM_run (hty : ty.ok P) (hs : SatC I G ρ cs F w) {t : TypeId} {x v : SV} (h : loadM cs (ty t) x = some v) : (Instr.loadAt t (x.den ρ)).run P w = .ok (v.den ρ) w := by
  unfold loadM at h
  split at h
  · rename_i tt id off ht
    split at h
    · rename_i T vs hg
      have hb := hs.cell hg
      have ha := (hty _ _ ht).run_isAgg w
      have hz := (hty _ _ ht).run_sizeOf w
      split at h
      · rename_i hagg
        split at h
        · rename_i hl
          have hl := Nat.le_of_ble_eq_true hl
          simp only [Option.some.injEq] at h; subst h
          have := loadCellsFrom_run (P := P) hb tt.size off 0 #[] (by simp [SV.denL_eq]; omega)
          simp only [Instr.loadAt, SV.den, Instr.sureAddr, Sem.run_bind, Sem.run_pure, Result.andThen_ok, loadVar, ha, hagg, if_true, hz, loadCells, this]
          simp [SV.denL_eq, List.extract_eq_take_drop, List.map_drop, List.map_take]
        · cases h
      · rename_i hagg
        have hc : w.cell? ⟨ρ id, off, none⟩ = some (v.den ρ) := by simp [World.cell?, hb, denL_get, h]
        simp [Instr.loadAt, SV.den, Instr.sureAddr, loadVar, ha, hagg, load, Sem.run, hc]
    · cases h
  · cases h

theorem storeM_run (hty : ty.ok P) (hs : SatC I G ρ cs F w) {t : TypeId} {x v : SV} (h : storeM cs (ty t) x v = some cs') :
    ∃ w', (Instr.storeAt t (x.den ρ) (v.den ρ)).run P w = .ok () w' ∧ SatC I G ρ cs' F w' := by
  unfold storeM at h
  split at h
  · rename_i tt id off ht
    split at h
    · rename_i vc T vs hv hg
      split at h
      · rename_i hc
        simp only [Bool.and_eq_true, beq_iff_eq] at hc
        obtain ⟨⟨h1, h2⟩, h3⟩ := hc
        have h2 := Nat.le_of_ble_eq_true h2
        simp only [Option.some.injEq] at h; subst h
        have hb := hs.cell hg
        have hz := (hty _ _ ht).run_sizeOf w
        have hcells := SV.cellsL_den (ρ := ρ) hv
        have hlen : (SV.den ρ v).cells.size = vc.length := by rw [← Array.length_toList, hcells, SV.denL_eq, List.length_map]
        obtain ⟨w', h4, h5, h6⟩ := storeCells_run (P := P) (SV.denL ρ vc) off 0 _ w hb (by simp [SV.denL_eq]; omega) (oneL_den h3) (by intro j _; simp)
        refine ⟨w', ?_, hs.putw hg ?_ h6⟩
        · simp only [Instr.storeAt, SV.den, Instr.sureAddr, Sem.run_bind, Sem.run_pure, Result.andThen_ok, storeVar, hz, hlen, h1, ne_eq, not_true, if_false, hcells]
          simpa using h4
        · rw [h5]
          simp [setRange, SV.denL_eq]
      · cases h
    · cases h
  · cases h

def upd1 (ρ : Nat → Nat) (k b : Nat) : Nat → Nat := fun i => if i = k then b else ρ i
theorem upd1_ne {k b i : Nat} (h : i ≠ k) : upd1 ρ k b i = ρ i := by simp [upd1, h]
theorem notId_ne {fr i : Nat} (h : notId fr i = true) : i ≠ fr := by
  intro e; subst e; simp [notId, natEq_iff.2 rfl] at h

theorem catS_run {size : Nat} (hsz : 1 ≤ size) : ∀ {ps : List (Nat × SV)} {k : Nat} {l : List SV} {c : Array Value}, catS size k ps = some l → c.size = (k + ps.length) * size →
    Instr.fill (fun i => some (i * size, size)) c (ps.map fun p => (p.1, p.2.den ρ)) = some (c.toList.take (k * size) ++ SV.denL ρ l).toArray
  | [], k, l, c, h, hc => by
    simp only [catS, Option.some.injEq] at h; subst h
    have : c.toList.take (k * size) = c.toList := List.take_of_length_le (by simp [hc])
    simp [Instr.fill, SV.denL, this]
  | (i, v) :: r, k, l, c, h, hc => by
    simp only [catS] at h
    split at h
    · rename_i vc hv
      split at h
      · rename_i hb
        simp only [Bool.and_eq_true] at hb
        have h1 := natEq_iff.1 hb.1
        have h2 := natEq_iff.1 hb.2
        subst h1
        split at h
        · rename_i l' hl
          simp only [Option.some.injEq] at h; subst h
          have hcells := SV.cellsL_den (ρ := ρ) hv
          have hlen : (SV.den ρ v).cells.size = vc.length := by rw [← Array.length_toList, hcells, SV.denL_eq, List.length_map]
          have hlen2 : (SV.denL ρ vc).length = size := by rw [SV.denL_eq, List.length_map, h2]
          simp only [List.length_cons] at hc
          have hroom : i * size + size ≤ c.size := by
            rw [hc, show i * size + size = (i + 1) * size by rw [Nat.add_mul]; omega]
            exact Nat.mul_le_mul_right _ (by omega)
          have h3 : (SV.den ρ v).cells = (SV.denL ρ vc).toArray := by rw [← hcells]
          have hset := set_range c.toList (SV.denL ρ vc) (i * size) c rfl (by rw [hlen2]; simpa using hroom)
          have hset' : ((SV.denL ρ vc).toArray.zipIdx.foldl (fun a (x, j) => a.setIfInBounds (i * size + j) x) c) = (c.toList.take (i * size) ++ SV.denL ρ vc ++ c.toList.drop (i * size + (SV.denL ρ vc).length)).toArray := by
            apply Array.ext'; rw [hset]
          simp only [List.map_cons, Instr.fill, hlen, h2]
          rw [if_neg (by simp; omega), h3, hset']
          have hall : (i + 1 + r.length) * size = c.size := by rw [hc]; congr 1; omega
          rw [catS_run hsz hl (by
            simp only [List.size_toArray, List.length_append, List.length_take, List.length_drop, Array.length_toList, hlen2]
            rw [Nat.min_eq_left (by omega)]; omega)]
          congr 2
          have e1 : (i + 1) * size = i * size + size := by rw [Nat.add_mul]; omega
          simp only [SV.denL_eq] at hlen2 ⊢
          rw [List.toList_toArray, e1]
          have e2 : (c.toList.take (i * size)).length = i * size := by simp; omega
          rw [List.take_append_of_le_length (by simp only [List.length_append, e2, hlen2]; omega)]
          rw [List.take_of_length_le (by simp only [List.length_append, e2, hlen2]; omega)]
          simp
        · cases h
      · cases h
    · cases h

theorem memV_run (hty : ty.ok P) {ev : Operand → Option SV} {evs : List Operand → Option (List SV)} {ρe : Operand → Value} (hev : EvOk ρ ev evs ρe)
    {o : Oper} {v : SV} {fr : Nat} (h : memV ty ev cs fr o.op = some (v, cs')) (hs : SatC I G ρ cs F w) (hfr : call (notId fr) cs = true) :
    ∃ w' ρ' nx, (execOp ρe o).run P w = .ok nx w' ∧ (nx = .value (v.den ρ') ∨ (nx = .skip ∧ v = .tuple [])) ∧ (∀ i, i ≠ fr → ρ' i = ρ i) ∧ SatC I G ρ' cs' F w' := by
  obtain ⟨dst, op, type, pos, after, guard⟩ := o
  simp only at h
  have hs1 : ∀ b, SatC I G (upd1 ρ fr b) cs F w := fun b => hs.congr hfr fun i hi => (upd1_ne (notId_ne hi)).symm
  unfold memV at h
  split at h
  · split at h
    · rename_i ha
      split at h
      · rename_i v' hl
        simp only [Option.some.injEq, Prod.mk.injEq] at h
        obtain ⟨rfl, rfl⟩ := h
        refine ⟨w, ρ, _, ?_, .inl rfl, fun _ _ => rfl, hs⟩
        simp only [execOp, hev.one _ _ ha, Sem.run_bind, loadM_run hty hs hl, Result.andThen_ok, Sem.run_pure]
      · cases h
    · cases h
  · split at h
    · rename_i ha hb
      split at h
      · rename_i c2 hl
        simp only [Option.some.injEq, Prod.mk.injEq] at h
        obtain ⟨rfl, rfl⟩ := h
        obtain ⟨w', h1, h2⟩ := storeM_run hty hs hl
        refine ⟨w', ρ, _, ?_, .inr ⟨rfl, rfl⟩, fun _ _ => rfl, h2⟩
        simp only [execOp, hev.one _ _ ha, hev.one _ _ hb, Sem.run_bind, h1, Result.andThen_ok, Sem.run_pure]
      · cases h
    · cases h
  · rename_i t
    unfold allocM at h
    split at h
    · rename_i x hx
      split at h
      · rename_i z hz
        simp only [Option.some.injEq, Prod.mk.injEq] at h
        obtain ⟨rfl, rfl⟩ := h
        have h1 := (hty _ _ hx).run_zeroValue (upd1 ρ fr w.heap.size) w
        have h2 := SV.cellsL_den (ρ := upd1 ρ fr w.heap.size) hz
        refine ⟨_, upd1 ρ fr w.heap.size, _, ?_, .inl rfl, fun i hi => upd1_ne hi, SatC.newCells (hs1 _) (by simp [upd1])⟩
        have h3 : (SV.den (upd1 ρ fr w.heap.size) x.zero).cells = (SV.denL (upd1 ρ fr w.heap.size) z).toArray := by rw [← h2]
        simp [execOp, Instr.alloc, h1, newVar, newRow, h3, SV.den, upd1]
      · cases h
    · cases h
  · split at h
    · rename_i t _ _ u hu
      unfold boxM at h
      split at h
      · rename_i vc hv
        split at h
        · rename_i hid
          simp only [Option.some.injEq, Prod.mk.injEq] at h
          obtain ⟨rfl, rfl⟩ := h
          have h0 : SV.denL (upd1 ρ fr w.heap.size) vc = SV.denL ρ vc := (SV.denL_congr (fun i hi => (upd1_ne (notId_ne hi)).symm) vc hid).symm
          have h2 := SV.cellsL_den (ρ := ρ) hv
          have h3 : (SV.den ρ u).cells = (SV.denL (upd1 ρ fr w.heap.size) vc).toArray := by rw [h0, ← h2]
          refine ⟨_, upd1 ρ fr w.heap.size, _, ?_, .inl rfl, fun i hi => upd1_ne hi, SatC.newCells (hs1 _) (by simp [upd1])⟩
          simp [execOp, Instr.box, hev.one _ _ hu, newVar, newRow, h3, SV.den, upd1]
        · cases h
      · cases h
    · cases h
  · split at h
    · rename_i t n ps _ l hl
      unfold buildSliceM at h
      split at h
      · rename_i e _ _ _ ht
        split at h
        · rename_i te hte
          split at h
          · rename_i l' hl'
            split at h
            · rename_i hc
              simp only [Bool.and_eq_true, beq_iff_eq] at hc
              obtain ⟨⟨⟨⟨hn, h1⟩, h2⟩, hid⟩, hn0⟩ := hc
              have hn := natEq_iff.1 hn
              have h1 := Nat.le_of_ble_eq_true h1
              have h2 := Nat.le_of_ble_eq_true h2
              simp only [Option.some.injEq, Prod.mk.injEq] at h
              obtain ⟨rfl, rfl⟩ := h
              have hd := (hty _ _ ht).desc
              simp only [TD.ok] at hd
              have hz := (hty _ _ hte).run_sizeOf w
              have hz0 := (hty _ _ hte).run_zeroValue ρ w
              have hps := evPs_run hev.one hl
              have h0 : SV.denL (upd1 ρ fr w.heap.size) l' = SV.denL ρ l' := (SV.denL_congr (fun i hi => (upd1_ne (notId_ne hi)).symm) l' hid).symm
              have hnz : ¬ n * te.size = 0 := by
                have : n ≠ 0 := fun e => by subst e; simp [natEq] at hn0
                intro e; rcases Nat.mul_eq_zero.1 e with e | e <;> omega
              have hfill : ∀ c : Array Value, c.size = n * te.size → Instr.fill (fun i => some (i * te.size, te.size)) c (l.map fun p => (p.1, p.2.den ρ)) = some (SV.denL ρ l').toArray := by
                intro c hc
                have := catS_run (ρ := ρ) h1 hl' (c := c) (by rw [hc, hn]; simp)
                simpa using this
              refine ⟨_, upd1 ρ fr w.heap.size, _, ?_, .inl rfl, fun i hi => upd1_ne hi, SatC.newCells (hs1 _) (by simp [upd1])⟩
              have h4 : (ps.map fun x => match x with | (i, x) => (i, ρe x)).toList = (l.map fun p => (p.1, p.2.den ρ)) := by rw [← hps]; simp
              simp only [execOp, Instr.buildSlice, Sem.run_bind, run_underlying hd, Result.andThen_ok, hz, Sem.run_ite]
              rw [if_neg (by simpa using h2), if_neg hnz]
              simp only [hz0, Result.andThen_ok, Sem.run_pure]
              rw [h4, hfill _ (by simp)]
              simp [newRow, h0, SV.den, upd1]
            · cases h
          · cases h
        · cases h
      · cases h
    · cases h
  · simp only [Option.some.injEq, Prod.mk.injEq] at h
    obtain ⟨rfl, rfl⟩ := h
    refine ⟨_, upd1 ρ fr w.heap.size, _, ?_, .inl rfl, fun i hi => upd1_ne hi, SatC.newMap (hs1 _) (by simp [upd1])⟩
    simp [execOp, Instr.makeMap, SV.den, upd1]
  · cases h
 end
end Sx
/- The walk itself: a function that reckons what is left to show; and that it is enough. -/
namespace Sx
open Go

/-- may a temporary be written? (how many there are; beside it, one that is kept, or two neighbours: 2 k + 2, 2 k + 3) -/
def okT (sz t : Nat) : Bool := Nat.ble (t + 1) (sz % 65536) && (!Nat.beq (2 * t + 2) (sz / 65536) && (!Nat.beq (2 * t + 3) (sz / 65536) && !Nat.beq (2 * t + 1) (sz / 65536)))
/-- what is kept -/
def keptV (a : Act) (k : Nat) : Value := if k % 2 = 1 then a.tmps.getD (k / 2) undef else .tuple #[a.tmps.getD (k / 2 - 1) undef, a.tmps.getD (k / 2) undef]
theorem beq_ne {a b : Nat} (h : Nat.beq a b = false) : a ≠ b := fun e => by subst e; rw [Nat.beq_refl] at h; cases h
theorem keptV_put {a : Act} {sz t k : Nat} {v : Value} (ht : okT sz t = true) (hk : sz / 65536 = k + 1) : keptV (a.put (some t) v) k = keptV a k := by
  simp only [okT, Bool.and_eq_true, Bool.not_eq_true'] at ht
  obtain ⟨_, h1, h2, h3⟩ := ht
  rw [hk] at h1 h2 h3
  have h1 := beq_ne h1
  have h2 := beq_ne h2
  have h3 := beq_ne h3
  unfold keptV
  split
  · have n1 : t ≠ k / 2 := by omega
    simp only [Act.put, Array.getD_eq_getD_getElem?]
    rw [Array.getElem?_setIfInBounds_ne n1]
  · by_cases hk0 : k = 0
    · subst hk0
      have n1 : t ≠ 0 := by omega
      simp only [Act.put, Array.getD_eq_getD_getElem?]
      rw [Array.getElem?_setIfInBounds_ne (by omega)]
    · have n1 : t ≠ k / 2 - 1 := by omega
      have n2 : t ≠ k / 2 := by omega
      simp only [Act.put, Array.getD_eq_getD_getElem?]
      rw [Array.getElem?_setIfInBounds_ne n1, Array.getElem?_setIfInBounds_ne n2]
theorem okT_plain {n t : Nat} (h1 : t < n) (h2 : n + 1 ≤ 65536) : okT (n % 65536) t = true := by
  have h3 : n % 65536 = n := Nat.mod_eq_of_lt (by omega)
  have h4 : n % 65536 / 65536 = 0 := by omega
  simp only [okT, h4, Bool.and_eq_true, Bool.not_eq_true']
  exact ⟨Nat.ble_eq_true_of_le (by omega), rfl, rfl, rfl⟩
def okD (sz : Nat) : Option Tmp → Bool
  | none => true
  | some t => okT sz t
inductive SX where | normal | exit (i : Nat) | goto (l : Nat) | ret | panic (v : SV)
inductive Out where | ret (v : SV) | pan (v : SV)
structure St (Pd : Type) : Type 1 where
  env : Env
  cs : List (Chunk Pd)
  n : Nat
inductive Plan where | done | take (i : Nat) (p : Plan) | all (l : List (Nat × Plan))
def tk : List Nat → Plan → Plan
  | [], p => p
  | i :: r, p => .take i (tk r p)

/- The points at which the reckoning stops: handed in as variables. -/
section
variable {Pd : Type} (W : IntKind → Int → Int) (bits : Bits) (ty : Tab)
  (Ncond : Bool → (Unit → Prop) → (Unit → Prop) → Prop) (Nob : List Ob → (Unit → Prop) → Prop)
  (Nop : Op → TypeId → List SV → List (Chunk Pd) → Nat → (Out → List (Chunk Pd) → Nat → Prop) → Prop)
  (Nloop Nscope : Code → St Pd → (SX → St Pd → Prop) → Prop)
  (sz nin : Nat) (pl : List (Nat × Plan))

def setD (d : Option Tmp) (v : SV) (e : Env) : Option Env :=
  match d with
  | none => some e
  | some t => if okT sz t then some (eset e t v) else none

inductive Gd where | yes | no | ask (b : Bool) (t : Nat) (want : Bool) | bad
def guardOf (all : List Oper) (e : Env) (g : Option (Nat × Bool)) : Gd :=
  match g with
  | none => .yes
  | some (j, want) => match all[j]? with
    | some oj => match oj.dst with
      | some t => match eget e t with
        | some .tt => if want then .yes else .no
        | some .ff => if want then .no else .yes
        | some (.bool b) => .ask b t want
        | some (.tuple []) => .no
        | _ => .bad
      | none => .bad
    | none => .bad

def isAlloc : Op → Bool
  | .load .. | .store .. => false
  | _ => true
def belowB (n i : Nat) : Bool := Nat.ble (i + 1) n
def obs1 (obs : List Ob) (k : Unit → Prop) : Prop :=
  match obs with
  | [] => k ()
  | _ => Nob obs k

def doOp (o : Oper) (fr nx : Nat) (s : St Pd) (K : St Pd → Prop) (KP : SV → St Pd → Prop) : Prop :=
  match pureV W bits ty (evO s.env) (evOs s.env) o.op with
  | some (v, obs) => match setD sz o.dst v s.env with
    | some e => obs1 Nob obs fun _ => K ⟨e, s.cs, s.n⟩
    | none => False
  | none => match memV ty (evO s.env) s.cs fr o.op with
    | some (v, cs') => match setD sz o.dst v s.env with
      | some e => if isAlloc o.op then (if eall (notId fr) s.env && call (notId fr) s.cs && Nat.ble nin fr then K ⟨e, cs', nx⟩ else False) else K ⟨e, cs', s.n⟩
      | none => False
    | none => match o.op with
      | .panic x => match evO s.env x with
        | some (.iface t v) => KP (.iface t v) ⟨[], s.cs, s.n⟩
        | _ => False
      | .ready _ | .waits _ | .alloc _ | .makeMap _ none | .send _ _ | .recv _ _ _ | .select _ _ | .go _ | .defer _ => False
      | op => match evOs s.env op.operands.toList with
        | some vals => if eall (belowB s.n) s.env && call (belowB s.n) s.cs then
            Nop op o.type vals s.cs s.n (fun out cs n => match out with
              | .ret v => match setD sz o.dst v s.env with
                | some e => K ⟨e, cs, n⟩
                | none => False
              | .pan v => KP v ⟨[], cs, n⟩) else False
        | none => False

def runOps (all : List Oper) : List Oper → St Pd → (St Pd → Prop) → (SV → St Pd → Prop) → Prop
  | [], s, K, _ => K s
  | o :: r, s, K, KP => match guardOf all s.env o.guard with
    | .yes => doOp W bits ty Nob Nop sz nin o s.n (s.n + 1) s (fun s' => runOps all r s' K KP) KP
    | .no => match setD sz o.dst (.tuple []) s.env with
      | some e => runOps all r ⟨e, s.cs, s.n⟩ K KP
      | none => False
    | .ask b t want => Ncond b
        (fun _ => if want then doOp W bits ty Nob Nop sz nin o s.n (s.n + 1) ⟨eset s.env t .tt, s.cs, s.n⟩ (fun s' => runOps all r s' K KP) KP
          else match setD sz o.dst (.tuple []) (eset s.env t .tt) with
            | some e => runOps all r ⟨e, s.cs, s.n⟩ K KP
            | none => False)
        (fun _ => if want then match setD sz o.dst (.tuple []) (eset s.env t .ff) with
            | some e => runOps all r ⟨e, s.cs, s.n⟩ K KP
            | none => False
          else doOp W bits ty Nob Nop sz nin o s.n (s.n + 1) ⟨eset s.env t .ff, s.cs, s.n⟩ (fun s' => runOps all r s' K KP) KP)
    | .bad => False

mutual
def runPlan (all : List Oper) (base : Nat) : Plan → St Pd → (St Pd → Prop) → (SV → St Pd → Prop) → Prop
  | .done, s, K, _ => K s
  | .take i p, s, K, KP => match all[i]? with
    | none => False
    | some o => match guardOf all s.env o.guard with
      | .yes => match pureV W bits ty (evO s.env) (evOs s.env) o.op with
        | some (v, obs) => match setD sz o.dst v s.env with
          | some e => obs1 Nob obs fun _ => runPlan all base p ⟨e, s.cs, s.n⟩ K KP
          | none => False
        | none => False
      | .no => match setD sz o.dst (.tuple []) s.env with
        | some e => runPlan all base p ⟨e, s.cs, s.n⟩ K KP
        | none => False
      | .ask b t want => Ncond b
          (fun _ => if want then match pureV W bits ty (evO (eset s.env t .tt)) (evOs (eset s.env t .tt)) o.op with
              | some (v, obs) => match setD sz o.dst v (eset s.env t .tt) with
                | some e => obs1 Nob obs fun _ => runPlan all base p ⟨e, s.cs, s.n⟩ K KP
                | none => False
              | none => False
            else match setD sz o.dst (.tuple []) (eset s.env t .tt) with
              | some e => runPlan all base p ⟨e, s.cs, s.n⟩ K KP
              | none => False)
          (fun _ => if want then match setD sz o.dst (.tuple []) (eset s.env t .ff) with
              | some e => runPlan all base p ⟨e, s.cs, s.n⟩ K KP
              | none => False
            else match pureV W bits ty (evO (eset s.env t .ff)) (evOs (eset s.env t .ff)) o.op with
              | some (v, obs) => match setD sz o.dst v (eset s.env t .ff) with
                | some e => obs1 Nob obs fun _ => runPlan all base p ⟨e, s.cs, s.n⟩ K KP
                | none => False
              | none => False)
      | .bad => False
  | .all l, s, K, KP => runAll all base l s K KP
def runAll (all : List Oper) (base : Nat) : List (Nat × Plan) → St Pd → (St Pd → Prop) → (SV → St Pd → Prop) → Prop
  | [], _, _, _ => True
  | (i, p) :: r, s, K, KP => (match all[i]? with
    | none => False
    | some o => match guardOf all s.env o.guard with
      | .yes => doOp W bits ty Nob Nop sz nin o (base + i) s.n s (fun s' => runPlan all base p s' K KP) KP
      | .no => match setD sz o.dst (.tuple []) s.env with
        | some e => runPlan all base p ⟨e, s.cs, s.n⟩ K KP
        | none => False
      | .ask b t want => Ncond b
          (fun _ => if want then doOp W bits ty Nob Nop sz nin o (base + i) s.n ⟨eset s.env t .tt, s.cs, s.n⟩ (fun s' => runPlan all base p s' K KP) KP
            else match setD sz o.dst (.tuple []) (eset s.env t .tt) with
              | some e => runPlan all base p ⟨e, s.cs, s.n⟩ K KP
              | none => False)
          (fun _ => if want then match setD sz o.dst (.tuple []) (eset s.env t .ff) with
              | some e => runPlan all base p ⟨e, s.cs, s.n⟩ K KP
              | none => False
            else doOp W bits ty Nob Nop sz nin o (base + i) s.n ⟨eset s.env t .ff, s.cs, s.n⟩ (fun s' => runPlan all base p s' K KP) KP)
      | .bad => False) ∧ runAll all base r s K KP
 end

def planAt : List (Nat × Plan) → Nat → Option Plan
  | [], _ => none
  | (i, p) :: r, id => if natEq i id then some p else planAt r id

def noteC (c : Operand) (u : SV) (s : St Pd) : St Pd :=
  match c with
  | .tmp t => ⟨eset s.env t u, s.cs, s.n⟩
  | _ => s
def run : Code → St Pd → (SX → St Pd → Prop) → Prop
  | .skip, s, K => K .normal s
  | .label _, s, K => K .normal s
  | .region id ops draw, s, K => if draw then match planAt pl id with
      | some p => runPlan W bits ty Ncond Nob Nop sz nin ops.toList s.n p ⟨s.env, s.cs, s.n + ops.size⟩ (K .normal) (fun v => K (.panic v))
      | none => False
    else runOps W bits ty Ncond Nob Nop sz nin ops.toList ops.toList s (K .normal) (fun v => K (.panic v))
  | .seq a b, s, K => run a s (fun x s' => match x with
      | .normal => run b s' K
      | x => K x s')
  | .cond c a b, s, K => match evO s.env c with
    | some .tt => run a s K
    | some .ff => run b s K
    | some (.bool x) => Ncond x (fun _ => run a (noteC c .tt s) K) (fun _ => run b (noteC c .ff s) K)
    | _ => False
  | .block id b, s, K => run b s (fun x s' => match x with
      | .exit j => if natEq j id then K .normal s' else K (.exit j) s'
      | x => K x s')
  | .loop b, s, K => Nloop b s K
  | .scope b, s, K => Nscope b s K
  | .exit i, s, K => K (.exit i) s
  | .goto l, s, K => K (.goto l) s
  | .ret, s, K => K .ret s
  | .rangeFunc .., _, _ => False
  | .refuse _, _, _ => False
 end

/- The plans are told by a program: they are checked. -/
mutual
def Plan.ok (ops : Array Oper) : Plan → Nat → Array Bool → Bool
  | .done, _, listed => (Region.ready .any ops listed).isEmpty
  | .take _ _, 0, _ => false
  | .take i p, f + 1, listed => Region.free .any ops listed i && (Region.ready .any ops listed).contains i && p.ok ops f (listed.setIfInBounds i true)
  | .all _, 0, _ => false
  | .all l, f + 1, listed => decide (Region.ready .any ops listed = l.map (·.1)) && !l.isEmpty && Plan.okL ops l f listed
def Plan.okL (ops : Array Oper) : List (Nat × Plan) → Nat → Array Bool → Bool
  | [], _, _ => true
  | (i, p) :: r, f, listed => p.ok ops f (listed.setIfInBounds i true) && Plan.okL ops r f listed
 end
def plansOk (pl : List (Nat × Plan)) : Code → Bool
  | .region id ops draw => !draw || (match planAt pl id with
    | some p => Region.noSelect ops && p.ok ops ops.size (Array.replicate ops.size false)
    | none => false)
  | .seq a b => plansOk pl a && plansOk pl b
  | .cond _ a b => plansOk pl a && plansOk pl b
  | .block _ b | .loop b | .scope b => plansOk pl b
  | _ => true
end Sx
