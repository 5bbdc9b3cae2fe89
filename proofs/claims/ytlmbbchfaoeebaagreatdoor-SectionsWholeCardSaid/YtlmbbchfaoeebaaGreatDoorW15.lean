/-
  Part of a proof.
-/
import Derived.Test.YtlmbbchfaoeebaaGreatDoorW13
import Derived.Test.YtlmbbchfaoeebaaGreatDoorW14
set_option linter.unusedVariables false
set_option linter.unusedSimpArgs false
/- sections.machine.value: the walk. -/
namespace Hx
open Go Sx Go.Proofs
set_option maxRecDepth 100000
set_option maxHeartbeats 4000000
set_option linter.unusedVariables false
set_option linter.unusedSimpArgs false
variable {GOk : Gl → Prop}
variable {right : Ev → Bool} {numRead : ByteArray → ByteArray × Int}
abbrev tvS (g : Nat) : Value := tellV 161 g
abbrev rcS (s : OS Sec) (t : ByteArray) (a g : Nat) : List (Chunk Pd) := rc Pd.sec 50 40 161 s t a g
/-- what must hold behind a call that reads on the row -/
def PostV (t : ByteArray) (g : Nat) (K : Out → List (Chunk Pd) → Prop) : Res Nat × OS Sec → Prop
  | (.ok k, s) => K (.ret (.tuple [])) (rcS s t k g)
  | (.err e at_, s) => K (.pan (flt e at_)) (ocS s)
  | (.ovf, _) => False
def ValueN (GOk : Gl → Prop) (right : Ev → Bool) (numRead : ByteArray → ByteArray × Int) (n : Nat) : Prop :=
  ∀ s t a g, t.size < 1000000 → a ≤ t.size → Triple (BB Ip GOk) 178 3 3 [.ptr 0 0, .ptr 2 0] (rcS s t a g) (fun K => PostV t g K (secValue right numRead t n a s))
def RowN (GOk : Gl → Prop) (right : Ev → Bool) (numRead : ByteArray → ByteArray × Int) (n : Nat) : Prop :=
  ∀ s t a g kind last fin, t.size < 1000000 → a < t.size → (kind = 5 ∨ kind = 7) → (fin = 6 ∨ fin = 9) → Triple (BB Ip GOk) 181 3 3 [.ptr 0 0, .ptr 2 0, .int .i64 kind, .int .u8 last, .int .i64 fin] (rcS s t a g) (fun K => PostV t g K (secRow right numRead t n a kind last fin s))
theorem value_step (hb : RgtOk GOk right) (hr : ReadOk GOk numRead) (n : Nat) (hrow : RowN GOk right numRead n) : ValueN GOk right numRead (n + 1) := by
  intro s t a g ht ha
  refine triple_of BB_ok (tb := ty) rfl (n0 := 3) (fun _ : Unit => _) pl178 Tryz.call178 Tryz.func178 rfl (by kernel_rfl) (Nat.le_of_ble_eq_true rfl) (by decide) rfl pre_none ?_
  rintro G hG K hK W bi bc bs bk bu bb bo bg bl bp bn be Ncond Nob Nop Nloop Nscope hN Nfin hf _ _
  cbv
  refine op_ hN (call_ (is_spec t a (tvS g) 91) hG [2] rfl rfl rfl rfl rfl ?_)
  intro m2 hm2
  cases m2 with
  | true =>
    have hM : secValue right numRead t (n + 1) a s = secRow right numRead t n a 5 93 6 s := by
      simp only [secValue]; rw [if_pos hm2.symm]
    rw [hM] at hK
    cbv
    refine cond_ hN (fun _ => ?_) (fun h => by simp at h)
    cbv
    refine op_ hN (call_ (hrow s t a g 5 93 6 ht (isB_lt hm2.symm) (.inl rfl) (.inl rfl)) hG [0, 1, 2] rfl rfl rfl rfl rfl ?_)
    generalize secRow right numRead t n a 5 93 6 s = y at hK ⊢
    obtain ⟨r, s'⟩ := y
    cases r with
    | ok a => cbv; exact hf _ _ (fin_ [] rfl rfl hK)
    | err e a => cbv; exact hf _ _ (fin_ [] rfl rfl hK)
    | ovf => exact hK.elim
  | false =>
    cbv
    refine cond_ hN (fun h => by simp at h) (fun _ => ?_)
    cbv
    refine op_ hN (call_ (is_spec t a (tvS g) 123) hG [2] rfl rfl rfl rfl rfl ?_)
    intro m3 hm3
    cases m3 with
    | true =>
      have hM : secValue right numRead t (n + 1) a s = secRow right numRead t n a 7 125 9 s := by
        simp only [secValue]; rw [if_neg (by rw [← hm2]; decide), if_pos hm3.symm]
      rw [hM] at hK
      cbv
      refine cond_ hN (fun _ => ?_) (fun h => by simp at h)
      cbv
      refine op_ hN (call_ (hrow s t a g 7 125 9 ht (isB_lt hm3.symm) (.inr rfl) (.inr rfl)) hG [0, 1, 2] rfl rfl rfl rfl rfl ?_)
      generalize secRow right numRead t n a 7 125 9 s = y at hK ⊢
      obtain ⟨r, s'⟩ := y
      cases r with
      | ok a => cbv; exact hf _ _ (fin_ [] rfl rfl hK)
      | err e a => cbv; exact hf _ _ (fin_ [] rfl rfl hK)
      | ovf => exact hK.elim
    | false =>
      have hM : secValue right numRead t (n + 1) a s = (match scalM numRead (secSays right) t a false s with
          | (.ok (some k), s) => (.ok k, s)
          | (.ok none, s) => (.err 2 (Int.ofNat a), s)
          | (.err e a, s) => (.err e a, s)
          | (.ovf, s) => (.ovf, s)) := by
        simp only [secValue]; rw [if_neg (by rw [← hm2]; decide), if_neg (by rw [← hm3]; decide)]
        simp only [OM.bind]
        generalize scalM numRead (secSays right) t a false s = z
        obtain ⟨r, s'⟩ := z
        cases r with
        | ok o => cases o <;> rfl
        | err e a => rfl
        | ovf => rfl
      rw [hM] at hK
      cbv
      refine cond_ hN (fun h => by simp at h) (fun _ => ?_)
      cbv
      refine op_ hN (op_vals (vals' := [.fn (.func 182) [] [], .ptr 2 0, .bool false]) (fun _ _ _ _ => rfl) (call_ (scalar_spec (sec_says_spec hb) hr s t a g false ht ha) hG [0, 1, 2] rfl rfl rfl rfl rfl ?_))
      generalize scalM numRead (secSays right) t a false s = y at hK ⊢
      obtain ⟨r, s'⟩ := y
      cases r with
      | err e a => cbv; exact hf _ _ (fin_ [] rfl rfl hK)
      | ovf => exact hK.elim
      | ok o =>
        cases o with
        | some k =>
          cbv
          refine cond_ hN (fun h => by simp at h) (fun _ => ?_)
          cbv
          exact hf _ _ (fin_ [] rfl rfl hK)
        | none =>
          cbv
          refine cond_ hN (fun _ => ?_) (fun h => by simp at h)
          cbv
          refine op_ hN (call_ (bad_spec t a (tvS g)) hG [2] rfl rfl rfl rfl rfl ?_)
          cbv
          exact hf _ _ (fin_ [] rfl rfl hK)
end Hx
/- sections.machine.row: the walk. -/
namespace Hx
open Go Sx Go.Proofs
set_option maxRecDepth 100000
set_option maxHeartbeats 4000000
set_option linter.unusedVariables false
set_option linter.unusedSimpArgs false
variable {GOk : Gl → Prop}
variable {right : Ev → Bool} {numRead : ByteArray → ByteArray × Int}
theorem OM.bind_ok {M α β : Type} {x : OM M α} {f : α → OM M β} {s s' : OS M} {b : β} (h : OM.bind x f s = (.ok b, s')) : ∃ a s1, x s = (.ok a, s1) ∧ f a s1 = (.ok b, s') := by
  unfold OM.bind at h
  generalize x s = y at h ⊢
  obtain ⟨r, s1⟩ := y
  cases r with
  | ok a => exact ⟨a, s1, rfl, h⟩
  | err e a => exact nomatch congrArg Prod.fst h
  | ovf => exact nomatch congrArg Prod.fst h
theorem OM.ret_ok {M α : Type} {a b : α} {s s' : OS M} (h : OM.ret a s = (.ok b, s')) : a = b ∧ s = s' := by
  simp only [OM.ret, Prod.mk.injEq, Res.ok.injEq] at h; exact h
theorem mustM_ok {M : Type} {t : ByteArray} {b : Int} {a k : Nat} {s s' : OS M} (h : mustM t b a s = (.ok k, s')) : a + 1 = k ∧ a < t.size := by
  unfold mustM at h
  split at h
  · rename_i hi
    simp only [Prod.mk.injEq, Res.ok.injEq] at h
    exact ⟨h.1, isB_lt hi⟩
  · exact nomatch congrArg Prod.fst h
theorem scalarR_le {t : ByteArray} {a : Nat} {nl : Bool} {k : Nat} {e : Int} {x : Ev} (ha : a ≤ t.size) (h : scalarR numRead t a nl = some (k, e, x)) : k ≤ t.size := by
  unfold scalarR at h
  split at h
  · split at h
    · simp only [Option.some.injEq, Prod.mk.injEq] at h; rw [← h.1]; exact quotR_pos t a ha
    · split at h
      · simp only [Option.some.injEq, Prod.mk.injEq] at h; rw [← h.1]
        have := numLoop_le t a _ a (Nat.le_refl _) ha
        unfold numberR; split
        · exact this
        · split <;> exact this
      · split at h
        · simp only [Option.some.injEq, Prod.mk.injEq] at h; rw [← h.1]; exact wordGo_le t _ a ha
        · split at h
          · simp only [Option.some.injEq, Prod.mk.injEq] at h; rw [← h.1]; exact wordGo_le t _ a ha
          · split at h
            · simp only [Option.some.injEq, Prod.mk.injEq] at h; rw [← h.1]; exact wordGo_le t _ a ha
            · exact nomatch h
  · exact nomatch h
theorem value_le (t : ByteArray) : ∀ n, (∀ a k s s', a ≤ t.size → secValue right numRead t n a s = (.ok k, s') → k ≤ t.size) ∧
    (∀ a kind last fin k s s', a ≤ t.size → secRow right numRead t n a kind last fin s = (.ok k, s') → k ≤ t.size) ∧
    (∀ a kind last k s s', secRowGo right numRead t n a kind last s = (.ok k, s') → isB t k last = true) := by
  intro n
  induction n with
  | zero =>
    refine ⟨fun a k s s' _ h => ?_, fun a kind last fin k s s' _ h => ?_, fun a kind last k s s' h => ?_⟩
    · rw [secValue] at h; exact nomatch congrArg Prod.fst h
    · rw [secRow] at h; exact nomatch congrArg Prod.fst h
    · rw [secRowGo] at h; exact nomatch congrArg Prod.fst h
  | succ n ih =>
    obtain ⟨ih1, ih2, ih3⟩ := ih
    refine ⟨fun a k s s' ha h => ?_, fun a kind last fin k s s' ha h => ?_, fun a kind last k s s' h => ?_⟩
    · rw [secValue] at h
      split at h
      · exact ih2 _ _ _ _ _ _ _ ha h
      · split at h
        · exact ih2 _ _ _ _ _ _ _ ha h
        · obtain ⟨o, s1, h1, h2⟩ := OM.bind_ok h
          cases o with
          | none => exact nomatch congrArg Prod.fst h2
          | some k' =>
            obtain ⟨rfl, -⟩ := OM.ret_ok h2
            unfold scalM at h1
            cases hs : scalarR numRead t a false with
            | none => rw [hs] at h1; exact nomatch (OM.ret_ok h1).1
            | some y =>
              obtain ⟨k1, e, x⟩ := y
              rw [hs] at h1
              simp only at h1
              split at h1
              · exact nomatch congrArg Prod.fst h1
              · obtain ⟨u, s2, -, h3⟩ := OM.bind_ok h1
                obtain ⟨h4, -⟩ := OM.ret_ok h3
                obtain rfl := Option.some.inj h4
                exact scalarR_le ha hs
    · rw [secRow] at h
      obtain ⟨u, s1, -, h2⟩ := OM.bind_ok h
      obtain ⟨k1, s2, h3, h4⟩ := OM.bind_ok h2
      obtain ⟨u2, s3, -, h5⟩ := OM.bind_ok h4
      obtain ⟨rfl, -⟩ := OM.ret_ok h5
      split at h3
      · rename_i hi
        obtain ⟨rfl, -⟩ := OM.ret_ok h3
        exact isB_lt hi
      · exact isB_lt (ih3 _ _ _ _ _ _ h3)
    · rw [secRowGo] at h
      obtain ⟨a1, s1, -, h2⟩ := OM.bind_ok h
      obtain ⟨a2, s2, -, h3⟩ := OM.bind_ok h2
      split at h3
      · rename_i hi
        obtain ⟨rfl, -⟩ := OM.ret_ok h3
        exact hi
      · obtain ⟨a3, s3, -, h4⟩ := OM.bind_ok h3
        exact ih3 _ _ _ _ _ _ h4
theorem row_step (hb : RgtOk GOk right) (n : Nat) (hn62 : n < 4611686018427387904) (hvalue : ∀ m, m < n → ValueN GOk right numRead m) : RowN GOk right numRead n := by
  intro s t a g kind last fin ht ha hkind hfin
  cases n with
  | zero =>
    refine ⟨Tryz.call181, fun G hG K hK => hK.elim⟩
  | succ n =>
    have hkE : kind ≠ 10 ∧ kind ≠ 11 := by rcases hkind with rfl | rfl <;> decide
    have hfE : fin ≠ 10 ∧ fin ≠ 11 := by rcases hfin with rfl | rfl <;> decide
    refine triple_of BB_ok (tb := ty) rfl (n0 := 3) (fun _ : Unit => _) pl181 Tryz.call181 Tryz.func181 rfl (by kernel_rfl) (Nat.le_of_ble_eq_true rfl) (by decide) rfl pre_none ?_
    rintro G hG K hK W bi bc bs bk bu bb bo bg bl bp bn be Ncond Nob Nop Nloop Nscope hN Nfin hf _ _
    cbv
    refine op_ hN (call_ (sec_says_spec hb s (ev0 kind) (Int.ofNat a) (okE0 kind hkE.1 hkE.2)) hG [0, 1] rfl rfl rfl rfl rfl ?_)
    simp only [secRow, OM.bind] at hK
    generalize secSays right (ev0 kind) (Int.ofNat a) s = y at hK ⊢
    obtain ⟨r, s1⟩ := y
    cases r with
    | err e a => cbv; exact hf _ _ (fin_ [] rfl rfl hK)
    | ovf => exact hK.elim
    | ok u =>
      simp only at hK
      have hadd : bi .add .i64 (Int.ofNat a) 1 = Int.ofNat (a + 1) := inext hN (by omega)
      cbv
      simp only [hadd]
      refine op_ hN (call_ (blanks_spec t (a + 1) (tvS g) (by omega)) hG [2] rfl rfl rfl rfl rfl ?_)
      intro b1 hb1
      rw [← hb1] at hK
      generalize hM0 : (if isB t b1 last = true then OM.ret b1 else secRowGo right numRead t n b1 kind last) s1 = M0 at hK
      cbv
      refine loopN_ hN (loop_ hN ty_ok mixed (ι := Nat × Nat × OS Sec × Nat) (fun y => ⟨[(0, .ptr 0 0), (1, .ptr 2 0), (2, .int .i64 kind), (3, .int .u8 last), (4, .int .i64 fin), (10, .int .i64 (Int.ofNat y.1))],
          [.abs (.sec y.2.2.1.m true) [0, 1], .abs (.core y.2.2.1.c 50 40) [1, 0], rowc 2 t y.2.1 (tvS g), .at_ 0 g], 3⟩)
        (fun y => y.2.1 ≤ t.size ∧ y.1 + y.2.2.2 ≤ n ∧ (if y.1 = 0 ∧ isB t y.2.1 last = true then OM.ret y.2.1 else secRowGo right numRead t y.2.2.2 y.2.1 kind last) y.2.2.1 = M0) (fun y => y.2.2.2) ?_ ?_)
      · refine Leads.idx (0, b1, s1, n) [] ⟨?_, by simp, ?_⟩ ⟨⟨rfl, rfl, rfl, rfl, rfl, rfl, trivial⟩, rfl, Nat.le_of_ble_eq_true rfl⟩
        · rw [hb1]; exact blanks_le t (a + 1) ha
        · rw [← hM0]; simp
      rintro ⟨j, p, sj, m⟩ ⟨hj1, hj2, hj3⟩ Nnext hn _
      simp only at hj1 hj2 hj3
      cbv
      refine op_ hN (call_ (is_spec t p (tvS g) last) hG [2] rfl rfl rfl rfl rfl ?_)
      intro r hr
      have hjm : r = true → j = 0 → OM.ret p sj = M0 := fun h1 h2 => by rw [← hj3, if_pos ⟨h2, by rw [← hr]; exact h1⟩]
      have hjg : ¬ (j = 0 ∧ r = true) → secRowGo right numRead t m p kind last sj = M0 := fun h1 => by rw [← hj3, if_neg (by rw [← hr]; exact h1)]
      clear hj3
      cases r with
      | true =>
        cbv
        refine cond_ hN (fun h => by simp at h) (fun _ => ?_)
        cbv
        refine cond_ hN (fun h1 => ?_) (fun h1 => ?_)
        · rw [cgt hN] at h1
          simp only [decide_eq_true_eq, decide_eq_false_iff_not, Int.ofNat_eq_natCast, gt_iff_lt, ge_iff_le, Bool.not_eq_true', Bool.not_eq_false', Int.not_lt, Int.not_le] at h1
          have hG0 := hjg (by omega)
          cbv
          cases m with
          | zero =>
            rw [secRowGo] at hG0
            rw [← hG0] at hK
            exact hK.elim
          | succ m =>
            rw [secRowGo] at hG0
            refine cond_ hN (fun h2 => ?_) (fun h2 => ?_)
            · rw [ceq hN] at h2; simp only [decide_eq_true_eq] at h2
              rw [if_pos h2] at hG0
              cbv
              refine op_ hN (call_ (key_spec t p (tvS g) (by omega) hj1) hG [2] rfl rfl rfl rfl rfl ?_)
              intro k e key hq
              have h1 : (keyR t p).1 = k := by rw [← hq]
              have h2 : (keyR t p).2.1 = e := by rw [← hq]
              have h3 : (keyR t p).2.2 = key := by rw [← hq]
              have hkp := keyR_pos t p hj1
              have hsz := keyR_size t p ht
              rw [h1] at hkp
              rw [h3] at hsz
              simp only [OM.bind, liftR, keyP] at hG0
              rw [h1, h2, h3] at hG0
              refine ⟨fun he => ?_, fun he => ?_⟩
              · rw [if_pos he] at hG0
                have hsz : key.size < 1099511627776 := by omega
                simp only at hG0
                have hsub : bi .sub .i64 (Int.ofNat k) 1 = Int.ofNat k - 1 := by rw [isub hN (by simp; omega) (by simp; omega)]
                obtain ⟨kk, hkk⟩ : ∃ x, Int.ofNat k - 1 = x := ⟨_, rfl⟩
                rw [hkk] at hsub hG0
                cbv
                simp only [hsub]
                refine op_ hN (call_ (sec_says_spec hb sj ⟨8, key, ⟨#[]⟩⟩ kk (okE8 key hsz)) hG [0, 1] rfl rfl rfl rfl rfl ?_)
                generalize secSays right ⟨8, key, ⟨#[]⟩⟩ kk sj = y at hG0 ⊢
                obtain ⟨r, s2⟩ := y
                cases r with
                | err e a =>
                  simp only at hG0
                  rw [← hG0] at hK
                  cbv; exact hf _ _ (fin_ [] rfl rfl hK)
                | ovf =>
                  simp only at hG0
                  rw [← hG0] at hK
                  exact hK.elim
                | ok u2 =>
                  simp only at hG0
                  cbv
                  refine op_ hN (call_ (blanks_spec t k (tvS g) (by omega)) hG [2] rfl rfl rfl rfl rfl ?_)
                  intro b2 hb2
                  rw [← hb2] at hG0
                  cbv
                  refine op_ hN (call_ (must_spec t b2 (tvS g) 61 (by omega)) hG [2] rfl rfl rfl rfl rfl ?_)
                  refine ⟨fun hi => ?_, fun hi => ?_⟩
                  · simp only [OM.bind, mustM] at hG0
                    rw [if_pos hi] at hG0
                    simp only [OM.ret] at hG0
                    cbv
                    refine op_ hN (call_ (blanks_spec t (b2 + 1) (tvS g) (by omega)) hG [2] rfl rfl rfl rfl rfl ?_)
                    intro a1 ha1
                    have hA := blanks_le t (b2 + 1) (isB_lt hi)
                    rw [← ha1] at hA hG0
                    cbv
                    refine op_ hN (call_ (hvalue m (by omega) s2 t a1 g ht hA) hG [0, 1, 2] rfl rfl rfl rfl rfl ?_)
                    have hfle := fun k s5 => (value_le (right := right) (numRead := numRead) t m).1 a1 k s2 s5 hA
                    generalize secValue right numRead t m a1 s2 = y at hG0 hfle ⊢
                    obtain ⟨r, s3⟩ := y
                    cases r with
                    | err e a =>
                      simp only at hG0
                      rw [← hG0] at hK
                      cbv; exact hf _ _ (fin_ [] rfl rfl hK)
                    | ovf =>
                      simp only at hG0
                      rw [← hG0] at hK
                      exact hK.elim
                    | ok k3 =>
                      simp only at hG0
                      have hk3 : k3 ≤ t.size := hfle k3 s3 rfl
                      clear hfle
                      cbv
                      refine op_ hN (call_ (blanks_spec t k3 (tvS g) (by omega)) hG [2] rfl rfl rfl rfl rfl ?_)
                      intro b3 hb3
                      have hb3l := blanks_le t k3 hk3
                      rw [← hb3] at hb3l hG0
                      cbv
                      refine op_ hN (call_ (is_spec t b3 (tvS g) last) hG [2] rfl rfl rfl rfl rfl ?_)
                      intro r2 hr2
                      cases r2 with
                      | true =>
                        rw [if_pos hr2.symm] at hG0
                        cbv
                        refine cond_ hN (fun _ => ?_) (fun h => by simp at h)
                        rw [← hG0] at hK
                        simp only [OM.ret] at hK
                        cbv
                        refine op_ hN (call_ (sec_says_spec hb s3 (ev0 fin) (Int.ofNat b3) (okE0 fin hfE.1 hfE.2)) hG [0, 1] rfl rfl rfl rfl rfl ?_)
                        generalize secSays right (ev0 fin) (Int.ofNat b3) s3 = y at hK ⊢
                        obtain ⟨r, s'⟩ := y
                        cases r with
                        | err e a => cbv; exact hf _ _ (fin_ [] rfl rfl hK)
                        | ovf => exact hK.elim
                        | ok u =>
                          simp only at hK
                          have hadd2 : bi .add .i64 (Int.ofNat b3) 1 = Int.ofNat (b3 + 1) := inext hN (by omega)
                          cbv
                          simp only [hadd2]
                          cbv
                          exact hf _ _ (fin_ [] rfl rfl hK)
                      | false =>
                        rw [if_neg (by rw [← hr2]; decide)] at hG0
                        cbv
                        refine cond_ hN (fun h => by simp at h) (fun _ => ?_)
                        cbv
                        refine op_ hN (call_ (must_spec t b3 (tvS g) 44 (by omega)) hG [2] rfl rfl rfl rfl rfl ?_)
                        refine ⟨fun hi => ?_, fun hi => ?_⟩
                        · simp only [OM.bind, mustM] at hG0
                          rw [if_pos hi] at hG0
                          simp only at hG0
                          cbv
                          refine op_ hN (call_ (blanks_spec t (b3 + 1) (tvS g) (by omega)) hG [2] rfl rfl rfl rfl rfl ?_)
                          intro b4 hb4
                          have hb4l := blanks_le t (b3 + 1) (isB_lt hi)
                          rw [← hb4] at hb4l hG0
                          cbv
                          refine hn _ (Leads.nxt (j + 1, b4, s3, m) [] ⟨hb4l, by simp only; omega, ?_⟩ (by simp) ⟨⟨rfl, rfl, rfl, rfl, rfl, ?_, trivial⟩, rfl, Nat.le_of_ble_eq_true rfl⟩)
                          · rw [if_neg (by simp)]; exact hG0
                          · exact congrArg (fun z => some (SV.int .i64 z)) (inext hN (by omega))
                        · simp only [OM.bind, mustM] at hG0
                          rw [if_neg (fun h => by rw [hi] at h; cases h)] at hG0
                          rw [← hG0] at hK
                          cbv
                          exact hf _ _ (fin_ [] rfl rfl hK)
                  · simp only [OM.bind, mustM] at hG0
                    rw [if_neg (fun h => by rw [hi] at h; cases h)] at hG0
                    rw [← hG0] at hK
                    cbv
                    exact hf _ _ (fin_ [] rfl rfl hK)
              · rw [if_neg he] at hG0
                rw [← hG0] at hK
                cbv
                exact hf _ _ (fin_ [] rfl rfl hK)
            · rw [ceq hN] at h2; simp only [decide_eq_false_iff_not] at h2
              rw [if_neg h2] at hG0
              simp only [OM.bind, OM.ret] at hG0
              have hA := hj1
              cbv
              refine op_ hN (call_ (hvalue m (by omega) sj t p g ht hA) hG [0, 1, 2] rfl rfl rfl rfl rfl ?_)
              have hfle := fun k s5 => (value_le (right := right) (numRead := numRead) t m).1 p k sj s5 hA
              generalize secValue right numRead t m p sj = y at hG0 hfle ⊢
              obtain ⟨r, s3⟩ := y
              cases r with
              | err e a =>
                simp only at hG0
                rw [← hG0] at hK
                cbv; exact hf _ _ (fin_ [] rfl rfl hK)
              | ovf =>
                simp only at hG0
                rw [← hG0] at hK
                exact hK.elim
              | ok k3 =>
                simp only at hG0
                have hk3 : k3 ≤ t.size := hfle k3 s3 rfl
                clear hfle
                cbv
                refine op_ hN (call_ (blanks_spec t k3 (tvS g) (by omega)) hG [2] rfl rfl rfl rfl rfl ?_)
                intro b3 hb3
                have hb3l := blanks_le t k3 hk3
                rw [← hb3] at hb3l hG0
                cbv
                refine op_ hN (call_ (is_spec t b3 (tvS g) last) hG [2] rfl rfl rfl rfl rfl ?_)
                intro r2 hr2
                cases r2 with
                | true =>
                  rw [if_pos hr2.symm] at hG0
                  cbv
                  refine cond_ hN (fun _ => ?_) (fun h => by simp at h)
                  rw [← hG0] at hK
                  simp only [OM.ret] at hK
                  cbv
                  refine op_ hN (call_ (sec_says_spec hb s3 (ev0 fin) (Int.ofNat b3) (okE0 fin hfE.1 hfE.2)) hG [0, 1] rfl rfl rfl rfl rfl ?_)
                  generalize secSays right (ev0 fin) (Int.ofNat b3) s3 = y at hK ⊢
                  obtain ⟨r, s'⟩ := y
                  cases r with
                  | err e a => cbv; exact hf _ _ (fin_ [] rfl rfl hK)
                  | ovf => exact hK.elim
                  | ok u =>
                    simp only at hK
                    have hadd2 : bi .add .i64 (Int.ofNat b3) 1 = Int.ofNat (b3 + 1) := inext hN (by omega)
                    cbv
                    simp only [hadd2]
                    cbv
                    exact hf _ _ (fin_ [] rfl rfl hK)
                | false =>
                  rw [if_neg (by rw [← hr2]; decide)] at hG0
                  cbv
                  refine cond_ hN (fun h => by simp at h) (fun _ => ?_)
                  cbv
                  refine op_ hN (call_ (must_spec t b3 (tvS g) 44 (by omega)) hG [2] rfl rfl rfl rfl rfl ?_)
                  refine ⟨fun hi => ?_, fun hi => ?_⟩
                  · simp only [OM.bind, mustM] at hG0
                    rw [if_pos hi] at hG0
                    simp only at hG0
                    cbv
                    refine op_ hN (call_ (blanks_spec t (b3 + 1) (tvS g) (by omega)) hG [2] rfl rfl rfl rfl rfl ?_)
                    intro b4 hb4
                    have hb4l := blanks_le t (b3 + 1) (isB_lt hi)
                    rw [← hb4] at hb4l hG0
                    cbv
                    refine hn _ (Leads.nxt (j + 1, b4, s3, m) [] ⟨hb4l, by simp only; omega, ?_⟩ (by simp) ⟨⟨rfl, rfl, rfl, rfl, rfl, ?_, trivial⟩, rfl, Nat.le_of_ble_eq_true rfl⟩)
                    · rw [if_neg (by simp)]; exact hG0
                    · exact congrArg (fun z => some (SV.int .i64 z)) (inext hN (by omega))
                  · simp only [OM.bind, mustM] at hG0
                    rw [if_neg (fun h => by rw [hi] at h; cases h)] at hG0
                    rw [← hG0] at hK
                    cbv
                    exact hf _ _ (fin_ [] rfl rfl hK)
        · rw [cgt hN] at h1
          simp only [decide_eq_true_eq, decide_eq_false_iff_not, Int.ofNat_eq_natCast, gt_iff_lt, ge_iff_le, Bool.not_eq_true', Bool.not_eq_false', Int.not_lt, Int.not_le] at h1
          have hE := hjm rfl (by omega)
          rw [← hE] at hK
          simp only [OM.ret] at hK
          cbv
          refine op_ hN (call_ (sec_says_spec hb sj (ev0 fin) (Int.ofNat p) (okE0 fin hfE.1 hfE.2)) hG [0, 1] rfl rfl rfl rfl rfl ?_)
          generalize secSays right (ev0 fin) (Int.ofNat p) sj = y at hK ⊢
          obtain ⟨r, s'⟩ := y
          cases r with
          | err e a => cbv; exact hf _ _ (fin_ [] rfl rfl hK)
          | ovf => exact hK.elim
          | ok u =>
            simp only at hK
            have hadd2 : bi .add .i64 (Int.ofNat p) 1 = Int.ofNat (p + 1) := inext hN (by omega)
            cbv
            simp only [hadd2]
            cbv
            exact hf _ _ (fin_ [] rfl rfl hK)
      | false =>
        have hG0 := hjg (by simp)
        cbv
        refine cond_ hN (fun _ => ?_) (fun h => by simp at h)
        cbv
        cases m with
        | zero =>
          rw [secRowGo] at hG0
          rw [← hG0] at hK
          exact hK.elim
        | succ m =>
          rw [secRowGo] at hG0
          refine cond_ hN (fun h2 => ?_) (fun h2 => ?_)
          · rw [ceq hN] at h2; simp only [decide_eq_true_eq] at h2
            rw [if_pos h2] at hG0
            cbv
            refine op_ hN (call_ (key_spec t p (tvS g) (by omega) hj1) hG [2] rfl rfl rfl rfl rfl ?_)
            intro k e key hq
            have h1 : (keyR t p).1 = k := by rw [← hq]
            have h2 : (keyR t p).2.1 = e := by rw [← hq]
            have h3 : (keyR t p).2.2 = key := by rw [← hq]
            have hkp := keyR_pos t p hj1
            have hsz := keyR_size t p ht
            rw [h1] at hkp
            rw [h3] at hsz
            simp only [OM.bind, liftR, keyP] at hG0
            rw [h1, h2, h3] at hG0
            refine ⟨fun he => ?_, fun he => ?_⟩
            · rw [if_pos he] at hG0
              have hsz : key.size < 1099511627776 := by omega
              simp only at hG0
              have hsub : bi .sub .i64 (Int.ofNat k) 1 = Int.ofNat k - 1 := by rw [isub hN (by simp; omega) (by simp; omega)]
              obtain ⟨kk, hkk⟩ : ∃ x, Int.ofNat k - 1 = x := ⟨_, rfl⟩
              rw [hkk] at hsub hG0
              cbv
              simp only [hsub]
              refine op_ hN (call_ (sec_says_spec hb sj ⟨8, key, ⟨#[]⟩⟩ kk (okE8 key hsz)) hG [0, 1] rfl rfl rfl rfl rfl ?_)
              generalize secSays right ⟨8, key, ⟨#[]⟩⟩ kk sj = y at hG0 ⊢
              obtain ⟨r, s2⟩ := y
              cases r with
              | err e a =>
                simp only at hG0
                rw [← hG0] at hK
                cbv; exact hf _ _ (fin_ [] rfl rfl hK)
              | ovf =>
                simp only at hG0
                rw [← hG0] at hK
                exact hK.elim
              | ok u2 =>
                simp only at hG0
                cbv
                refine op_ hN (call_ (blanks_spec t k (tvS g) (by omega)) hG [2] rfl rfl rfl rfl rfl ?_)
                intro b2 hb2
                rw [← hb2] at hG0
                cbv
                refine op_ hN (call_ (must_spec t b2 (tvS g) 61 (by omega)) hG [2] rfl rfl rfl rfl rfl ?_)
                refine ⟨fun hi => ?_, fun hi => ?_⟩
                · simp only [OM.bind, mustM] at hG0
                  rw [if_pos hi] at hG0
                  simp only [OM.ret] at hG0
                  cbv
                  refine op_ hN (call_ (blanks_spec t (b2 + 1) (tvS g) (by omega)) hG [2] rfl rfl rfl rfl rfl ?_)
                  intro a1 ha1
                  have hA := blanks_le t (b2 + 1) (isB_lt hi)
                  rw [← ha1] at hA hG0
                  cbv
                  refine op_ hN (call_ (hvalue m (by omega) s2 t a1 g ht hA) hG [0, 1, 2] rfl rfl rfl rfl rfl ?_)
                  have hfle := fun k s5 => (value_le (right := right) (numRead := numRead) t m).1 a1 k s2 s5 hA
                  generalize secValue right numRead t m a1 s2 = y at hG0 hfle ⊢
                  obtain ⟨r, s3⟩ := y
                  cases r with
                  | err e a =>
                    simp only at hG0
                    rw [← hG0] at hK
                    cbv; exact hf _ _ (fin_ [] rfl rfl hK)
                  | ovf =>
                    simp only at hG0
                    rw [← hG0] at hK
                    exact hK.elim
                  | ok k3 =>
                    simp only at hG0
                    have hk3 : k3 ≤ t.size := hfle k3 s3 rfl
                    clear hfle
                    cbv
                    refine op_ hN (call_ (blanks_spec t k3 (tvS g) (by omega)) hG [2] rfl rfl rfl rfl rfl ?_)
                    intro b3 hb3
                    have hb3l := blanks_le t k3 hk3
                    rw [← hb3] at hb3l hG0
                    cbv
                    refine op_ hN (call_ (is_spec t b3 (tvS g) last) hG [2] rfl rfl rfl rfl rfl ?_)
                    intro r2 hr2
                    cases r2 with
                    | true =>
                      rw [if_pos hr2.symm] at hG0
                      cbv
                      refine cond_ hN (fun _ => ?_) (fun h => by simp at h)
                      rw [← hG0] at hK
                      simp only [OM.ret] at hK
                      cbv
                      refine op_ hN (call_ (sec_says_spec hb s3 (ev0 fin) (Int.ofNat b3) (okE0 fin hfE.1 hfE.2)) hG [0, 1] rfl rfl rfl rfl rfl ?_)
                      generalize secSays right (ev0 fin) (Int.ofNat b3) s3 = y at hK ⊢
                      obtain ⟨r, s'⟩ := y
                      cases r with
                      | err e a => cbv; exact hf _ _ (fin_ [] rfl rfl hK)
                      | ovf => exact hK.elim
                      | ok u =>
                        simp only at hK
                        have hadd2 : bi .add .i64 (Int.ofNat b3) 1 = Int.ofNat (b3 + 1) := inext hN (by omega)
                        cbv
                        simp only [hadd2]
                        cbv
                        exact hf _ _ (fin_ [] rfl rfl hK)
                    | false =>
                      rw [if_neg (by rw [← hr2]; decide)] at hG0
                      cbv
                      refine cond_ hN (fun h => by simp at h) (fun _ => ?_)
                      cbv
                      refine op_ hN (call_ (must_spec t b3 (tvS g) 44 (by omega)) hG [2] rfl rfl rfl rfl rfl ?_)
                      refine ⟨fun hi => ?_, fun hi => ?_⟩
                      · simp only [OM.bind, mustM] at hG0
                        rw [if_pos hi] at hG0
                        simp only at hG0
                        cbv
                        refine op_ hN (call_ (blanks_spec t (b3 + 1) (tvS g) (by omega)) hG [2] rfl rfl rfl rfl rfl ?_)
                        intro b4 hb4
                        have hb4l := blanks_le t (b3 + 1) (isB_lt hi)
                        rw [← hb4] at hb4l hG0
                        cbv
                        refine hn _ (Leads.nxt (j + 1, b4, s3, m) [] ⟨hb4l, by simp only; omega, ?_⟩ (by simp) ⟨⟨rfl, rfl, rfl, rfl, rfl, ?_, trivial⟩, rfl, Nat.le_of_ble_eq_true rfl⟩)
                        · rw [if_neg (by simp)]; exact hG0
                        · exact congrArg (fun z => some (SV.int .i64 z)) (inext hN (by omega))
                      · simp only [OM.bind, mustM] at hG0
                        rw [if_neg (fun h => by rw [hi] at h; cases h)] at hG0
                        rw [← hG0] at hK
                        cbv
                        exact hf _ _ (fin_ [] rfl rfl hK)
                · simp only [OM.bind, mustM] at hG0
                  rw [if_neg (fun h => by rw [hi] at h; cases h)] at hG0
                  rw [← hG0] at hK
                  cbv
                  exact hf _ _ (fin_ [] rfl rfl hK)
            · rw [if_neg he] at hG0
              rw [← hG0] at hK
              cbv
              exact hf _ _ (fin_ [] rfl rfl hK)
          · rw [ceq hN] at h2; simp only [decide_eq_false_iff_not] at h2
            rw [if_neg h2] at hG0
            simp only [OM.bind, OM.ret] at hG0
            have hA := hj1
            cbv
            refine op_ hN (call_ (hvalue m (by omega) sj t p g ht hA) hG [0, 1, 2] rfl rfl rfl rfl rfl ?_)
            have hfle := fun k s5 => (value_le (right := right) (numRead := numRead) t m).1 p k sj s5 hA
            generalize secValue right numRead t m p sj = y at hG0 hfle ⊢
            obtain ⟨r, s3⟩ := y
            cases r with
            | err e a =>
              simp only at hG0
              rw [← hG0] at hK
              cbv; exact hf _ _ (fin_ [] rfl rfl hK)
            | ovf =>
              simp only at hG0
              rw [← hG0] at hK
              exact hK.elim
            | ok k3 =>
              simp only at hG0
              have hk3 : k3 ≤ t.size := hfle k3 s3 rfl
              clear hfle
              cbv
              refine op_ hN (call_ (blanks_spec t k3 (tvS g) (by omega)) hG [2] rfl rfl rfl rfl rfl ?_)
              intro b3 hb3
              have hb3l := blanks_le t k3 hk3
              rw [← hb3] at hb3l hG0
              cbv
              refine op_ hN (call_ (is_spec t b3 (tvS g) last) hG [2] rfl rfl rfl rfl rfl ?_)
              intro r2 hr2
              cases r2 with
              | true =>
                rw [if_pos hr2.symm] at hG0
                cbv
                refine cond_ hN (fun _ => ?_) (fun h => by simp at h)
                rw [← hG0] at hK
                simp only [OM.ret] at hK
                cbv
                refine op_ hN (call_ (sec_says_spec hb s3 (ev0 fin) (Int.ofNat b3) (okE0 fin hfE.1 hfE.2)) hG [0, 1] rfl rfl rfl rfl rfl ?_)
                generalize secSays right (ev0 fin) (Int.ofNat b3) s3 = y at hK ⊢
                obtain ⟨r, s'⟩ := y
                cases r with
                | err e a => cbv; exact hf _ _ (fin_ [] rfl rfl hK)
                | ovf => exact hK.elim
                | ok u =>
                  simp only at hK
                  have hadd2 : bi .add .i64 (Int.ofNat b3) 1 = Int.ofNat (b3 + 1) := inext hN (by omega)
                  cbv
                  simp only [hadd2]
                  cbv
                  exact hf _ _ (fin_ [] rfl rfl hK)
              | false =>
                rw [if_neg (by rw [← hr2]; decide)] at hG0
                cbv
                refine cond_ hN (fun h => by simp at h) (fun _ => ?_)
                cbv
                refine op_ hN (call_ (must_spec t b3 (tvS g) 44 (by omega)) hG [2] rfl rfl rfl rfl rfl ?_)
                refine ⟨fun hi => ?_, fun hi => ?_⟩
                · simp only [OM.bind, mustM] at hG0
                  rw [if_pos hi] at hG0
                  simp only at hG0
                  cbv
                  refine op_ hN (call_ (blanks_spec t (b3 + 1) (tvS g) (by omega)) hG [2] rfl rfl rfl rfl rfl ?_)
                  intro b4 hb4
                  have hb4l := blanks_le t (b3 + 1) (isB_lt hi)
                  rw [← hb4] at hb4l hG0
                  cbv
                  refine hn _ (Leads.nxt (j + 1, b4, s3, m) [] ⟨hb4l, by simp only; omega, ?_⟩ (by simp) ⟨⟨rfl, rfl, rfl, rfl, rfl, ?_, trivial⟩, rfl, Nat.le_of_ble_eq_true rfl⟩)
                  · rw [if_neg (by simp)]; exact hG0
                  · exact congrArg (fun z => some (SV.int .i64 z)) (inext hN (by omega))
                · simp only [OM.bind, mustM] at hG0
                  rw [if_neg (fun h => by rw [hi] at h; cases h)] at hG0
                  rw [← hG0] at hK
                  cbv
                  exact hf _ _ (fin_ [] rfl rfl hK)
end Hx
