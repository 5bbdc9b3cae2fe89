/-
  AngleWhole: when the end is OK the events are a document, else they can all be taken: THE TIED CARD OF THE LAW IS PROVED, for every argument (the first form, not the narrowed one). Its condition: the package-level variables that its row lists hold what the program's text lays (the card ties them).
-/
import Derived.Test.YtlmbbchfaoeebaaGreatDoorV25
import Derived.Test.YtlmbbchfaoeebaaGreatDoorShelf
import Derived.Test.YtlmbbchfaoeebaaGreatDoorTie
import Derived.Test.YtlmbbchfaoeebaaGreatDoorCards
import Derived.ProofKit
import Derived.OpenShut
import Derived.LaidMore
import Derived.Lay
import Derived.SevenTiedAt
import Derived.Stop.Joined
import Derived.Stop.LaidErr
import Derived.Lib.LaidU8T
import Derived.Lib.LaidTab
import Derived.Shelf.Vars
import Derived.Below
import Derived.Carry
set_option linter.unusedVariables false
set_option linter.unusedSimpArgs false
/- The row, and its tied card. -/
namespace Go.Proofs.YtlmbbchfaoeebaaGreatDoor
open Go Go.Proofs Go.ChangeShapes Go.WideShapes Go.ChangeAt Go.RowKit
set_option linter.unusedVariables false
set_option maxRecDepth 100000

theorem own : ownKnob Tryz.prog.godebug = none := by kernel_rfl
theorem laidOut : laidOutB Tryz.prog = true := by kernel_rfl
abbrev laid : List (String × DataW Unit) := Rows.angleWholeRow.laid

theorem iface_cell {H : Type} {enc : TypeId × Value → H} {P : Program} {w : World} {base : Nat} {sp : Nat → Bool} {held : Bool} {fuel : Nat} {t : TypeId} {ms : Array (String × TypeId)} {cs : List Value} {x : DataW H × List MemPlace}
    (hu : P.underlying t = some (.interface ms)) (h : DataW.trod enc P w base sp held fuel t cs = some x) : cs = [.nilIface] ∨ ∃ u v, cs = [.iface u v] := by
  cases fuel with
  | zero => simp [DataW.trod] at h
  | succ n =>
    unfold DataW.trod at h
    rw [hu] at h
    split at h <;> simp_all

theorem err_cell {W : World} {n : String} {d : DataW Unit} {g : Nat} (hg : Tryz.prog.globalNamed n = some g) (ht : (Tryz.prog.globals[g]?).map (·.type) = some 123) (h : Lib.VarReads Tryz.prog W n d) :
    ∃ ev, W.cell? ⟨g, 0, none⟩ = some ev ∧ (ev = .nilIface ∨ ∃ te pe, ev = .iface te pe) := by
  obtain ⟨g', t, cs, fuel, p, hg', ht', hv, hd⟩ := h
  obtain rfl := Option.some.inj (hg.symm.trans hg')
  obtain rfl := Option.some.inj (ht.symm.trans ht')
  have hc := World.var?_cell hg hv 0
  obtain ⟨l⟩ := cs
  rcases iface_cell (ms := _) (show Tryz.prog.underlying 123 = some (.interface _) from Tryz.underlying123) hd with e | ⟨u, v, e⟩
  · simp only at e; subst e
    exact ⟨.nilIface, by rw [hc]; rfl, .inl rfl⟩
  · simp only at e; subst e
    exact ⟨.iface u v, by rw [hc]; rfl, .inr ⟨u, v, rfl⟩⟩

theorem tabs_of {W : World} (hL : laidMet Tryz.prog laid W) (hsh : W.ShapedOpen Tryz.prog) : Hx.TabsOk W := by
  have r1 : Lib.VarReads Tryz.prog W "unicode/utf8.first" Lib.firstData := by
    have h := Lib.laidMet.reads hL (n := "unicode/utf8.first") (d := Rows.laid_unicode_utf8_first) (by simp [laid, Rows.angleWholeRow])
    rwa [show Rows.laid_unicode_utf8_first = Lib.firstData by kernel_rfl] at h
  have r2 : Lib.VarReads Tryz.prog W "unicode/utf8.acceptRanges" Lib.acceptData := by
    have h := Lib.laidMet.reads hL (n := "unicode/utf8.acceptRanges") (d := Rows.laid_unicode_utf8_acceptRanges) (by simp [laid, Rows.angleWholeRow])
    rwa [show (Rows.laid_unicode_utf8_acceptRanges : DataW Unit) = Lib.acceptData by kernel_rfl] at h
  refine ⟨?_, ?_, ?_, ?_, ?_⟩
  · exact utf8Tabs_of_readsT (U8Types.of196 Tryz.laysValid) ⟨by kernel_rfl, by kernel_rfl, by kernel_rfl, by kernel_rfl, by kernel_rfl, by kernel_rfl, by kernel_rfl⟩ r1 r2
  · exact cell_of_shapedOpen_int (g := 2) (t := 3) (zero := #[.int .i64 0]) hsh (of_decide_eq_true (by kernel_rfl)) (by kernel_rfl) rfl (by kernel_rfl) (by kernel_rfl) Tryz.underlying3
  · exact err_cell (by kernel_rfl) (by kernel_rfl) (Lib.laidMet.reads hL (n := "strconv.ErrSyntax") (d := Rows.laid_strconv_ErrSyntax) (by simp [laid, Rows.angleWholeRow]))
  · exact err_cell (by kernel_rfl) (by kernel_rfl) (Lib.laidMet.reads hL (n := "strconv.ErrRange") (d := Rows.laid_strconv_ErrRange) (by simp [laid, Rows.angleWholeRow]))
  · have h := hL.tail.tail
    have e : (Rows.laid_internal_strconv_uint64pow10 : DataW Unit) = Lib.tabData .u64 Lib.pow10Tab := by kernel_rfl
    rw [e] at h
    exact Lib.tabIs_of_head (g := 6) (t := 188) (by kernel_rfl) (by kernel_rfl) Tryz.underlying188 Tryz.underlying152 (by kernel_rfl) (by kernel_rfl) h

/-- the plain wrap over listed variables, the world's shape kept -/
theorem in_shaped {H : Type} {enc : TypeId × Value → H} {a : Assume} {C : Checked} {os : Os} {f : FuncId} {fn : Func} {s : ChangeSpec} {conds : List PathCond} {apart fresh handsOn again : Bool} {X : World → Array Value → Prop}
    (hX : ∀ (w w' : World) (args : Array Value), w.heap = w'.heap → X w args → X w' args)
    (own : ownKnob C.prog.godebug = none) (started : os.Started) (noInit : C.prog.inits.idxOf? f = none) (hfn : C.prog.funcs[f]? = some fn)
    (witness : ∃ (w : World) (tape : Tape) (i : Input), w.os = os ∧ (w.forCall tape i).Shaped C.prog ∧ i.vars = [] ∧ Input.okWide C.prog (w.forCall tape i) .any w.heap.size f i ∧
      ((s.pre enc C.prog fn conds apart (w.forCall tape i).memory i.args ∧ X (w.forCall tape i).memory i.args) ∧ sizedMet enc C.prog fn (OpenSpec.ofChange s) apart (w.forCall tape i).memory i.args) ∧ a.holds C.prog (lone (Frame.enter C.prog f i.args .normal) [] (w.forCall tape i)))
    (contract : ∀ (W : World) (base : Nat) (args : Array Value) (ds gs : List (DataW H)) (before : List MemPlace),
      (∀ (j : Nat) t v, fn.params[j]? = some t → args[j]? = some v → Value.okWide C.prog W .any base t v) →
      DataW.Whole enc C.prog fn.params.toList s.vars apart W args.toList ds gs before → W.ShapedOpen C.prog → X W args →
      Calls C.prog f args W fun e W' => ∃ v, e = .returned v ∧ s.post enc C.prog fn apart fresh handsOn again W args v W') :
    ReturnsInHanded a C os f .any (fun w args => (s.pre enc C.prog fn conds apart w args ∧ X w args) ∧ sizedMet enc C.prog fn (OpenSpec.ofChange s) apart w args) (s.post enc C.prog fn apart fresh handsOn again) := by
  refine returnsInHanded_of_calls own started noInit witness ?_
  intro w tape i _ hsh _ hok hpre hholds
  obtain ⟨_, _, _, fn', hfn', _, _, _, _, hval⟩ := hok
  have e : fn' = fn := Option.some.inj (hfn'.symm.trans hfn)
  subst e
  obtain ⟨⟨⟨ds, gs, before, hw, hc⟩, hx⟩, hz⟩ := hpre
  have hw' := DataW.Whole.of_heap (w' := w.forCall tape i) (by rfl) hw
  refine (contract (w.forCall tape i) w.heap.size i.args ds gs before hval hw' hsh (hX _ _ _ (by rfl) hx)).mono fun e W' ⟨v, he, hp⟩ => ?_
  subst he
  exact ChangeSpec.post_blind hp

/-- the tables stand in every world that is the old one below its end -/
theorem tabs_grow {W w : World} (h : Hx.TabsOk W) (hs : W.heap.size ≤ w.heap.size) (hb : ∀ b, b < W.heap.size → w.heap[b]? = W.heap[b]?) : Hx.TabsOk w := by
  have cell : ∀ b off v, W.cell? ⟨b, off, none⟩ = some v → w.cell? ⟨b, off, none⟩ = some v := by
    intro b off v hc
    have hlt : b < W.heap.size := by
      rcases Nat.lt_or_ge b W.heap.size with x | x
      · exact x
      · simp only [World.cell?, Array.getElem?_eq_none x] at hc; cases hc
    simp only [World.cell?] at hc ⊢
    rw [hb b hlt]; exact hc
  refine ⟨⟨fun c hc => cell _ _ _ (h.utf8.1 c hc), fun i hi => ⟨cell _ _ _ (h.utf8.2 i hi).1, cell _ _ _ (h.utf8.2 i hi).2⟩⟩, ?_, ?_, ?_, ?_⟩
  · obtain ⟨m, hm⟩ := h.max; exact ⟨m, cell _ _ _ hm⟩
  · obtain ⟨e, he, h2⟩ := h.err1; exact ⟨e, cell _ _ _ he, h2⟩
  · obtain ⟨e, he, h2⟩ := h.err2; exact ⟨e, cell _ _ _ he, h2⟩
  · have hp := h.pow
    have hg : Tryz.prog.globalNamed "internal/strconv.uint64pow10" = some 6 := by kernel_rfl
    unfold Lib.TabIs World.var? at hp ⊢
    rw [hg] at hp ⊢
    simp only [Option.bind_some] at hp ⊢
    have hlt : 6 < W.heap.size := by
      rcases Nat.lt_or_ge 6 W.heap.size with x | x
      · exact x
      · rw [Array.getElem?_eq_none x] at hp; cases hp
    rw [hb 6 hlt]; exact hp

/-- THE WALK, said of the kit's own call: the law answers true, and leaves all as it was -/
theorem walk (W : World) (hT : Hx.TabsOk W) (p : Bool) (g off len cap : Nat) (text : List UInt8) (hlt : text.length = len) (hpr : p = false → len = 0) (hfits : len ≤ cap)
    (hcell : ∀ i x, text[i]? = some x → W.cell? ⟨g, off + i, none⟩ = some (.int .u8 (x.toNat : Nat))) :
    Calls Tryz.prog 4 #[.slice (if p then some ⟨g, off, none⟩ else none) len cap] W fun e w' => e = .returned (.bool true) ∧ w'.os = W.os ∧ w'.output = W.output ∧ W.heap.size ≤ w'.heap.size ∧ ∀ b, b < W.heap.size → w'.heap[b]? = W.heap[b]? := by
  let G : Sx.Gl := ⟨W.heap.size, fun b => W.heap[b]?, Sx.io W⟩
  have hGT : Hx.GTab (fun G' => G' = G) := by
    rintro _ rfl w h1 h2
    exact tabs_grow hT h2 h1
  have hS : Sx.OldB (fun G' => G' = G) g off text := by
    rintro _ rfl i x hx
    have hc := hcell i x hx
    have hlt : g < W.heap.size := by
      rcases Nat.lt_or_ge g W.heap.size with y | y
      · exact y
      · simp only [World.cell?, Array.getElem?_eq_none y] at hc; cases hc
    refine ⟨hlt, ?_⟩
    simp only [World.cell?] at hc
    split at hc
    · rename_i cs T fz hh
      exact ⟨cs, T, fz, hh, by simpa using hc⟩
    · cases hc
  have hrun := (Hx.angle_all hGT p off len cap g text hlt hpr hfits hS).goes G rfl (fun out cs => out = .ret (.bool true)) rfl (fun _ => g) (fun _ => True) W
    ⟨Nat.le_refl _, ⟨rfl, fun _ _ => rfl⟩, ⟨fun _ => none, rfl, (fun b o h => by cases h), ⟨fun _ => none, trivial, (fun b o h => by cases h), trivial⟩⟩⟩
  have ha : (Sx.SV.denL (fun _ => g) [Sx.SV.vec p 0 1 off len cap]).toArray = #[.slice (if p then some ⟨g, off, none⟩ else none) len cap] := by
    simp [Sx.SV.denL, Sx.SV.den]
  rw [ha] at hrun
  refine hrun.mono ?_
  rintro e w' ⟨out, cs, ρ', h1, rfl, h3, h4⟩
  have hio := h4.old.io
  refine ⟨?_, congrArg (·.1) hio, congrArg (·.2) hio, h4.size, h4.old.old⟩
  cases e <;> simp [Sx.OutRel, Sx.SV.den] at h1 ⊢
  exact h1

theorem lifted (os : Os) (started : os.Started) (H : Type) (enc : TypeId × Value → H) :
    ReturnsInHanded {} Tryz.checked os 4 .any (fun w args => (Rows.angleWholeSpec.pre enc Tryz.prog Tryz.f4 [] false w args ∧ laidMetH Tryz.prog laid w) ∧ sizedMet enc Tryz.prog Tryz.f4 (OpenSpec.ofChange Rows.angleWholeSpec) false w args)
      (Rows.angleWholeSpec.post enc Tryz.prog Tryz.f4 false true false false) := by
  refine in_shaped (C := Tryz.checked) (X := fun w _ => laidMetH Tryz.prog laid w) (fun _ _ _ hh h => h.of_heap hh) own started (by kernel_rfl) Tryz.func4
    (ChangeSpec.witness_shaped (enc := enc) (C := Tryz.checked) (os := os) (X := fun w _ => laidMetH Tryz.prog laid w) false (World.laidAll Tryz.prog os laid) #[.slice none 0 0] 8 (World.laidAll_os _ _ _)
      (World.shaped_of_ZipB (by kernel_rfl) (by kernel_rfl)) (by kernel_rfl) (by kernel_rfl) (by kernel_rfl)
      (by rw [MakeChecks.laidMetH_plain _ _ _ (by kernel_rfl)]; exact laidMet_laidAll _ (by kernel_rfl) (by kernel_rfl))) ?_
  intro W base args ds gs before hval0 hW hsh hL
  have hval : ∀ (j : Nat) t v, Tryz.f4.params[j]? = some t → args[j]? = some v → Value.okWide Tryz.prog W .any base t v := hval0
  have hW' := hW
  obtain ⟨p, q, hA0, hV, rfl, hfz, hnd⟩ := hW
  have hA : DataW.TrodAll enc Tryz.prog W 0 (fun _ => true) true Tryz.f4.params.toList args.toList ds p := hA0
  rw [Tryz.params4] at hA hval
  obtain ⟨v0, vs0, d0, ds0, p0, q0, hargs, rfl, rfl, h0, r0⟩ := trodAll_cons hA
  obtain ⟨rfl, rfl, rfl⟩ := trodAll_nil r0
  obtain rfl : args = #[v0] := by cases args; simp_all
  obtain ⟨rfl, rfl⟩ := trodVars_none hV
  have hT : Hx.TabsOk W := by
    have hL2 : laidMet Tryz.prog laid W := by rw [MakeChecks.laidMetH_plain _ _ _ (by kernel_rfl)] at hL; exact hL
    exact tabs_of hL2 hsh
  have hok := hval 0 22 v0 rfl rfl
  obtain ⟨a0, len0, cap0, rfl⟩ := okWide_slice Tryz.underlying22 hok
  have k0 := h0
  have lt0 : ∀ x ∈ p0, x.block < W.heap.size := by obtain ⟨m, hm⟩ := k0; exact DataW.trod_lt m _ _ _ hm
  have main : Calls Tryz.prog 4 #[.slice a0 len0 cap0] W fun e w' => e = .returned (.bool true) ∧ w'.os = W.os ∧ w'.output = W.output ∧ W.heap.size ≤ w'.heap.size ∧ ∀ b, b < W.heap.size → w'.heap[b]? = W.heap[b]? := by
    obtain ⟨fuel, hf⟩ := h0
    rcases open_ints Tryz.underlying22 Tryz.underlying5 (by kernel_rfl) hf with ⟨hcs, _⟩ | ⟨x, l, c, zs, hcs, _, hl, hm, hz, _, hcell, hwz⟩
    · simp [Value.cells] at hcs
      obtain ⟨rfl, rfl, rfl⟩ := hcs
      exact walk W hT false 0 0 0 0 [] rfl (fun _ => rfl) (Nat.le_refl _) (fun i x h => by simp at h)
    · simp [Value.cells] at hcs
      obtain ⟨rfl, rfl, rfl⟩ := hcs
      have hz : zs.length = cap0 := by simpa using hz
      have hspot : x.spot = none := by
        simp only [Value.okWide, Tryz.underlying22, Cell.okWide, Cell.ok] at hok
        exact hok.2.2.2.1
      obtain ⟨g, off, spot⟩ := x
      simp only at hspot
      subst hspot
      refine walk W hT true g off len0 cap0 ((zs.take len0).map fun z => UInt8.ofNat z.toNat) (by simp; omega) (fun h => by cases h) hl (fun i b hb => ?_)
      rw [List.getElem?_map, List.getElem?_take] at hb
      split at hb
      · rename_i hi
        cases hzi : zs[i]? with
        | none => rw [hzi] at hb; cases hb
        | some z =>
          rw [hzi] at hb
          simp only [Option.map_some, Option.some.injEq] at hb
          subst hb
          have hlt := (List.getElem?_eq_some_iff.1 hzi).1
          have h1 := hcell i hlt
          have h2 := hwz z (List.mem_of_getElem? hzi)
          have h3 : zs.getD i 0 = z := by simp [List.getD, hzi]
          rw [h3] at h1
          have hr : 0 ≤ z ∧ z ≤ 255 := by
            have : (decide (0 ≤ z) && decide (z ≤ 255)) = true := h2
            simpa using this
          have h4 : (((UInt8.ofNat z.toNat).toNat : Nat) : Int) = z := by
            simp only [UInt8.toNat_ofNat']; omega
          rw [h4, ← h1]
          congr 1
          by_cases h0 : i = 0
          · subst h0; simp [Addr.add]
          · simp [Addr.add, h0]
      · cases hb
  refine main.mono fun e W' ⟨he, h1, h2, h3, h4⟩ => ?_
  subst he
  have hstay := WideElems.Trod_stays (W' := W') laidOut (by kernel_rfl) (of_decide_eq_true (by kernel_rfl)) k0 (fun x hx => by
    cases x with
    | cell b o => exact World.cell?_of_block (w := W) (h4 b (lt0 _ hx))
    | map b => exact h4 b (lt0 _ hx)) (sp' := fun b => decide (b < W.heap.size)) (fun x hx => by simpa using lt0 x hx)
  exact ⟨_, rfl, _, _, _, [], _, [], hW', trodAll_mk1 (shut_bool Tryz.underlying4 _), (trodAll_cons_mk hstay trodAll_mk0), rfl, ⟨h1, h2, fun i hi => by rw [h4 i hi]; split <;> simp_all⟩, fun h => by cases h⟩

theorem row_holds : Rows.AngleWholeSaid :=
  OpenClaim.holds_of_wide 4 Tryz.f4 rfl rfl rfl rfl rfl rfl rfl ⟨rfl, rfl, rfl, rfl, rfl⟩ rfl rfl rfl rfl rfl (by kernel_rfl) Tryz.func4 (by kernel_rfl)
    (of_decide_eq_true (by kernel_rfl)) (by unfold Func.isWrapper; first | (rw [if_pos (by decide +kernel)]; kernel_rfl) | (rw [if_neg (by decide +kernel)]; exact ⟨rfl, rfl⟩))
    (fun os started H enc _ => lifted os started H enc)
theorem card_holds : Rows.AngleWholeCardSaid :=
  Claim7.holds_tied_plain_at .later [] [.data, .data, .data, .data, .sentinel, .sentinel, .pinned, .pinned] true (true, "f2b15078f5ac0d3f1bc9b55d4a4774718879b4738ec39a0d4eff65a5943ecb85") true row_holds (fun _ h => by cases h) (by kernel_rfl) (fun _ h => by cases h) angleWhole_row_tie rfl ⟨rfl, rfl⟩ (by kernel_rfl) rfl
    (fun f fn hf hfn => by
      obtain rfl : f = 4 := Option.some.inj ((show Tryz.prog.funcNamed "hexapla/hexaplalaw14.AngleWhole" = some 4 by kernel_rfl).symm.trans hf) |>.symm
      obtain rfl : fn = Tryz.f4 := (Option.some.inj (Tryz.func4.symm.trans hfn)).symm
      exact ⟨by kernel_rfl, fun j t ht => by
        rw [Tryz.params4] at ht
        have hm : t ∈ [22] := by simpa using Array.mem_of_getElem? ht
        have hall : ([22].all fun u => !Tryz.prog.wantsStandIn u) = true := by kernel_rfl
        exact (show Tryz.prog.wantsStandIn t = false by simpa using List.all_eq_true.1 hall t hm)⟩)
    (by kernel_rfl)
#print axioms card_holds
end Go.Proofs.YtlmbbchfaoeebaaGreatDoor
