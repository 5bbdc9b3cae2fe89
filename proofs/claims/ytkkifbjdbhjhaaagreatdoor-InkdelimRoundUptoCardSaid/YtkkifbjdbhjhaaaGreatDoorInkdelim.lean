/-
  InkdelimRound: what delim prints of a tree is read back as the events of that tree, and the document walk of the tree gives the same events: THE TIED CARD OF THE SECOND FORM IS PROVED (Rows.InkdelimRoundUptoCardSaid). Its conditions: what the argument reads is of bulk at most 1048576; the package-level variables that its row lists hold what the text of the program lays (the card ties them).
-/
import Derived.Test.YtkkifbjdbhjhaaaGreatDoorV28
import Derived.Test.YtkkifbjdbhjhaaaGreatDoorShelf
import Derived.Test.YtkkifbjdbhjhaaaGreatDoorTie
import Derived.Test.YtkkifbjdbhjhaaaGreatDoorCards
import Derived.ProofKit
import Derived.Deep.DeepHandedRow
import Derived.OpenShut
import Derived.LaidMore
import Derived.Lay
import Derived.SevenTiedAt
import Derived.Stop.Joined
import Derived.Stop.LaidErr
import Derived.Lib.LaidU8T
import Derived.Lib.LaidTab
import Derived.Shelf.Vars
import Derived.Below
import Derived.Carry
set_option linter.unusedVariables false
set_option linter.unusedSimpArgs false
/- The row, and its tied card. -/
namespace Go.Proofs.YtkkifbjdbhjhaaaGreatDoor
open Go Go.Proofs Go.ChangeShapes Go.WideShapes Go.ChangeAt Go.RowKit
set_option linter.unusedVariables false
set_option maxRecDepth 100000

theorem own : ownKnob Tryz.prog.godebug = none := by kernel_rfl
theorem laidOut : laidOutB Tryz.prog = true := by kernel_rfl
abbrev laid : List (String × DataW Unit) := Rows.inkdelimRoundUptoRow.laid

theorem iface_cell {H : Type} {enc : TypeId × Value → H} {P : Program} {w : World} {base : Nat} {sp : Nat → Bool} {held : Bool} {fuel : Nat} {t : TypeId} {ms : Array (String × TypeId)} {cs : List Value} {x : DataW H × List MemPlace}
    (hu : P.underlying t = some (.interface ms)) (h : DataW.trod enc P w base sp held fuel t cs = some x) : cs = [.nilIface] ∨ ∃ u v, cs = [.iface u v] := by
  cases fuel with
  | zero => simp [DataW.trod] at h
  | succ n =>
    unfold DataW.trod at h
    rw [hu] at h
    split at h <;> simp_all

theorem err_cell {W : World} {n : String} {d : DataW Unit} {g : Nat} (hg : Tryz.prog.globalNamed n = some g) (ht : (Tryz.prog.globals[g]?).map (·.type) = some 92) (h : Lib.VarReads Tryz.prog W n d) :
    ∃ ev, W.cell? ⟨g, 0, none⟩ = some ev ∧ (ev = .nilIface ∨ ∃ te pe, ev = .iface te pe) := by
  obtain ⟨g', t, cs, fuel, p, hg', ht', hv, hd⟩ := h
  obtain rfl := Option.some.inj (hg.symm.trans hg')
  obtain rfl := Option.some.inj (ht.symm.trans ht')
  have hc := World.var?_cell hg hv 0
  obtain ⟨l⟩ := cs
  rcases iface_cell (ms := _) (show Tryz.prog.underlying 92 = some (.interface _) from Tryz.underlying92) hd with e | ⟨u, v, e⟩
  · simp only at e; subst e
    exact ⟨.nilIface, by rw [hc]; rfl, .inl rfl⟩
  · simp only at e; subst e
    exact ⟨.iface u v, by rw [hc]; rfl, .inr ⟨u, v, rfl⟩⟩

theorem tabs_of {W : World} (hL : laidMet Tryz.prog laid W) (hsh : W.ShapedOpen Tryz.prog) : Hx.TabsOk W := by
  have r1 : Lib.VarReads Tryz.prog W "unicode/utf8.first" Lib.firstData := by
    have h := Lib.laidMet.reads hL (n := "unicode/utf8.first") (d := Rows.laid_unicode_utf8_first) (by simp [laid, Rows.inkdelimRoundUptoRow])
    rwa [show Rows.laid_unicode_utf8_first = Lib.firstData by kernel_rfl] at h
  have r2 : Lib.VarReads Tryz.prog W "unicode/utf8.acceptRanges" Lib.acceptData := by
    have h := Lib.laidMet.reads hL (n := "unicode/utf8.acceptRanges") (d := Rows.laid_unicode_utf8_acceptRanges) (by simp [laid, Rows.inkdelimRoundUptoRow])
    rwa [show (Rows.laid_unicode_utf8_acceptRanges : DataW Unit) = Lib.acceptData by kernel_rfl] at h
  refine ⟨?_, ?_, ?_, ?_, ?_⟩
  · exact utf8Tabs_of_readsT (U8Types.of196 Tryz.laysValid) ⟨by kernel_rfl, by kernel_rfl, by kernel_rfl, by kernel_rfl, by kernel_rfl, by kernel_rfl, by kernel_rfl⟩ r1 r2
  · exact cell_of_shapedOpen_int (g := 0) (t := 3) (zero := #[.int .i64 0]) hsh (of_decide_eq_true (by kernel_rfl)) (by kernel_rfl) rfl (by kernel_rfl) (by kernel_rfl) Tryz.underlying3
  · exact err_cell (by kernel_rfl) (by kernel_rfl) (Lib.laidMet.reads hL (n := "strconv.ErrSyntax") (d := Rows.laid_strconv_ErrSyntax) (by simp [laid, Rows.inkdelimRoundUptoRow]))
  · exact err_cell (by kernel_rfl) (by kernel_rfl) (Lib.laidMet.reads hL (n := "strconv.ErrRange") (d := Rows.laid_strconv_ErrRange) (by simp [laid, Rows.inkdelimRoundUptoRow]))
  · have h := hL.tail.tail
    have e : (Rows.laid_internal_strconv_uint64pow10 : DataW Unit) = Lib.tabData .u64 Lib.pow10Tab := by kernel_rfl
    rw [e] at h
    exact Lib.tabIs_of_head (g := 6) (t := 223) (by kernel_rfl) (by kernel_rfl) Tryz.underlying223 Tryz.underlying184 (by kernel_rfl) (by kernel_rfl) h

/-- the tables stand in every world that is the old one below its end -/
theorem tabs_grow {W w : World} (h : Hx.TabsOk W) (hs : W.heap.size ≤ w.heap.size) (hb : ∀ b, b < W.heap.size → w.heap[b]? = W.heap[b]?) : Hx.TabsOk w := by
  have cell : ∀ b off v, W.cell? ⟨b, off, none⟩ = some v → w.cell? ⟨b, off, none⟩ = some v := by
    intro b off v hc
    have hlt : b < W.heap.size := by
      rcases Nat.lt_or_ge b W.heap.size with x | x
      · exact x
      · simp only [World.cell?, Array.getElem?_eq_none x] at hc; cases hc
    simp only [World.cell?] at hc ⊢
    rw [hb b hlt]; exact hc
  refine ⟨⟨fun c hc => cell _ _ _ (h.utf8.1 c hc), fun i hi => ⟨cell _ _ _ (h.utf8.2 i hi).1, cell _ _ _ (h.utf8.2 i hi).2⟩⟩, ?_, ?_, ?_, ?_⟩
  · obtain ⟨m, hm⟩ := h.max; exact ⟨m, cell _ _ _ hm⟩
  · obtain ⟨e, he, h2⟩ := h.err1; exact ⟨e, cell _ _ _ he, h2⟩
  · obtain ⟨e, he, h2⟩ := h.err2; exact ⟨e, cell _ _ _ he, h2⟩
  · have hp := h.pow
    have hg : Tryz.prog.globalNamed "internal/strconv.uint64pow10" = some 6 := by kernel_rfl
    unfold Lib.TabIs World.var? at hp ⊢
    rw [hg] at hp ⊢
    simp only [Option.bind_some] at hp ⊢
    have hlt : 6 < W.heap.size := by
      rcases Nat.lt_or_ge 6 W.heap.size with x | x
      · exact x
      · rw [Array.getElem?_eq_none x] at hp; cases hp
    rw [hb 6 hlt]; exact hp

/-- THE WALK, said of the kit's own call: the law answers true, and leaves all as it was -/
theorem walk (W : World) (hT : Hx.TabsOk W) (n : Sx.Nd) (hA : n.At (fun b => W.heap[b]?) W.heap.size) (ho : ∀ x ∈ Hx.evs n, Hx.okE x) :
    Calls Tryz.prog 3 #[n.sv.den (fun _ => 0)] W fun e w' => e = .returned (.bool true) ∧ w'.os = W.os ∧ w'.output = W.output ∧ W.heap.size ≤ w'.heap.size ∧ ∀ b, b < W.heap.size → w'.heap[b]? = W.heap[b]? := by
  let G : Sx.Gl := ⟨W.heap.size, fun b => W.heap[b]?, Sx.io W⟩
  have hGT : Hx.GTab (fun G' => G' = G) := by
    rintro _ rfl w h1 h2
    exact tabs_grow hT h2 h1
  have hO : Sx.OldN (fun G' => G' = G) n := by
    rintro _ rfl
    exact hA
  have hrun := (Hx.inkd_spec hGT n hO ho).goes G rfl (fun out cs => out = .ret (.bool true)) rfl (fun _ => 0) (fun _ => True) W
    ⟨Nat.le_refl _, ⟨rfl, fun _ _ => rfl⟩, ⟨fun _ => none, trivial, (fun b o h => by cases h), trivial⟩⟩
  have ha : (Sx.SV.denL (fun _ => 0) [n.sv]).toArray = #[n.sv.den (fun _ => 0)] := by simp [Sx.SV.denL]
  rw [ha] at hrun
  refine hrun.mono ?_
  rintro e w' ⟨out, cs, ρ', h1, rfl, h3, h4⟩
  have hio := h4.old.io
  refine ⟨?_, congrArg (·.1) hio, congrArg (·.2) hio, h4.size, h4.old.old⟩
  cases e <;> simp [Sx.OutRel, Sx.SV.den] at h1 ⊢
  exact h1

theorem contract (H : Type) (enc : TypeId × Value → H) (W : World) (base : Nat) (args : Array Value) (ds gs : List (DataW H)) (before : List MemPlace)
    (hval0 : ∀ (j : Nat) t v, Tryz.f3.params[j]? = some t → args[j]? = some v → Value.okWide Tryz.prog W .any base t v)
    (hW : DataW.Whole enc Tryz.prog Tryz.f3.params.toList Rows.inkdelimRoundSpec.vars false W args.toList ds gs before) (hk : Rows.uptoSmall H (ds ++ gs) = true)
    (hL : laidMetH Tryz.prog laid W) (hsh : W.ShapedOpen Tryz.prog) :
    Calls Tryz.prog 3 args W fun e W' => ∃ v, e = .returned v ∧ Rows.inkdelimRoundSpec.post enc Tryz.prog Tryz.f3 false true false false W args v W' := by
  have hval : ∀ (j : Nat) t v, Tryz.f3.params[j]? = some t → args[j]? = some v → Value.okWide Tryz.prog W .any base t v := hval0
  have hW' := hW
  obtain ⟨p, q, hA0, hV, rfl, hfz, hnd⟩ := hW
  have hA : DataW.TrodAll enc Tryz.prog W 0 (fun _ => true) true Tryz.f3.params.toList args.toList ds p := hA0
  rw [Tryz.params3] at hA hval
  obtain ⟨v0, vs0, d0, ds0, p0, q0, hargs, rfl, rfl, h0, r0⟩ := trodAll_cons hA
  obtain ⟨rfl, rfl, rfl⟩ := trodAll_nil r0
  obtain rfl : args = #[v0] := by cases args; simp_all
  obtain ⟨rfl, rfl⟩ := trodVars_none hV
  have hT : Hx.TabsOk W := by
    have hL2 : laidMet Tryz.prog laid W := by rw [MakeChecks.laidMetH_plain _ _ _ (by kernel_rfl)] at hL; exact hL
    exact tabs_of hL2 hsh
  have hok := hval 0 24 v0 rfl rfl
  have k0 := h0
  have lt0 : ∀ x ∈ p0, x.block < W.heap.size := by obtain ⟨m, hm⟩ := k0; exact DataW.trod_lt m _ _ _ hm
  have hb : Rows.uptoBulk d0 ≤ 1048576 := by
    have h := of_decide_eq_true hk
    simp only [List.append_nil, Rows.uptoBulkAll] at h
    omega
  obtain ⟨fuel, hf⟩ := h0
  obtain ⟨f0, f1, f2, f3, hu, _⟩ := node_fields
  obtain ⟨cs, rfl⟩ : ∃ cs, v0 = .agg cs := by
    unfold Value.okWide at hok
    rw [hu] at hok
    obtain ⟨cs, h, _⟩ := hok
    exact ⟨cs, h⟩
  obtain ⟨n, hn, hAt, htx⟩ := node_of W fuel _ _ hf
  have hcs : Value.agg cs = n.sv.den (fun _ => 0) := by
    have h : cs.toList = Sx.SV.denL (fun _ => 0) n.row := by simpa [Value.cells] using hn
    simp only [Sx.Nd.sv, Sx.SV.den, ← h]
  have ho : ∀ x ∈ Hx.evs n, Hx.okE x := fun x hx => by
    have h := htx x hx
    simp only at h
    exact ⟨by omega, by omega, (fun _ => by omega), trivial⟩
  have main := walk W hT n hAt ho
  rw [← hcs] at main
  refine main.mono fun e W' ⟨he, h1, h2, h3, h4⟩ => ?_
  subst he
  have hstay := WideElems.Trod_stays (W' := W') laidOut (by kernel_rfl) (of_decide_eq_true (by kernel_rfl)) k0 (fun x hx => by
    cases x with
    | cell b o => exact World.cell?_of_block (w := W) (h4 b (lt0 _ hx))
    | map b => exact h4 b (lt0 _ hx)) (sp' := fun b => decide (b < W.heap.size)) (fun x hx => by simpa using lt0 x hx)
  exact ⟨_, rfl, _, _, _, [], _, [], hW', trodAll_mk1 (shut_bool Tryz.underlying4 _), (trodAll_cons_mk hstay trodAll_mk0), rfl, ⟨h1, h2, fun i hi => by rw [h4 i hi]; split <;> simp_all⟩, fun h => by cases h⟩

theorem wit {H : Type} {enc : TypeId × Value → H} {C : Checked} {os : Os} {f : FuncId} {fn : Func} {s : OpenSpec} {conds : List PathCond} {apart : Bool} {laid : List (String × DataW Unit)} (modest : Bool) (w0 : World) (args : Array Value) (hos : w0.os = os)
    (hsh : (w0.forCall (fun _ _ => 0) ⟨#[], args, []⟩).Shaped C.prog)
    (hok : Input.okWideB C.prog (w0.forCall (fun _ _ => 0) ⟨#[], args, []⟩) f ⟨#[], args, []⟩ = true)
    (hrow : s.preRow enc C.prog fn conds apart laid (w0.forCall (fun _ _ => 0) ⟨#[], args, []⟩).memory args) :
    ∃ (w : World) (tape : Tape) (i : Input), w.os = os ∧ (w.forCall tape i).Shaped C.prog ∧ i.vars = [] ∧ Input.okWide C.prog (w.forCall tape i) .any w.heap.size f i ∧
      s.preRow enc C.prog fn conds apart laid (w.forCall tape i).memory i.args ∧ ({ modest := modest } : Assume).holds C.prog (lone (Frame.enter C.prog f i.args .normal) [] (w.forCall tape i)) :=
  ⟨w0, fun _ _ => 0, ⟨#[], args, []⟩, hos, hsh, (Input.okWide_of_okWideB (base := 0) hok).1, (Input.okWide_of_okWideB hok).2, hrow, by
    simp only [Assume.holds]
    exact ⟨by simp, by simp, fun _ => Modest.zero, by simp, by simp⟩⟩
def arg0 : Array Value := #[.agg #[.int .i64 4, .string ⟨#[]⟩, .string ⟨#[]⟩, .slice none 0 0]]
theorem lifted (os : Os) (started : os.Started) (H : Type) (enc : TypeId × Value → H) (F : Stop.Interp) :
    ReturnsInHanded {} Tryz.checked os 3 .any ((Rows.OpenSpec.upto Rows.inkdelimRoundSpec).preRow enc Tryz.prog Tryz.f3 Rows.inkdelimRoundUptoRow.domain false Rows.inkdelimRoundUptoRow.laid) (((Rows.OpenSpec.upto Rows.inkdelimRoundSpec).at F).post enc Tryz.prog Tryz.f3 false true false false) := by
  refine returnsInHanded_of_row (C := Tryz.checked) (s := Rows.OpenSpec.upto Rows.inkdelimRoundSpec) own started (by kernel_rfl) Tryz.func3
    (wit (enc := enc) (C := Tryz.checked) (os := os) false (World.laidAll Tryz.prog os laid) arg0 (World.laidAll_os _ _ _) (World.shaped_of_ZipB (by kernel_rfl) (by kernel_rfl)) (by kernel_rfl)
      (OpenSpec.preRow_of_cond 8 (x := ([.agg [.lit (.int .i64 4), .lit (.string []), .lit (.string []), .nil]], [], [])) (by kernel_rfl) (by kernel_rfl) (fun k hk => by cases hk; kernel_rfl) (by kernel_rfl)
        (by rw [MakeChecks.laidMetH_plain _ _ _ (by kernel_rfl)]; exact laidMet_laidAll _ (by kernel_rfl) (by kernel_rfl)))) ?_
  intro W base args ds gs before hval hW _ hcond _ hL hsh _
  exact contract H enc W base args ds gs before hval hW (hcond _ rfl) hL hsh

theorem row_holds : Rows.InkdelimRoundUptoSaid :=
  OpenClaim.holds_of_cond 3 Tryz.f3 rfl rfl rfl rfl rfl rfl rfl ⟨rfl, rfl, rfl, rfl, rfl⟩ rfl rfl rfl rfl rfl (by kernel_rfl) Tryz.func3 (by kernel_rfl)
    (of_decide_eq_true (by kernel_rfl)) (by unfold Func.isWrapper; first | (rw [if_pos (by decide +kernel)]; kernel_rfl) | (rw [if_neg (by decide +kernel)]; exact ⟨rfl, rfl⟩))
    (fun os started H enc _ F => by rw [OpenClaim.pre_eq_preRow]; exact lifted os started H enc F)
theorem card_holds : Rows.InkdelimRoundUptoCardSaid :=
  Claim7.holds_tied_plain_at .later [] _ _ _ _ row_holds (fun _ h => by cases h) (by kernel_rfl) (fun _ h => by cases h) inkdelimRoundUpto_row_tie rfl ⟨rfl, rfl⟩ (by kernel_rfl) rfl
    (fun f fn hf hfn => by
      obtain rfl : f = 3 := Option.some.inj ((show Tryz.prog.funcNamed "hexapla/hexaplalaw18.InkdelimRound" = some 3 by kernel_rfl).symm.trans hf) |>.symm
      obtain rfl : fn = Tryz.f3 := (Option.some.inj (Tryz.func3.symm.trans hfn)).symm
      exact ⟨by kernel_rfl, fun j t ht => by
        rw [Tryz.params3] at ht
        have hm : t ∈ [24] := by simpa using Array.mem_of_getElem? ht
        have hall : ([24].all fun u => !Tryz.prog.wantsStandIn u) = true := by kernel_rfl
        exact (show Tryz.prog.wantsStandIn t = false by simpa using List.all_eq_true.1 hall t hm)⟩)
    (by kernel_rfl)
#print axioms card_holds
end Go.Proofs.YtkkifbjdbhjhaaaGreatDoor
