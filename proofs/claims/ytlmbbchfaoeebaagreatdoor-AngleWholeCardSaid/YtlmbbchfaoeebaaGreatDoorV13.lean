/-
  Part of a proof.
-/
import Derived.Test.YtlmbbchfaoeebaaGreatDoorV12
import Derived.Test.YtlmbbchfaoeebaaGreatDoorV03
import Derived.Test.YtlmbbchfaoeebaaGreatDoorV06
import Derived.Test.YtlmbbchfaoeebaaGreatDoorV04
set_option linter.unusedVariables false
set_option linter.unusedSimpArgs false
/- names.Scope: Open, Close, Bind: the walks. -/
namespace Hx
open Go Sx Go.Proofs
set_option maxRecDepth 100000
set_option maxHeartbeats 4000000
set_option linter.unusedVariables false
set_option linter.unusedSimpArgs false
variable {GOk : Gl → Prop}
section
variable {Pd : Type} {X : Cx Pd} {cs rest : List (Chunk Pd)}
/-- a map that is loaded -/
theorem load_map (hty : X.ty.ok X.P) {id idx n j g : Nat} {T t type : TypeId} {ti : TI} {a : Operand} {p wr : Bool} {xs : List (Option Nat)} {cont : Out → List (Chunk Pd) → Nat → Prop}
    (hp : pickC [id] cs = some ([.arr p wr id T encM xs], rest)) (hpr : p = true) (ht : X.ty t = some ti) (hta : ti.d.isAgg = false) (hx : xs[idx]? = some (some g))
    (hat : (Chunk.at_ j g : Chunk Pd) ∈ cs) (hk : cont (.ret (.map j)) cs n) : NodeX X (.load t a) type [.eptr id 1 idx 0] cs n cont := by
  intro ρ F w ρe o ho hty' hv hs
  obtain ⟨dst, op, ty', pos, after, guard⟩ := o
  simp only at ho; subst ho
  have ha : ρe a = (SV.eptr id 1 idx 0).den ρ := by simpa [Op.operands, SV.denL] using hv
  have hrun := load_arr_run hty ht wideM (hs.perm (pick_one hp)) hpr hx (f := 0) (by simp [rowRoom, hta])
  simp only [execOp, ha, Sem.run_bind, hrun, Result.andThen_ok, Sem.run_pure, Upon]
  refine ⟨.map j, cs, n, ρ, ?_, Nat.le_refl _, Ext.refl _ _, hs, hk⟩
  have := hs.at_ hat
  simp [rowVal, hta, encM, SV.ofLit, SV.den, Sx.Lit.val, this]
theorem src_map {id j g : Nat} {T : TypeId} (hg : cget cs id = some (T, [.map j])) (hat : (Chunk.at_ j g : Chunk Pd) ∈ cs) : Src X 1 (.slice id 1 0 1 1) cs encM [some g] :=
  src_cells wideM hg (fun ρ F w hs => by simp [SV.denL, SV.den, encM, Sx.Lit.val, hs.at_ hat]) rfl
 end
theorem refsOf_cons (g : Nat) (m : List (ByteArray × ByteArray)) (l : List (Nat × List (ByteArray × ByteArray))) : refsOf ((g, m) :: l) = refsOf l ++ [some g] := by simp [refsOf]
theorem refsOf_len (l : List (Nat × List (ByteArray × ByteArray))) : (refsOf l).length = l.length := by simp [refsOf]
theorem scp_new_spec : Triple (BB Ip GOk) 26 0 1 [] [] (fun K => K (.ret (.ptr 0 0)) [.abs (.scp []) [0]]) := by
  refine triple_of BB_ok (tb := ty) rfl (n0 := 0) (fun _ : Unit => _) pl26 Tryz.call26 Tryz.func26 rfl (by kernel_rfl) (Nat.le_of_ble_eq_true rfl) (by decide) rfl pre_none ?_
  rintro G hG K hK W bi bc bs bk bu bb bo bg bl bp bn be Ncond Nob Nop Nloop Nscope hN Nfin hf _ _
  cbv
  exact hf _ _ (fin_noArr true 5 90 encM [] (fin_cput 0 [.vec false 5 1 0 0 0] rfl (fun _ => rfl) (fin_close rfl (.maps []) [6] [] [] rfl rfl (fin_close rfl (.scp []) [0] [5, 6] _ ⟨false, 0, 0, 0, [], [], ⟨fun _ => rfl, Nat.le_refl _, Nat.le_refl _, rfl⟩, rfl, Nat.zero_le _, rfl⟩ rfl (fin_ [0] rfl rfl hK)))))
theorem scp_open_spec (l : List (List (ByteArray × ByteArray))) (hl : l.length < 900000) : Triple (BB Ip GOk) 223 1 1 [.ptr 0 0] [.abs (.scp l) [0]] (fun K => K (.ret (.tuple [])) [.abs (.scp ([] :: l)) [0]]) := by
  refine triple_of BB_ok (tb := ty) rfl (n0 := 3) (fun y : {cs' // Tm (.scp l) cs'} => csRen (sg [0] 1) y.1 ++ []) pl223 Tryz.call223 Tryz.func223 rfl (by kernel_rfl) (Nat.le_of_ble_eq_true rfl) (by decide) rfl (pre_open rfl rfl rfl) ?_
  rintro G hG K hK W bi bc bs bk bu bb bo bg bl bp bn be Ncond Nob Nop Nloop Nscope hN Nfin hf _ ⟨cs', hT⟩
  obtain ⟨p, lo, len, cap, xs, gl, hv, hgl, hle, rfl⟩ := id hT
  have hlen : gl.length = len := by have := hv.length; rw [refsOf_len] at this; exact this
  have hll : l.length = gl.length := by rw [← hgl]; simp
  cbv
  repeat' (first | exact True.intro | with_reducible refine dup ?_ | refine And.intro ?_ ?_)
  all_goals
    refine op_ hN (op_name 3 rfl fun g => ?_)
    refine append_vec (new := [some g]) (z := none) ty_ok rfl rfl rfl rfl (fun k => by simp) rfl rfl wideM rfl rfl (src_map rfl (List.Mem.head _)) hv.pr hv.room hv.fits (by simp; omega) (by decide) ?_
    intro p' lo' m' cap' xs' hm' e1 e2 e3 e4
    cbv
    repeat' (first | exact True.intro | with_reducible refine dup ?_ | refine And.intro ?_ ?_)
    all_goals
      exact hf _ _ (fin_close rfl (.maps ((g, []) :: gl)) [9] [3, 2] [.at_ 1 g, .map 1 [], .abs (.maps gl) [2]] ⟨[], rfl, ⟨List.nodup_nil, Nat.zero_le _, (fun x hx => nomatch hx)⟩, rfl⟩ rfl
        (fin_close rfl (.scp ([] :: l)) [0] [5, 9] _ ⟨p', lo', m', cap', xs', (g, []) :: gl, ⟨e1, e2, e3, by rw [e4, hv.eq, refsOf_cons]⟩, by simp [hgl], by simp; omega, rfl⟩ rfl (fin_ [] rfl rfl hK)))
theorem scp_close_spec (l : List (List (ByteArray × ByteArray))) : Triple (BB Ip GOk) 225 1 1 [.ptr 0 0] [.abs (.scp l) [0]] (fun K => ∀ e, K (.ret (.int .i64 e)) [.abs (.scp l.tail) [0]]) := by
  refine triple_of BB_ok (tb := ty) rfl (n0 := 3) (fun y : {cs' // Tm (.scp l) cs'} => csRen (sg [0] 1) y.1 ++ []) pl225 Tryz.call225 Tryz.func225 rfl (by kernel_rfl) (Nat.le_of_ble_eq_true rfl) (by decide) rfl (pre_open rfl rfl rfl) ?_
  rintro G hG K hK W bi bc bs bk bu bb bo bg bl bp bn be Ncond Nob Nop Nloop Nscope hN Nfin hf _ ⟨cs', hT⟩
  obtain ⟨p, lo, len, cap, xs, gl, hv, hgl, hle, rfl⟩ := id hT
  have hlen : gl.length = len := by have := hv.length; rw [refsOf_len] at this; exact this
  cases gl with
  | nil =>
    simp only [List.map_nil] at hgl
    subst hgl
    have hl0 : len = 0 := hlen.symm
    subst hl0
    cbv
    refine cond_T hN (by rw [ceq hN]; rfl) ?_
    cbv
    exact hf _ _ (fin_close rfl (.scp []) [0] [1, 2] _ hT rfl (fin_ [] rfl rfl (hK 21)))
  | cons x gl2 =>
    obtain ⟨g, m⟩ := x
    simp only [List.map_cons] at hgl
    subst hgl
    have hlen2 : len = gl2.length + 1 := by simpa using hlen.symm
    have hv2 : VecOk p lo gl2.length cap xs (refsOf gl2) := by
      refine ⟨hv.pr, hv.room, by have := hv.fits; omega, ?_⟩
      have := congrArg (List.take gl2.length) hv.eq
      rw [List.take_take, Nat.min_eq_left (by omega), refsOf_cons] at this
      rw [this, List.take_append_of_le_length (by rw [refsOf_len]; exact Nat.le_refl _)]
      exact List.take_of_length_le (by rw [refsOf_len]; exact Nat.le_refl _)
    have hfits := hv.fits
    simp only [List.length_cons, List.length_map] at hle
    have hsub : bi .sub .i64 (Int.ofNat len) 1 = Int.ofNat gl2.length := by rw [isub hN (by simp; omega) (by simp; omega)]; simp; omega
    have hob : obsP [.le3 0 (bi .sub .i64 (Int.ofNat len) 1) (Int.ofNat cap)] := ⟨⟨by simp, by rw [hsub]; simp, by rw [hsub]; simp; omega⟩, trivial⟩
    have hb1 : bo lo 0 cap = lo := by rw [bo_ hN]; simp [sloff]
    have hb2 : bg (bi .sub .i64 (Int.ofNat len) 1) 0 = gl2.length := by rw [hsub, bg_ hN]; simp
    have hb3 : bl cap 0 = cap := by rw [bl_ hN]; simp
    simp only [List.map_cons, List.tail_cons] at hK
    obtain ⟨ll, hll⟩ : ∃ ll, gl2.length = ll := ⟨_, rfl⟩
    rw [hll] at hb2
    cbv
    refine cond_F hN (by rw [ceq hN]; simp; omega) ?_
    cbv
    repeat' (first | exact True.intro | with_reducible refine dup ?_ | refine And.intro ?_ ?_ | (refine ob_ hN hob ?_; try cbv))
    all_goals
      simp only [hb1, hb2, hb3]
      refine hf _ _ (fin_open rfl 2 4 100 rfl rfl rfl rfl rfl ?_)
      rintro _ ⟨es, hes, hm, rfl⟩
      exact fin_close rfl (.scp (gl2.map (·.2))) [0] [1, 101] _ ⟨p, lo, ll, cap, xs, gl2, hll ▸ hv2, rfl, by rw [List.length_map]; omega, rfl⟩ rfl (fin_ [] rfl rfl (hK 0))
theorem scp_bind_spec (hTab : GTab GOk) (l : List (List (ByteArray × ByteArray))) (k v : ByteArray) (hvs : v.size ≤ 48) : Triple (BB Ip GOk) 224 1 1 [.ptr 0 0, .str k, .str v] [.abs (.scp l) [0]] (fun K => ∀ e l', (e, l') = scpBind l k v → K (.ret (.int .i64 e)) [.abs (.scp l') [0]]) := by
  refine triple_of BB_ok (tb := ty) rfl (n0 := 3) (fun y : {cs' // Tm (.scp l) cs'} => csRen (sg [0] 1) y.1 ++ []) pl224 Tryz.call224 Tryz.func224 rfl (by kernel_rfl) (Nat.le_of_ble_eq_true rfl) (by decide) rfl (pre_open rfl rfl rfl) ?_
  rintro G hG K hK W bi bc bs bk bu bb bo bg bl bp bn be Ncond Nob Nop Nloop Nscope hN Nfin hf _ ⟨cs', hT⟩
  obtain ⟨p, lo, len, cap, xs, gl, hv, hgl, hle, rfl⟩ := id hT
  have hlen : gl.length = len := by have := hv.length; rw [refsOf_len] at this; exact this
  cases gl with
  | nil =>
    simp only [List.map_nil] at hgl
    subst hgl
    have hl0 : len = 0 := hlen.symm
    subst hl0
    cbv
    refine cond_T hN (by rw [ceq hN]; rfl) ?_
    cbv
    exact hf _ _ (fin_close rfl (.scp []) [0] [1, 2] _ hT rfl (fin_ [] rfl rfl (hK 1 _ rfl)))
  | cons x gl2 =>
    obtain ⟨g, m⟩ := x
    simp only [List.map_cons] at hgl
    obtain ⟨r, hr⟩ : ∃ r, gl2.map (·.2) = r := ⟨_, rfl⟩
    rw [hr] at hgl
    subst hgl
    have hlen2 : len = gl2.length + 1 := by simpa using hlen.symm
    have hfits := hv.fits
    have hroom := hv.room
    have hpt : p = true := by
      cases p with
      | true => rfl
      | false => have := hv.pr rfl; omega
    simp only [List.length_cons] at hle
    have hrl : r.length = gl2.length := by rw [← hr, List.length_map]
    have hx : xs[lo + gl2.length]? = some (some g) := by
      have h5 : ((xs.drop lo).take len)[gl2.length]? = some (some g) := by rw [hv.eq, refsOf_cons, List.getElem?_append_right (by rw [refsOf_len]; exact Nat.le_refl _), refsOf_len, Nat.sub_self]; rfl
      rw [List.getElem?_take, if_pos (by omega), List.getElem?_drop] at h5
      exact h5
    have hsub : bi .sub .i64 (Int.ofNat len) 1 = Int.ofNat gl2.length := by rw [isub hN (by simp; omega) (by simp; omega)]; simp; omega
    have hidx : bp lo (bi .sub .i64 (Int.ofNat len) 1) = lo + gl2.length := by rw [hsub, bp_ hN]; simp
    have hob : obsP [.inb (bi .sub .i64 (Int.ofNat len) 1) (Int.ofNat len), .tru p] := ⟨⟨by rw [hsub]; simp, by rw [hsub]; simp; omega⟩, hpt, trivial⟩
    obtain ⟨bad, hbad⟩ : ∃ b, ((decide (k ≠ sEmp) && !localOk k) || ((decide (v ≠ sEmp) && !spaceOk v) || (decide (v = sEmp) && decide (k ≠ sEmp)))) = b := ⟨_, rfl⟩
    simp only [scpBind] at hK
    rw [hbad] at hK
    have hKe : bad = true → K (.ret (.int .i64 1)) [.abs (.scp (m :: r)) [0]] := fun h => hK 1 _ (by rw [if_pos h])
    have hKn : bad = false → ∀ e l', (e, l') = (if (lookB m k).isSome then (6, m :: r) else if m.length ≥ 10 then (7, m :: r) else (0, (m ++ [(k, v)]) :: r)) → K (.ret (.int .i64 e)) [.abs (.scp l') [0]] := fun h e l' he => hK e l' (by rw [if_neg (by rw [h]; decide)]; exact he)
    clear hK
    have hbad : ((bs .neq k ⟨#[]⟩ && !localOk k) || ((bs .neq v ⟨#[]⟩ && !spaceOk v) || (bs .eql v ⟨#[]⟩ && bs .neq k ⟨#[]⟩))) = bad := by
      rw [← hbad, sne_eq hN, sne_eq hN, seq_eq hN]
      by_cases hk0 : k = ⟨#[]⟩ <;> by_cases hv0 : v = ⟨#[]⟩ <;> simp [sEmp, hk0, hv0]
    cbv
    refine cond_F hN (by rw [ceq hN]; simp; omega) ?_
    cbv
    refine cond_ hN ?_ ?_ <;> intro h1
    ·
      rw [h1] at hbad
      cbv
      refine op_ hN (call_ (local_spec k) hG [] rfl rfl rfl rfl rfl ?_)
      intro c hc
      rw [← hc] at hbad
      clear hc
      cases c with
      | false =>
        cbv
        refine cond_T hN rfl ?_
        cbv
        exact hf _ _ (fin_close rfl (.scp (m :: r)) [0] [1, 2] _ hT rfl (fin_ [] rfl rfl (hKe (by rw [← hbad]; rfl))))
      | true =>
        cbv
        refine cond_F hN rfl ?_
        cbv
        refine cond_ hN ?_ ?_ <;> intro h2
        ·
          have h3 : bs .eql v ⟨#[]⟩ = false := by rw [sne_eq hN] at h2; rw [seq_eq hN]; simpa using h2
          rw [h2, h3] at hbad
          cbv
          refine op_ hN (call_ (space_spec hTab v (by omega)) hG [] rfl rfl rfl rfl rfl ?_)
          intro d hd
          rw [← hd] at hbad
          clear hd
          cases d with
          | false =>
            cbv
            refine cond_T hN rfl ?_
            cbv
            exact hf _ _ (fin_close rfl (.scp (m :: r)) [0] [1, 2] _ hT rfl (fin_ [] rfl rfl (hKe (by rw [← hbad]; rfl))))
          | true =>
            cbv
            refine cond_F hN rfl ?_
            cbv
            refine cond_F hN h3 ?_
            have hKn := hKn (by rw [← hbad]; rfl)
            clear hKe hbad
            cbv
            repeat' (first | exact True.intro | with_reducible refine dup ?_ | refine And.intro ?_ ?_)
            all_goals
              refine ob_ hN hob ?_
              cbv
              repeat' (first | exact True.intro | with_reducible refine dup ?_ | refine And.intro ?_ ?_)
              all_goals
                refine op_ hN (op_open rfl 2 4 rfl rfl rfl rfl ?_)
                rintro _ ⟨es, hes, ⟨hm1, hm2, hm3⟩, rfl⟩
                refine load_map ty_ok rfl hpt rfl rfl (by rw [hidx]; exact hx) (List.Mem.head _) ?_
                cbv
                repeat' (first | exact True.intro | with_reducible refine dup ?_ | refine And.intro ?_ ?_)
                all_goals
                  refine op_ hN (lookupS_ ty_ok (l := m) k rfl rfl rfl rfl rfl hm1 (map_at rfl hes) ?_)
                  intro u b hb _
                  cases b with
                  | true =>
                    have hb : lookB m k = some u := hb
                    rw [hb] at hKn
                    cbv
                    refine cond_T hN rfl ?_
                    cbv
                    exact hf _ _ (fin_close rfl (.maps ((g, m) :: gl2)) [2] [16, 17] [.at_ 1 g, .map 1 es, .abs (.maps gl2) [2]] ⟨es, hes, ⟨hm1, hm2, hm3⟩, rfl⟩ rfl (fin_close rfl (.scp (m :: r)) [0] [1, 2] _ hT rfl (fin_ [] rfl rfl (hKn 6 _ rfl))))
                  | false =>
                    have hb : lookB m k = none := hb
                    rw [hb] at hKn
                    cbv
                    refine cond_F hN rfl ?_
                    cbv
                    refine op_ hN (maplen_ ty_ok rfl rfl rfl ?_)
                    intro q hq
                    have hqm : q = m.length := by rw [hq, hes]; simp [bindL]
                    cbv
                    refine cond_ hN ?_ ?_ <;> intro h5 <;> rw [cge hN] at h5
                    ·
                      have h5 : m.length ≥ 10 := by have : Int.ofNat q ≥ 10 := of_decide_eq_true h5; simp at this; omega
                      rw [if_neg (by decide), if_pos h5] at hKn
                      cbv
                      exact hf _ _ (fin_close rfl (.maps ((g, m) :: gl2)) [2] [16, 17] [.at_ 1 g, .map 1 es, .abs (.maps gl2) [2]] ⟨es, hes, ⟨hm1, hm2, hm3⟩, rfl⟩ rfl (fin_close rfl (.scp (m :: r)) [0] [1, 2] _ hT rfl (fin_ [] rfl rfl (hKn 7 _ rfl))))
                    ·
                      have h5 : ¬ m.length ≥ 10 := by have : ¬ Int.ofNat q ≥ 10 := of_decide_eq_false h5; simp at this; omega
                      rw [if_neg (by decide), if_neg h5] at hKn
                      have hnot : ∀ x ∈ es, x.1 ≠ Sx.Lit.str k := by
                        intro x hx2
                        rw [hes] at hx2
                        obtain ⟨y, hy, rfl⟩ := List.mem_map.1 hx2
                        intro e
                        exact lookB_not hb y hy (by simpa using e)
                      have hnd2 : ((m ++ [(k, v)]).map (·.1)).Nodup := by
                        rw [List.map_append, List.nodup_append]
                        refine ⟨hm1, by simp, ?_⟩
                        intro a ha b hb2
                        obtain ⟨y, hy, rfl⟩ := List.mem_map.1 ha
                        simp only [List.map_cons, List.map_nil, List.mem_singleton] at hb2
                        rw [hb2]
                        exact lookB_not hb y hy
                      cbv
                      refine op_ hN (update_ ty_ok (.str k) (.str v) (.inl rfl) rfl rfl rfl rfl rfl rfl (fun _ => rfl) trivial (hes ▸ bindL_keys m) hnot ?_)
                      generalize hes2 : es ++ [(Sx.Lit.str k, Sx.Lit.str v)] = es2
                      cbv
                      exact hf _ _ (fin_close rfl (.maps ((g, m ++ [(k, v)]) :: gl2)) [2] [16, 17] [.at_ 1 g, .map 1 es2, .abs (.maps gl2) [2]] ⟨es2, by rw [← hes2, hes]; simp [bindL], ⟨hnd2, by rw [List.length_append, List.length_singleton]; omega, fun x hx2 => by
                          rcases List.mem_append.1 hx2 with h | h
                          · exact hm3 x h
                          · rw [List.mem_singleton.1 h]; exact hvs⟩, rfl⟩ rfl
                        (fin_close rfl (.scp ((m ++ [(k, v)]) :: r)) [0] [1, 2] _ ⟨p, lo, len, cap, xs, (g, m ++ [(k, v)]) :: gl2, hv, by rw [← hr]; rfl, by simpa using hle, rfl⟩ rfl (fin_ [] rfl rfl (hKn 0 _ rfl))))
        ·
          have h3 : bs .eql v ⟨#[]⟩ = true := by rw [sne_eq hN] at h2; rw [seq_eq hN]; simpa using h2
          rw [h2, h3] at hbad
          cbv
          refine cond_T hN h3 ?_
          cbv
          refine cond_T hN h1 ?_
          cbv
          exact hf _ _ (fin_close rfl (.scp (m :: r)) [0] [1, 2] _ hT rfl (fin_ [] rfl rfl (hKe (by rw [← hbad]; rfl))))
    ·
      rw [h1] at hbad
      cbv
      refine cond_ hN ?_ ?_ <;> intro h2
      ·
        have h3 : bs .eql v ⟨#[]⟩ = false := by rw [sne_eq hN] at h2; rw [seq_eq hN]; simpa using h2
        rw [h2, h3] at hbad
        cbv
        refine op_ hN (call_ (space_spec hTab v (by omega)) hG [] rfl rfl rfl rfl rfl ?_)
        intro d hd
        rw [← hd] at hbad
        clear hd
        cases d with
        | false =>
          cbv
          refine cond_T hN rfl ?_
          cbv
          exact hf _ _ (fin_close rfl (.scp (m :: r)) [0] [1, 2] _ hT rfl (fin_ [] rfl rfl (hKe (by rw [← hbad]; rfl))))
        | true =>
          cbv
          refine cond_F hN rfl ?_
          cbv
          refine cond_F hN h3 ?_
          have hKn := hKn (by rw [← hbad]; rfl)
          clear hKe hbad
          cbv
          repeat' (first | exact True.intro | with_reducible refine dup ?_ | refine And.intro ?_ ?_)
          all_goals
            refine ob_ hN hob ?_
            cbv
            repeat' (first | exact True.intro | with_reducible refine dup ?_ | refine And.intro ?_ ?_)
            all_goals
              refine op_ hN (op_open rfl 2 4 rfl rfl rfl rfl ?_)
              rintro _ ⟨es, hes, ⟨hm1, hm2, hm3⟩, rfl⟩
              refine load_map ty_ok rfl hpt rfl rfl (by rw [hidx]; exact hx) (List.Mem.head _) ?_
              cbv
              repeat' (first | exact True.intro | with_reducible refine dup ?_ | refine And.intro ?_ ?_)
              all_goals
                refine op_ hN (lookupS_ ty_ok (l := m) k rfl rfl rfl rfl rfl hm1 (map_at rfl hes) ?_)
                intro u b hb _
                cases b with
                | true =>
                  have hb : lookB m k = some u := hb
                  rw [hb] at hKn
                  cbv
                  refine cond_T hN rfl ?_
                  cbv
                  exact hf _ _ (fin_close rfl (.maps ((g, m) :: gl2)) [2] [16, 17] [.at_ 1 g, .map 1 es, .abs (.maps gl2) [2]] ⟨es, hes, ⟨hm1, hm2, hm3⟩, rfl⟩ rfl (fin_close rfl (.scp (m :: r)) [0] [1, 2] _ hT rfl (fin_ [] rfl rfl (hKn 6 _ rfl))))
                | false =>
                  have hb : lookB m k = none := hb
                  rw [hb] at hKn
                  cbv
                  refine cond_F hN rfl ?_
                  cbv
                  refine op_ hN (maplen_ ty_ok rfl rfl rfl ?_)
                  intro q hq
                  have hqm : q = m.length := by rw [hq, hes]; simp [bindL]
                  cbv
                  refine cond_ hN ?_ ?_ <;> intro h5 <;> rw [cge hN] at h5
                  ·
                    have h5 : m.length ≥ 10 := by have : Int.ofNat q ≥ 10 := of_decide_eq_true h5; simp at this; omega
                    rw [if_neg (by decide), if_pos h5] at hKn
                    cbv
                    exact hf _ _ (fin_close rfl (.maps ((g, m) :: gl2)) [2] [16, 17] [.at_ 1 g, .map 1 es, .abs (.maps gl2) [2]] ⟨es, hes, ⟨hm1, hm2, hm3⟩, rfl⟩ rfl (fin_close rfl (.scp (m :: r)) [0] [1, 2] _ hT rfl (fin_ [] rfl rfl (hKn 7 _ rfl))))
                  ·
                    have h5 : ¬ m.length ≥ 10 := by have : ¬ Int.ofNat q ≥ 10 := of_decide_eq_false h5; simp at this; omega
                    rw [if_neg (by decide), if_neg h5] at hKn
                    have hnot : ∀ x ∈ es, x.1 ≠ Sx.Lit.str k := by
                      intro x hx2
                      rw [hes] at hx2
                      obtain ⟨y, hy, rfl⟩ := List.mem_map.1 hx2
                      intro e
                      exact lookB_not hb y hy (by simpa using e)
                    have hnd2 : ((m ++ [(k, v)]).map (·.1)).Nodup := by
                      rw [List.map_append, List.nodup_append]
                      refine ⟨hm1, by simp, ?_⟩
                      intro a ha b hb2
                      obtain ⟨y, hy, rfl⟩ := List.mem_map.1 ha
                      simp only [List.map_cons, List.map_nil, List.mem_singleton] at hb2
                      rw [hb2]
                      exact lookB_not hb y hy
                    cbv
                    refine op_ hN (update_ ty_ok (.str k) (.str v) (.inl rfl) rfl rfl rfl rfl rfl rfl (fun _ => rfl) trivial (hes ▸ bindL_keys m) hnot ?_)
                    generalize hes2 : es ++ [(Sx.Lit.str k, Sx.Lit.str v)] = es2
                    cbv
                    exact hf _ _ (fin_close rfl (.maps ((g, m ++ [(k, v)]) :: gl2)) [2] [16, 17] [.at_ 1 g, .map 1 es2, .abs (.maps gl2) [2]] ⟨es2, by rw [← hes2, hes]; simp [bindL], ⟨hnd2, by rw [List.length_append, List.length_singleton]; omega, fun x hx2 => by
                        rcases List.mem_append.1 hx2 with h | h
                        · exact hm3 x h
                        · rw [List.mem_singleton.1 h]; exact hvs⟩, rfl⟩ rfl
                      (fin_close rfl (.scp ((m ++ [(k, v)]) :: r)) [0] [1, 2] _ ⟨p, lo, len, cap, xs, (g, m ++ [(k, v)]) :: gl2, hv, by rw [← hr]; rfl, by simpa using hle, rfl⟩ rfl (fin_ [] rfl rfl (hKn 0 _ rfl))))
      ·
        have h3 : bs .eql v ⟨#[]⟩ = true := by rw [sne_eq hN] at h2; rw [seq_eq hN]; simpa using h2
        rw [h2, h3] at hbad
        cbv
        refine cond_T hN h3 ?_
        cbv
        refine cond_F hN h1 ?_
        have hKn := hKn (by rw [← hbad]; rfl)
        clear hKe hbad
        cbv
        repeat' (first | exact True.intro | with_reducible refine dup ?_ | refine And.intro ?_ ?_)
        all_goals
          refine ob_ hN hob ?_
          cbv
          repeat' (first | exact True.intro | with_reducible refine dup ?_ | refine And.intro ?_ ?_)
          all_goals
            refine op_ hN (op_open rfl 2 4 rfl rfl rfl rfl ?_)
            rintro _ ⟨es, hes, ⟨hm1, hm2, hm3⟩, rfl⟩
            refine load_map ty_ok rfl hpt rfl rfl (by rw [hidx]; exact hx) (List.Mem.head _) ?_
            cbv
            repeat' (first | exact True.intro | with_reducible refine dup ?_ | refine And.intro ?_ ?_)
            all_goals
              refine op_ hN (lookupS_ ty_ok (l := m) k rfl rfl rfl rfl rfl hm1 (map_at rfl hes) ?_)
              intro u b hb _
              cases b with
              | true =>
                have hb : lookB m k = some u := hb
                rw [hb] at hKn
                cbv
                refine cond_T hN rfl ?_
                cbv
                exact hf _ _ (fin_close rfl (.maps ((g, m) :: gl2)) [2] [16, 17] [.at_ 1 g, .map 1 es, .abs (.maps gl2) [2]] ⟨es, hes, ⟨hm1, hm2, hm3⟩, rfl⟩ rfl (fin_close rfl (.scp (m :: r)) [0] [1, 2] _ hT rfl (fin_ [] rfl rfl (hKn 6 _ rfl))))
              | false =>
                have hb : lookB m k = none := hb
                rw [hb] at hKn
                cbv
                refine cond_F hN rfl ?_
                cbv
                refine op_ hN (maplen_ ty_ok rfl rfl rfl ?_)
                intro q hq
                have hqm : q = m.length := by rw [hq, hes]; simp [bindL]
                cbv
                refine cond_ hN ?_ ?_ <;> intro h5 <;> rw [cge hN] at h5
                ·
                  have h5 : m.length ≥ 10 := by have : Int.ofNat q ≥ 10 := of_decide_eq_true h5; simp at this; omega
                  rw [if_neg (by decide), if_pos h5] at hKn
                  cbv
                  exact hf _ _ (fin_close rfl (.maps ((g, m) :: gl2)) [2] [16, 17] [.at_ 1 g, .map 1 es, .abs (.maps gl2) [2]] ⟨es, hes, ⟨hm1, hm2, hm3⟩, rfl⟩ rfl (fin_close rfl (.scp (m :: r)) [0] [1, 2] _ hT rfl (fin_ [] rfl rfl (hKn 7 _ rfl))))
                ·
                  have h5 : ¬ m.length ≥ 10 := by have : ¬ Int.ofNat q ≥ 10 := of_decide_eq_false h5; simp at this; omega
                  rw [if_neg (by decide), if_neg h5] at hKn
                  have hnot : ∀ x ∈ es, x.1 ≠ Sx.Lit.str k := by
                    intro x hx2
                    rw [hes] at hx2
                    obtain ⟨y, hy, rfl⟩ := List.mem_map.1 hx2
                    intro e
                    exact lookB_not hb y hy (by simpa using e)
                  have hnd2 : ((m ++ [(k, v)]).map (·.1)).Nodup := by
                    rw [List.map_append, List.nodup_append]
                    refine ⟨hm1, by simp, ?_⟩
                    intro a ha b hb2
                    obtain ⟨y, hy, rfl⟩ := List.mem_map.1 ha
                    simp only [List.map_cons, List.map_nil, List.mem_singleton] at hb2
                    rw [hb2]
                    exact lookB_not hb y hy
                  cbv
                  refine op_ hN (update_ ty_ok (.str k) (.str v) (.inl rfl) rfl rfl rfl rfl rfl rfl (fun _ => rfl) trivial (hes ▸ bindL_keys m) hnot ?_)
                  generalize hes2 : es ++ [(Sx.Lit.str k, Sx.Lit.str v)] = es2
                  cbv
                  exact hf _ _ (fin_close rfl (.maps ((g, m ++ [(k, v)]) :: gl2)) [2] [16, 17] [.at_ 1 g, .map 1 es2, .abs (.maps gl2) [2]] ⟨es2, by rw [← hes2, hes]; simp [bindL], ⟨hnd2, by rw [List.length_append, List.length_singleton]; omega, fun x hx2 => by
                      rcases List.mem_append.1 hx2 with h | h
                      · exact hm3 x h
                      · rw [List.mem_singleton.1 h]; exact hvs⟩, rfl⟩ rfl
                    (fin_close rfl (.scp ((m ++ [(k, v)]) :: r)) [0] [1, 2] _ ⟨p, lo, len, cap, xs, (g, m ++ [(k, v)]) :: gl2, hv, by rw [← hr]; rfl, by simpa using hle, rfl⟩ rfl (fin_ [] rfl rfl (hKn 0 _ rfl))))
end Hx
/- Going backward over a list: what comes, in which order. -/
namespace Hx
open Go Sx Go.Proofs
set_option maxRecDepth 100000
set_option maxHeartbeats 4000000
set_option linter.unusedVariables false
set_option linter.unusedSimpArgs false
variable {GOk : Gl → Prop}
/-- the elements from the last on, each with its index -/
def revI {α : Type} (l : List α) : List (Nat × α) := (l.zipIdx.map fun x => (x.2, x.1)).reverse
theorem revI_len {α : Type} (l : List α) : (revI l).length = l.length := by simp [revI]
theorem revI_get {α : Type} {l : List α} {j : Nat} (h : j < l.length) : (revI l)[j]? = some (l.length - 1 - j, l[l.length - 1 - j]'(by omega)) := by
  unfold revI
  rw [List.getElem?_reverse (by simpa using h)]
  simp only [List.length_map, List.length_zipIdx, List.getElem?_map]
  rw [List.getElem?_eq_getElem (by simp; omega)]
  simp
theorem revI_snd {α : Type} (l : List α) : (revI l).map (·.2) = l.reverse := by
  unfold revI
  rw [List.map_reverse, List.map_map]
  congr 1
  have : ((fun x : Nat × α => x.2) ∘ fun x : α × Nat => (x.2, x.1)) = fun x : α × Nat => x.1 := rfl
  rw [this, List.zipIdx_map_fst]
/-- states that the rounds lead to -/
def Reach {σT αT : Type} (go : σT → αT → σT → Prop) : List αT → σT → σT → Prop
  | [], a, b => a = b
  | x :: r, a, b => ∃ c, go a x c ∧ Reach go r c b
theorem Reach.snoc {σT αT : Type} {go : σT → αT → σT → Prop} {x : αT} {b c : σT} : ∀ {l : List αT} {a : σT}, Reach go l a b → go b x c → Reach go (l ++ [x]) a c
  | [], a, h, g => by simp only [Reach] at h; subst h; exact ⟨c, g, rfl⟩
  | y :: r, a, ⟨d, h1, h2⟩, g => ⟨d, h1, Reach.snoc h2 g⟩
end Hx
/- slices.Backward over maps: the iterator's walk; names.Scope.Space. -/
namespace Hx
open Go Sx Go.Proofs
set_option maxRecDepth 100000
set_option maxHeartbeats 4000000
set_option linter.unusedVariables false
set_option linter.unusedSimpArgs false
variable {GOk : Gl → Prop}
theorem back_maps_spec {G0 : Gl} {yv : Value} {σT : Type} {argv : Nat × Option Nat → List Value} {ok : σT → Nat × Option Nat → Prop} {go : σT → Nat × Option Nat → σT → Prop} {S : σT → HP} {D : σT → Nat × Option Nat → HP} {E : σT → Nat × Option Nat → Value → HP} (inv : Nat → σT → Prop)
    (hY : YOk (BB Ip (fun G' => G' = G0)) G0 yv argv ok go S D E) (hav : ∀ ρ x, SV.denL ρ [.int .i64 (Int.ofNat x.1), .raw (.map x.2)] = argv x)
    (q : Bool) (lo len cap : Nat) (ys l : List (Option Nat)) (hv : VecOk q lo len cap ys l) (hlen : len ≤ 900000) (hsome : ∀ x ∈ l, ∃ g, x = some g) (st0 : σT) (h0 : inv 0 st0)
    (hok : ∀ st j x, (revI l)[j]? = some x → inv j st → ok st x) (hgo : ∀ st st' j x, (revI l)[j]? = some x → inv j st → go st x st' → inv (j + 1) st') :
    Triple (BB Ip (fun G' => G' = G0)) 230 2 2 [.raw yv, .ptr 1 0] ([.arr q true 0 90 encM ys, .cells 1 87 [.vec q 0 1 lo len cap]] ++ [.own 0 (S st0)])
      (IterPost ok (fun st => inv len st) [.arr q true 0 90 encM ys, .cells 1 87 [.vec q 0 1 lo len cap]] S D E) := by
  refine triple_iter BB_ok (tb := ty) rfl (n0 := 2) (fun _ : Unit => _) pl230 Tryz.call230 Tryz.func230 rfl (by kernel_rfl) (Nat.le_of_ble_eq_true rfl) (by decide) rfl pre_none ?_
  rintro G hG K hK W bi bc bs bk bu bb bo bg bl bp bn be Ncond Nob Nop Nloop Nscope hN Nfin hf _ _
  obtain ⟨hK1, hK2, hK3⟩ := hK
  have hlt := hv.length
  have hroom := hv.room
  have hfits := hv.fits
  obtain ⟨z, hz⟩ : ∃ z : Int, bi .sub .i64 (Int.ofNat len) 1 = z := ⟨_, rfl⟩
  have hz2 : z = (len : Int) - 1 := by
    rw [← hz]
    cases len with
    | zero => rw [bi_ hN]; rfl
    | succ n => rw [isub hN (by simp) (by simp; omega)]; simp
  cbv
  simp only [hz]
  cbv
  have hz2 : z = (len : Int) - 1 := hz2
  refine loopN_ hN (loop_ hN ty_ok mixed (ι := Nat × σT × Int) (fun y => ⟨[(0, .raw yv), (1, .ptr 1 0), (3, .int .i64 y.2.2)], [.arr q true 0 90 encM ys, .cells 1 87 [.vec q 0 1 lo len cap], .own 0 (S y.2.1)], 2⟩)
    (fun y => y.1 ≤ len ∧ y.2.2 + Int.ofNat y.1 + 1 = Int.ofNat len ∧ inv y.1 y.2.1) (fun y => len - y.1) (Leads.idx (0, st0, z) [] ⟨Nat.zero_le _, (show z + ((0 : Nat) : Int) + 1 = (len : Int) by omega), h0⟩ ⟨⟨rfl, rfl, rfl, trivial⟩, rfl, Nat.le_of_ble_eq_true rfl⟩) ?_)
  rintro ⟨j, st, i⟩ ⟨hj, hi, hreach⟩ Nnext hn _
  simp only at hj hi hreach
  cbv
  refine cond_ hN (fun h => ?_) (fun h => ?_)
  · rw [cge hN] at h
    simp only [decide_eq_true_eq, decide_eq_false_iff_not, Int.ofNat_eq_natCast, gt_iff_lt, ge_iff_le, Bool.not_eq_true', Bool.not_eq_false', Int.not_lt, Int.not_le] at h
    have h : (0 : Int) ≤ i := h
    have hi : i + (j : Int) + 1 = (len : Int) := hi
    have hjl : j < len := by omega
    have hpt : q = true := by
      cases q with
      | true => rfl
      | false => have := hv.pr rfl; omega
    obtain ⟨k, hk⟩ : ∃ k : Nat, k = len - 1 - j := ⟨_, rfl⟩
    obtain rfl : i = Int.ofNat k := (show i = (k : Int) by omega)
    have hrg := revI_get (l := l) (j := j) (by omega)
    have hkl : l.length - 1 - j = k := by omega
    have hgk : l[k]? = some (l[l.length - 1 - j]'(by omega)) := by
      have h0 : l[l.length - 1 - j]? = some (l[l.length - 1 - j]'(by omega)) := List.getElem?_eq_getElem _
      exact (congrArg (fun z => l[z]?) hkl).symm.trans h0
    have hsm := hsome _ (List.getElem_mem (show l.length - 1 - j < l.length by omega))
    generalize (l[l.length - 1 - j]'(by omega)) = x at hrg hgk hsm
    rw [hkl] at hrg
    have hx : ys[lo + k]? = some x := by
      have h5 : ((ys.drop lo).take len)[k]? = some x := by rw [hv.eq]; exact hgk
      rw [List.getElem?_take, if_pos (by omega), List.getElem?_drop] at h5
      exact h5
    have hidx : bp lo (Int.ofNat k) = lo + k := by rw [bp_ hN]; simp
    have hjk : len - j = k + 1 := by omega
    have hoks := hok st j _ hrg hreach
    obtain ⟨z2, hz3⟩ : ∃ z : Int, bi .sub .i64 (Int.ofNat k) 1 = z := ⟨_, rfl⟩
    have hz4 : z2 = (k : Int) - 1 := by
      rw [← hz3]
      cases k with
      | zero => rw [bi_ hN]; rfl
      | succ n => rw [isub hN (by simp) (by simp; omega)]; simp
    obtain ⟨g, rfl⟩ := hsm
    cbv
    refine ob_ hN ⟨⟨by simp, by simp; omega⟩, hpt, trivial⟩ ?_
    cbv
    refine op_ hN (load_arr ty_ok rfl hpt rfl wideM (Nat.le_of_ble_eq_true rfl) (by rw [hidx]; omega) ?_)
    intro x2 hx2
    rw [hidx, hx] at hx2
    obtain rfl := (Option.some.inj hx2).symm
    cbv
    refine op_ hN (yield_ hY st (k, some g) hoks 0 rfl (fun ρ => ?_) (fun st' hgo2 => ?_) ?_ (fun v => ?_) ?_)
    · exact hav ρ (k, some g)
    · cbv
      simp only [hz3]
      have hz4 : z2 = (k : Int) - 1 := hz4
      exact hn _ (Leads.nxt (j + 1, st', z2) [] ⟨hjl, (show z2 + ((j + 1 : Nat) : Int) + 1 = (len : Int) by omega), hgo st st' j _ hrg hreach hgo2⟩ (by simp only; omega) ⟨⟨rfl, rfl, rfl, trivial⟩, rfl, Nat.le_of_ble_eq_true rfl⟩)
    · cbv
      exact hf _ _ (fin_ [] rfl rfl (hK2 st _ hoks))
    · cbv
      exact hf _ _ (fin_ [] rfl rfl (hK3 st _ v hoks))
    · exact ⟨rfl, rfl, hG⟩
  · rw [cge hN] at h
    simp only [decide_eq_true_eq, decide_eq_false_iff_not, Int.ofNat_eq_natCast, gt_iff_lt, ge_iff_le, Bool.not_eq_true', Bool.not_eq_false', Int.not_lt, Int.not_le] at h
    have h : i < (0 : Int) := h
    have hi : i + (j : Int) + 1 = (len : Int) := hi
    have hje : j = len := by omega
    rw [hje] at hreach
    cbv
    exact hf _ _ (fin_ [] rfl rfl (hK1 st hreach))
/-- a map among many is read -/
theorem maps_read {g : Nat} {m : List (ByteArray × ByteArray)} : ∀ {gl : List (Nat × List (ByteArray × ByteArray))} {kk : Nat} {ids : List Nat} {h : Hp}, Ik Tm kk (.maps gl) ids h → (g, m) ∈ gl →
    (∃ e c, mapOf (bindL m) (e, c) ∧ h g = some (.map e c)) ∧ ((m.map (·.1)).Nodup ∧ (∀ x ∈ m, x.2.size ≤ 48))
  | [], kk, ids, h, _, hm => nomatch hm
  | (g0, m0) :: r, 0, ids, h, hk, _ => hk.elim
  | (g0, m0) :: r, kk + 1, ids, h, ⟨cs, ρ, hT, _, hs⟩, hm => by
    obtain ⟨es, hes, hfact, rfl⟩ := hT
    have hat : ρ 1 = g0 := by
      obtain ⟨_, h1, _⟩ := SatR.mem (A := Chunk.den (Ik Tm kk) ρ (.at_ 1 g0)) (List.Mem.head _) hs
      exact h1
    rcases List.mem_cons.1 hm with e | e
    · obtain ⟨rfl, rfl⟩ := Prod.mk.inj e
      obtain ⟨h1, hd, hsub⟩ := SatR.mem (A := Chunk.den (Ik Tm kk) ρ (.map 1 es)) (List.Mem.tail _ (List.Mem.head _)) hs
      obtain ⟨⟨e, c⟩, hmo, hp⟩ := hd
      exact ⟨⟨e, c, hes ▸ hmo, by have := hsub _ _ hp.1; rw [hat] at this; exact this⟩, hfact.1, hfact.2.2⟩
    · obtain ⟨h1, hd, hsub⟩ := SatR.mem (A := Chunk.den (Ik Tm kk) ρ (.abs (.maps r) [2])) (List.Mem.tail _ (List.Mem.tail _ (List.Mem.head _))) hs
      obtain ⟨⟨e, c, h2, h3⟩, h4⟩ := maps_read hd e
      exact ⟨⟨e, c, h2, hsub _ _ h3⟩, h4⟩
theorem maps_at {G : Gl} {g : Nat} {m : List (ByteArray × ByteArray)} {gl : List (Nat × List (ByteArray × ByteArray))} {cs : List (Chunk Pd)} {ids : List Nat} (hin : (Chunk.abs (Pd.maps gl) ids : Chunk Pd) ∈ cs) (hm : (g, m) ∈ gl) :
    ∀ ρ F w, SatC Ip G ρ cs F w → ∃ g2 e c, (SV.raw (.map (some g))).den ρ = .map (some g2) ∧ mapOf (bindL m) (e, c) ∧ w.heap[g2]? = some (.map e c) ∧ (m.map (·.1)).Nodup ∧ (∀ x ∈ m, x.2.size ≤ 48) := by
  intro ρ F w hs
  obtain ⟨h, ⟨kk, hk⟩, hsub⟩ := hs.mem hin
  obtain ⟨⟨e, c, h1, h2⟩, h3, h4⟩ := maps_read hk hm
  exact ⟨g, e, c, rfl, h1, hsub _ _ h2, h3, h4⟩
/-- the scopes that were asked said nothing -/
def spInv (gl : List (Nat × List (ByteArray × ByteArray))) (k : ByteArray) (j : Nat) (_ : Unit) : Prop := scpSpace (gl.map (·.2)) k = scpSpace ((gl.drop j).map (·.2)) k
def spGo (gl : List (Nat × List (ByteArray × ByteArray))) (k : ByteArray) (len : Nat) (_ : Unit) (x : Nat × Option Nat) (_ : Unit) : Prop := ∀ y, gl[len - 1 - x.1]? = some y → lookB y.2 k = none
def spOk (gl : List (Nat × List (ByteArray × ByteArray))) (k : ByteArray) (len : Nat) (_ : Unit) (x : Nat × Option Nat) : Prop := ∃ j g m r, gl.drop j = (g, m) :: r ∧ x.2 = some g ∧ x.1 = len - 1 - j ∧ j < len ∧ spInv gl k j ()
theorem refs_rev {gl : List (Nat × List (ByteArray × ByteArray))} {j : Nat} {x : Nat × Option Nat} (h : (revI (refsOf gl))[j]? = some x) : ∃ g m r, gl.drop j = (g, m) :: r ∧ x.2 = some g ∧ x.1 = gl.length - 1 - j ∧ j < gl.length := by
  have hlt : j < gl.length := by have := (List.getElem?_eq_some_iff.1 h).1; rw [revI_len, refsOf_len] at this; exact this
  rw [revI_get (by rw [refsOf_len]; exact hlt)] at h
  have h := Option.some.inj h
  have hd := List.drop_eq_getElem_cons hlt
  obtain ⟨⟨g, m⟩, hg⟩ : ∃ y, gl[j]'hlt = y := ⟨_, rfl⟩
  rw [hg] at hd
  refine ⟨g, m, _, hd, ?_, ?_, hlt⟩
  · rw [← h]
    simp only
    have : (refsOf gl)[(refsOf gl).length - 1 - j]? = some (some g) := by
      unfold refsOf
      rw [List.getElem?_reverse (by simp; omega)]
      simp only [List.length_reverse, List.length_map, List.getElem?_map]
      rw [show gl.length - 1 - (gl.length - 1 - j) = j by omega, List.getElem?_eq_getElem hlt, hg]
      rfl
    exact (List.getElem?_eq_some_iff.1 this).2
  · rw [← h]; simp only [refsOf_len]
theorem scp_space_spec (l : List (List (ByteArray × ByteArray))) (k : ByteArray) : Triple (BB Ip GOk) 227 1 1 [.ptr 0 0, .str k] [.abs (.scp l) [0]] (fun K => ∀ v b, (v, b) = scpSpace l k → v.size ≤ 48 → K (.ret (.tuple [.str v, .bool b])) [.abs (.scp l) [0]]) := by
  refine triple_range BB_ok (tb := ty) rfl (rs := [_]) (rs2 := [_]) (n0 := 3) (fun y : {cs' // Tm (.scp l) cs'} => csRen (sg [0] 1) y.1 ++ []) pl227 Tryz.call227 Tryz.func227 rfl (by kernel_rfl) (by kernel_rfl) rfl rfl rfl (pre_open rfl rfl rfl) ?_
  rintro G hG K hK W bi bc bs bk bu bb bo bg bl bp bn be Ncond Nob Nop Nloop Nscope hN Nr hR ⟨cs', hT⟩
  obtain ⟨p, lo, len, cap, xs, gl, hv, hgl, hle, rfl⟩ := id hT
  have hlen : gl.length = len := by have := hv.length; rw [refsOf_len] at this; exact this
  have hsome : ∀ x ∈ refsOf gl, ∃ g, x = some g := by
    intro x hx
    simp only [refsOf, List.mem_reverse, List.mem_map] at hx
    obtain ⟨y, _, rfl⟩ := hx
    exact ⟨_, rfl⟩
  cbv
  refine op_ hN (inline_ BB_ok (tb := ty) rfl pl229 Tryz.call229 Tryz.func229 rfl (by kernel_rfl) (Nat.le_of_ble_eq_true rfl) ?_)
  intro W2 bi2 bc2 bs2 bk2 bu2 bb2 bo2 bg2 bl2 bp2 bn2 be2 Ncond2 Nob2 Nop2 Nloop2 Nscope2 hN2
  cbv
  let CS : ByteArray → SV → List (Chunk Pd) := fun v b => [.cells 5 4 [b], .cells 4 9 [.str v], .cells 3 9 [.str k], .cells 0 89 [.vec p 1 1 lo len cap], .abs (.maps gl) [2]]
  refine hR _ (range_at (B := BB Ip GOk) BB_ok Tryz.func227 (tb := ty) rfl rfl (fun _ : Unit => CS ⟨#[]⟩ .ff) 7
    (fun x : Nat × Option Nat => [.int .i64 (Int.ofNat x.1), .raw (.map x.2)]) (fun x => SV.denL (fun _ => 0) [.int .i64 (Int.ofNat x.1), .raw (.map x.2)]) (spOk gl k len) (spGo gl k len)
    (fun e _ _ cs => e = .ret ∧ ∃ v, scpSpace l k = (v, true) ∧ v.size ≤ 48 ∧ cs = CS v .tt) (fun _ _ _ _ => False) (fun st => spInv gl k len st) () [1, 6]
    (fun yv S D E hY => back_maps_spec (G0 := G) (spInv gl k) hY.only (fun ρ x => by simp [SV.denL, SV.den]) p lo len cap xs (refsOf gl) hv (by rw [← hgl, List.length_map] at hle; omega) hsome () rfl ?_ ?_)
    rfl rfl (fun ρ x => by simp [SV.denL, SV.den]) (fun x => rfl) rfl rfl (fun yv => rfl) rfl rfl rfl (by kernel_rfl) (by kernel_rfl) (by kernel_rfl) ?_ ?_ ?_ ?_ (fun _ _ _ _ _ h => h.elim))
  · intro st j x hx hi
    obtain ⟨g, m, r, h1, h2, h3, h4⟩ := refs_rev hx
    exact ⟨j, g, m, r, h1, h2, by rw [h3, hlen], by omega, hi⟩
  · intro st st' j x hx hi hg
    obtain ⟨g, m, r, h1, h2, h3, h4⟩ := refs_rev hx
    have hgj : gl[j]? = some (g, m) := by
      have := congrArg List.head? h1
      rw [List.head?_drop] at this; exact this
    have hno : lookB m k = none := hg (g, m) (by rw [h3, show len - 1 - (gl.length - 1 - j) = j by omega]; exact hgj)
    have hd : gl.drop (j + 1) = r := by
      have := congrArg List.tail h1
      rw [List.tail_drop] at this; exact this
    have hi : scpSpace (gl.map (·.2)) k = scpSpace ((gl.drop j).map (·.2)) k := hi
    show scpSpace (gl.map (·.2)) k = scpSpace ((gl.drop (j + 1)).map (·.2)) k
    rw [hi, h1, hd, List.map_cons, scpSpace, hno]
  · rintro lp st ⟨i, o⟩ ⟨j, g, m, r, h1, h2, h3, h4, h5⟩ W2 bi2 bc2 bs2 bk2 bu2 bb2 bo2 bg2 bl2 bp2 bn2 be2 Ncond2 Nob2 Nop2 Nloop2 Nscope2 hN2 Nend hE -
    simp only at h2 h3
    subst h2
    have hin : (g, m) ∈ gl := by
      have : (g, m) ∈ gl.drop j := by rw [h1]; exact List.Mem.head _
      exact List.mem_of_mem_drop this
    have hE1 : lookB m k = none → ∀ cs rest, pickC (idsOf (csRen (tau 7 []) (CS ⟨#[]⟩ .ff))) cs = some (csRen (tau 7 []) (CS ⟨#[]⟩ .ff), rest) → Nend .normal cs :=
      fun hno cs rest hp => hE .normal cs (fin_ [] (out' := .ret (.tuple [])) rfl hp ⟨(), fun y hy => by
        have hgj : gl[j]? = some (g, m) := by
          have := congrArg List.head? h1
          rw [List.head?_drop] at this; exact this
        rw [h3, show len - 1 - (len - 1 - j) = j by omega, hgj] at hy
        rw [← Option.some.inj hy]; exact hno, rfl⟩)
    have hE2 : ∀ v, lookB m k = some v → v.size ≤ 48 → ∀ cs rest, pickC (idsOf (csRen (tau 7 []) (CS v .tt))) cs = some (csRen (tau 7 []) (CS v .tt), rest) → Nend .ret cs :=
      fun v hv2 hsz cs rest hp => hE .ret cs (fin_ [] (out' := .ret (.tuple [])) rfl hp ⟨rfl, v, by
        have h5 : scpSpace (gl.map (·.2)) k = scpSpace ((gl.drop j).map (·.2)) k := h5
        rw [← hgl, h5, h1, List.map_cons, scpSpace, hv2], hsz, rfl⟩)
    clear hE
    simp only [CS] at hE1 hE2
    cbv
    refine op_ hN2 (lookupQ_ ty_ok (l := m) k rfl rfl rfl rfl rfl (∀ x ∈ m, x.2.size ≤ 48) (maps_at (gl := gl) (ids := [2]) (List.Mem.tail _ (List.Mem.tail _ (List.Mem.tail _ (List.Mem.tail _ (List.Mem.head _))))) hin) ?_)
    intro hsz v b hvb hv0
    cases b with
    | true =>
      have hvb : lookB m k = some v := hvb
      cbv
      refine cond_T hN2 rfl ?_
      cbv
      exact hE2 v hvb (hsz _ (lookB_some hvb)) _ _ rfl
    | false =>
      have hvb : lookB m k = none := hvb
      cbv
      refine cond_F hN2 rfl ?_
      cbv
      exact hE1 hvb _ _ rfl
  · intro cs hcs D W2 bi2 bc2 bs2 bk2 bu2 bb2 bo2 bg2 bl2 bp2 bn2 be2 Ncond2 Nob2 Nop2 Nloop2 Nscope2 hN2 Nfin2 hf2 _
    rcases hcs with ⟨⟨⟩, hfin, rfl⟩ | ⟨_, _, _, h, _⟩
    · have hfin : scpSpace (gl.map (·.2)) k = scpSpace ((gl.drop len).map (·.2)) k := hfin
      rw [List.drop_eq_nil_of_le (by omega), hgl] at hfin
      have hK2 := hK ⟨#[]⟩ (bs2 .eql k ⟨#[]⟩) (by rw [hfin, seq_eq hN2]; rfl) (by decide)
      clear hK
      simp only [CS]
      cbv
      repeat' (first | exact True.intro | with_reducible refine dup ?_ | refine And.intro ?_ ?_)
      all_goals
        exact hf2 _ _ (fin_close rfl (.scp l) [0] [1, 2] _ hT rfl (fin_ [] rfl rfl hK2))
    · exact nomatch h
  · rintro st x cs _ ⟨_, v, hv2, hsz, rfl⟩
    simp only [CS]
    cbv
    exact fin_as (.tuple [.str v, .bool true]) (fun _ => rfl) (fin_close rfl (.scp l) [0] [1, 2] _ hT rfl (fin_ [] rfl rfl (hK v true hv2.symm hsz)))
  · rintro st x cs j _ ⟨h, _⟩
    exact nomatch h
end Hx
