/-
  Part of a proof.
-/
import Derived.Test.YtkkifbjdbhjhaaaGreatDoorV08
import Derived.Test.YtkkifbjdbhjhaaaGreatDoorV06
set_option linter.unusedVariables false
set_option linter.unusedSimpArgs false
/- The plan of carry.look.delim's rows, checked node by node. -/
namespace Hx
open Go Sx Go.Proofs
set_option maxRecDepth 100000
set_option maxHeartbeats 4000000
set_option linter.unusedVariables false
set_option linter.unusedSimpArgs false
variable {GOk : Gl → Prop}
noncomputable def q42c : Code := Go.Proofs.Tryz.f42.body.getD .skip
noncomputable def q42o : Array Oper := match (regs q42c).find? (fun x => x.1 == 1) with | some x => x.2 | none => #[]
def q42_0 : Plan := .done
theorem q42_0k : Plan.ok q42o q42_0 0 #[true, true, true, true, true, true, true, true, true, true, true, true, true, true, true, true, true, true, true, true, true, true, true, true, true, true, true, true] = true := by kernel_rfl
def q42_1 : Plan := .take 27 q42_0
theorem q42_1k : Plan.ok q42o q42_1 1 #[true, true, true, true, true, true, true, true, true, true, true, true, true, true, true, true, true, true, true, true, true, true, true, true, true, true, true, false] = true := ok_take (by kernel_rfl) (by kernel_rfl) q42_0k
def q42_2 : Plan := .take 26 q42_1
theorem q42_2k : Plan.ok q42o q42_2 2 #[true, true, true, true, true, true, true, true, true, true, true, true, true, true, true, true, true, true, true, true, true, true, true, true, true, true, false, false] = true := ok_take (by kernel_rfl) (by kernel_rfl) q42_1k
def q42_3 : Plan := .all [(25, q42_2)]
theorem q42_3k : Plan.ok q42o q42_3 3 #[true, true, true, true, true, true, true, true, true, true, true, true, true, true, true, true, true, true, true, true, true, true, true, true, true, false, false, false] = true := ok_all (by kernel_rfl) (okL_cons (by kernel_rfl) q42_2k (okL_nil))
def q42_4 : Plan := .all [(24, q42_3)]
theorem q42_4k : Plan.ok q42o q42_4 4 #[true, true, true, true, true, true, true, true, true, true, true, true, true, true, true, true, true, true, true, true, true, true, true, true, false, false, false, false] = true := ok_all (by kernel_rfl) (okL_cons (by kernel_rfl) q42_3k (okL_nil))
def q42_5 : Plan := .all [(23, q42_4)]
theorem q42_5k : Plan.ok q42o q42_5 5 #[true, true, true, true, true, true, true, true, true, true, true, true, true, true, true, true, true, true, true, true, true, true, true, false, false, false, false, false] = true := ok_all (by kernel_rfl) (okL_cons (by kernel_rfl) q42_4k (okL_nil))
def q42_6 : Plan := .take 22 q42_5
theorem q42_6k : Plan.ok q42o q42_6 6 #[true, true, true, true, true, true, true, true, true, true, true, true, true, true, true, true, true, true, true, true, true, true, false, false, false, false, false, false] = true := ok_take (by kernel_rfl) (by kernel_rfl) q42_5k
def q42_7 : Plan := .all [(21, q42_6)]
theorem q42_7k : Plan.ok q42o q42_7 7 #[true, true, true, true, true, true, true, true, true, true, true, true, true, true, true, true, true, true, true, true, true, false, false, false, false, false, false, false] = true := ok_all (by kernel_rfl) (okL_cons (by kernel_rfl) q42_6k (okL_nil))
def q42_8 : Plan := .all [(19, q42_4)]
theorem q42_8k : Plan.ok q42o q42_8 5 #[true, true, true, true, true, true, true, true, true, true, true, true, true, true, true, true, true, true, true, false, true, true, true, true, false, false, false, false] = true := ok_all (by kernel_rfl) (okL_cons (by kernel_rfl) q42_4k (okL_nil))
def q42_9 : Plan := .all [(19, q42_5), (23, q42_8)]
theorem q42_9k : Plan.ok q42o q42_9 6 #[true, true, true, true, true, true, true, true, true, true, true, true, true, true, true, true, true, true, true, false, true, true, true, false, false, false, false, false] = true := ok_all (by kernel_rfl) (okL_cons (by kernel_rfl) q42_5k (okL_cons (by kernel_rfl) q42_8k (okL_nil)))
def q42_10 : Plan := .take 22 q42_9
theorem q42_10k : Plan.ok q42o q42_10 7 #[true, true, true, true, true, true, true, true, true, true, true, true, true, true, true, true, true, true, true, false, true, true, false, false, false, false, false, false] = true := ok_take (by kernel_rfl) (by kernel_rfl) q42_9k
def q42_11 : Plan := .all [(19, q42_7), (21, q42_10)]
theorem q42_11k : Plan.ok q42o q42_11 8 #[true, true, true, true, true, true, true, true, true, true, true, true, true, true, true, true, true, true, true, false, true, false, false, false, false, false, false, false] = true := ok_all (by kernel_rfl) (okL_cons (by kernel_rfl) q42_7k (okL_cons (by kernel_rfl) q42_10k (okL_nil)))
def q42_12 : Plan := .all [(18, q42_4)]
theorem q42_12k : Plan.ok q42o q42_12 5 #[true, true, true, true, true, true, true, true, true, true, true, true, true, true, true, true, true, true, false, true, true, true, true, true, false, false, false, false] = true := ok_all (by kernel_rfl) (okL_cons (by kernel_rfl) q42_4k (okL_nil))
def q42_13 : Plan := .all [(18, q42_5), (23, q42_12)]
theorem q42_13k : Plan.ok q42o q42_13 6 #[true, true, true, true, true, true, true, true, true, true, true, true, true, true, true, true, true, true, false, true, true, true, true, false, false, false, false, false] = true := ok_all (by kernel_rfl) (okL_cons (by kernel_rfl) q42_5k (okL_cons (by kernel_rfl) q42_12k (okL_nil)))
def q42_14 : Plan := .take 22 q42_13
theorem q42_14k : Plan.ok q42o q42_14 7 #[true, true, true, true, true, true, true, true, true, true, true, true, true, true, true, true, true, true, false, true, true, true, false, false, false, false, false, false] = true := ok_take (by kernel_rfl) (by kernel_rfl) q42_13k
def q42_15 : Plan := .all [(18, q42_7), (21, q42_14)]
theorem q42_15k : Plan.ok q42o q42_15 8 #[true, true, true, true, true, true, true, true, true, true, true, true, true, true, true, true, true, true, false, true, true, false, false, false, false, false, false, false] = true := ok_all (by kernel_rfl) (okL_cons (by kernel_rfl) q42_7k (okL_cons (by kernel_rfl) q42_14k (okL_nil)))
def q42_16 : Plan := .all [(18, q42_8), (19, q42_12)]
theorem q42_16k : Plan.ok q42o q42_16 6 #[true, true, true, true, true, true, true, true, true, true, true, true, true, true, true, true, true, true, false, false, true, true, true, true, false, false, false, false] = true := ok_all (by kernel_rfl) (okL_cons (by kernel_rfl) q42_8k (okL_cons (by kernel_rfl) q42_12k (okL_nil)))
def q42_17 : Plan := .all [(18, q42_9), (19, q42_13), (23, q42_16)]
theorem q42_17k : Plan.ok q42o q42_17 7 #[true, true, true, true, true, true, true, true, true, true, true, true, true, true, true, true, true, true, false, false, true, true, true, false, false, false, false, false] = true := ok_all (by kernel_rfl) (okL_cons (by kernel_rfl) q42_9k (okL_cons (by kernel_rfl) q42_13k (okL_cons (by kernel_rfl) q42_16k (okL_nil))))
def q42_18 : Plan := .take 22 q42_17
theorem q42_18k : Plan.ok q42o q42_18 8 #[true, true, true, true, true, true, true, true, true, true, true, true, true, true, true, true, true, true, false, false, true, true, false, false, false, false, false, false] = true := ok_take (by kernel_rfl) (by kernel_rfl) q42_17k
def q42_19 : Plan := .all [(18, q42_11), (19, q42_15), (21, q42_18)]
theorem q42_19k : Plan.ok q42o q42_19 9 #[true, true, true, true, true, true, true, true, true, true, true, true, true, true, true, true, true, true, false, false, true, false, false, false, false, false, false, false] = true := ok_all (by kernel_rfl) (okL_cons (by kernel_rfl) q42_11k (okL_cons (by kernel_rfl) q42_15k (okL_cons (by kernel_rfl) q42_18k (okL_nil))))
def q42_20 : Plan := .all [(17, q42_12)]
theorem q42_20k : Plan.ok q42o q42_20 6 #[true, true, true, true, true, true, true, true, true, true, true, true, true, true, true, true, true, false, false, true, true, true, true, true, false, false, false, false] = true := ok_all (by kernel_rfl) (okL_cons (by kernel_rfl) q42_12k (okL_nil))
def q42_21 : Plan := .all [(17, q42_13), (23, q42_20)]
theorem q42_21k : Plan.ok q42o q42_21 7 #[true, true, true, true, true, true, true, true, true, true, true, true, true, true, true, true, true, false, false, true, true, true, true, false, false, false, false, false] = true := ok_all (by kernel_rfl) (okL_cons (by kernel_rfl) q42_13k (okL_cons (by kernel_rfl) q42_20k (okL_nil)))
def q42_22 : Plan := .take 22 q42_21
theorem q42_22k : Plan.ok q42o q42_22 8 #[true, true, true, true, true, true, true, true, true, true, true, true, true, true, true, true, true, false, false, true, true, true, false, false, false, false, false, false] = true := ok_take (by kernel_rfl) (by kernel_rfl) q42_21k
def q42_23 : Plan := .all [(17, q42_15), (21, q42_22)]
theorem q42_23k : Plan.ok q42o q42_23 9 #[true, true, true, true, true, true, true, true, true, true, true, true, true, true, true, true, true, false, false, true, true, false, false, false, false, false, false, false] = true := ok_all (by kernel_rfl) (okL_cons (by kernel_rfl) q42_15k (okL_cons (by kernel_rfl) q42_22k (okL_nil)))
def q42_24 : Plan := .all [(17, q42_16), (19, q42_20)]
theorem q42_24k : Plan.ok q42o q42_24 7 #[true, true, true, true, true, true, true, true, true, true, true, true, true, true, true, true, true, false, false, false, true, true, true, true, false, false, false, false] = true := ok_all (by kernel_rfl) (okL_cons (by kernel_rfl) q42_16k (okL_cons (by kernel_rfl) q42_20k (okL_nil)))
def q42_25 : Plan := .all [(17, q42_17), (19, q42_21), (23, q42_24)]
theorem q42_25k : Plan.ok q42o q42_25 8 #[true, true, true, true, true, true, true, true, true, true, true, true, true, true, true, true, true, false, false, false, true, true, true, false, false, false, false, false] = true := ok_all (by kernel_rfl) (okL_cons (by kernel_rfl) q42_17k (okL_cons (by kernel_rfl) q42_21k (okL_cons (by kernel_rfl) q42_24k (okL_nil))))
def q42_26 : Plan := .take 22 q42_25
theorem q42_26k : Plan.ok q42o q42_26 9 #[true, true, true, true, true, true, true, true, true, true, true, true, true, true, true, true, true, false, false, false, true, true, false, false, false, false, false, false] = true := ok_take (by kernel_rfl) (by kernel_rfl) q42_25k
def q42_27 : Plan := .all [(17, q42_19), (19, q42_23), (21, q42_26)]
theorem q42_27k : Plan.ok q42o q42_27 10 #[true, true, true, true, true, true, true, true, true, true, true, true, true, true, true, true, true, false, false, false, true, false, false, false, false, false, false, false] = true := ok_all (by kernel_rfl) (okL_cons (by kernel_rfl) q42_19k (okL_cons (by kernel_rfl) q42_23k (okL_cons (by kernel_rfl) q42_26k (okL_nil))))
def q42_28 : Plan := .all [(16, q42_12)]
theorem q42_28k : Plan.ok q42o q42_28 6 #[true, true, true, true, true, true, true, true, true, true, true, true, true, true, true, true, false, true, false, true, true, true, true, true, false, false, false, false] = true := ok_all (by kernel_rfl) (okL_cons (by kernel_rfl) q42_12k (okL_nil))
def q42_29 : Plan := .all [(16, q42_13), (23, q42_28)]
theorem q42_29k : Plan.ok q42o q42_29 7 #[true, true, true, true, true, true, true, true, true, true, true, true, true, true, true, true, false, true, false, true, true, true, true, false, false, false, false, false] = true := ok_all (by kernel_rfl) (okL_cons (by kernel_rfl) q42_13k (okL_cons (by kernel_rfl) q42_28k (okL_nil)))
def q42_30 : Plan := .take 22 q42_29
theorem q42_30k : Plan.ok q42o q42_30 8 #[true, true, true, true, true, true, true, true, true, true, true, true, true, true, true, true, false, true, false, true, true, true, false, false, false, false, false, false] = true := ok_take (by kernel_rfl) (by kernel_rfl) q42_29k
def q42_31 : Plan := .all [(16, q42_15), (21, q42_30)]
theorem q42_31k : Plan.ok q42o q42_31 9 #[true, true, true, true, true, true, true, true, true, true, true, true, true, true, true, true, false, true, false, true, true, false, false, false, false, false, false, false] = true := ok_all (by kernel_rfl) (okL_cons (by kernel_rfl) q42_15k (okL_cons (by kernel_rfl) q42_30k (okL_nil)))
def q42_32 : Plan := .all [(16, q42_16), (19, q42_28)]
theorem q42_32k : Plan.ok q42o q42_32 7 #[true, true, true, true, true, true, true, true, true, true, true, true, true, true, true, true, false, true, false, false, true, true, true, true, false, false, false, false] = true := ok_all (by kernel_rfl) (okL_cons (by kernel_rfl) q42_16k (okL_cons (by kernel_rfl) q42_28k (okL_nil)))
def q42_33 : Plan := .all [(16, q42_17), (19, q42_29), (23, q42_32)]
theorem q42_33k : Plan.ok q42o q42_33 8 #[true, true, true, true, true, true, true, true, true, true, true, true, true, true, true, true, false, true, false, false, true, true, true, false, false, false, false, false] = true := ok_all (by kernel_rfl) (okL_cons (by kernel_rfl) q42_17k (okL_cons (by kernel_rfl) q42_29k (okL_cons (by kernel_rfl) q42_32k (okL_nil))))
def q42_34 : Plan := .take 22 q42_33
theorem q42_34k : Plan.ok q42o q42_34 9 #[true, true, true, true, true, true, true, true, true, true, true, true, true, true, true, true, false, true, false, false, true, true, false, false, false, false, false, false] = true := ok_take (by kernel_rfl) (by kernel_rfl) q42_33k
def q42_35 : Plan := .all [(16, q42_19), (19, q42_31), (21, q42_34)]
theorem q42_35k : Plan.ok q42o q42_35 10 #[true, true, true, true, true, true, true, true, true, true, true, true, true, true, true, true, false, true, false, false, true, false, false, false, false, false, false, false] = true := ok_all (by kernel_rfl) (okL_cons (by kernel_rfl) q42_19k (okL_cons (by kernel_rfl) q42_31k (okL_cons (by kernel_rfl) q42_34k (okL_nil))))
def q42_36 : Plan := .all [(16, q42_20), (17, q42_28)]
theorem q42_36k : Plan.ok q42o q42_36 7 #[true, true, true, true, true, true, true, true, true, true, true, true, true, true, true, true, false, false, false, true, true, true, true, true, false, false, false, false] = true := ok_all (by kernel_rfl) (okL_cons (by kernel_rfl) q42_20k (okL_cons (by kernel_rfl) q42_28k (okL_nil)))
def q42_37 : Plan := .all [(16, q42_21), (17, q42_29), (23, q42_36)]
theorem q42_37k : Plan.ok q42o q42_37 8 #[true, true, true, true, true, true, true, true, true, true, true, true, true, true, true, true, false, false, false, true, true, true, true, false, false, false, false, false] = true := ok_all (by kernel_rfl) (okL_cons (by kernel_rfl) q42_21k (okL_cons (by kernel_rfl) q42_29k (okL_cons (by kernel_rfl) q42_36k (okL_nil))))
def q42_38 : Plan := .take 22 q42_37
theorem q42_38k : Plan.ok q42o q42_38 9 #[true, true, true, true, true, true, true, true, true, true, true, true, true, true, true, true, false, false, false, true, true, true, false, false, false, false, false, false] = true := ok_take (by kernel_rfl) (by kernel_rfl) q42_37k
def q42_39 : Plan := .all [(16, q42_23), (17, q42_31), (21, q42_38)]
theorem q42_39k : Plan.ok q42o q42_39 10 #[true, true, true, true, true, true, true, true, true, true, true, true, true, true, true, true, false, false, false, true, true, false, false, false, false, false, false, false] = true := ok_all (by kernel_rfl) (okL_cons (by kernel_rfl) q42_23k (okL_cons (by kernel_rfl) q42_31k (okL_cons (by kernel_rfl) q42_38k (okL_nil))))
def q42_40 : Plan := .all [(16, q42_24), (17, q42_32), (19, q42_36)]
theorem q42_40k : Plan.ok q42o q42_40 8 #[true, true, true, true, true, true, true, true, true, true, true, true, true, true, true, true, false, false, false, false, true, true, true, true, false, false, false, false] = true := ok_all (by kernel_rfl) (okL_cons (by kernel_rfl) q42_24k (okL_cons (by kernel_rfl) q42_32k (okL_cons (by kernel_rfl) q42_36k (okL_nil))))
def q42_41 : Plan := .all [(16, q42_25), (17, q42_33), (19, q42_37), (23, q42_40)]
theorem q42_41k : Plan.ok q42o q42_41 9 #[true, true, true, true, true, true, true, true, true, true, true, true, true, true, true, true, false, false, false, false, true, true, true, false, false, false, false, false] = true := ok_all (by kernel_rfl) (okL_cons (by kernel_rfl) q42_25k (okL_cons (by kernel_rfl) q42_33k (okL_cons (by kernel_rfl) q42_37k (okL_cons (by kernel_rfl) q42_40k (okL_nil)))))
def q42_42 : Plan := .take 22 q42_41
theorem q42_42k : Plan.ok q42o q42_42 10 #[true, true, true, true, true, true, true, true, true, true, true, true, true, true, true, true, false, false, false, false, true, true, false, false, false, false, false, false] = true := ok_take (by kernel_rfl) (by kernel_rfl) q42_41k
def q42_43 : Plan := .all [(16, q42_27), (17, q42_35), (19, q42_39), (21, q42_42)]
theorem q42_43k : Plan.ok q42o q42_43 11 #[true, true, true, true, true, true, true, true, true, true, true, true, true, true, true, true, false, false, false, false, true, false, false, false, false, false, false, false] = true := ok_all (by kernel_rfl) (okL_cons (by kernel_rfl) q42_27k (okL_cons (by kernel_rfl) q42_35k (okL_cons (by kernel_rfl) q42_39k (okL_cons (by kernel_rfl) q42_42k (okL_nil)))))
def q42_44 : Plan := .take 20 q42_43
theorem q42_44k : Plan.ok q42o q42_44 12 #[true, true, true, true, true, true, true, true, true, true, true, true, true, true, true, true, false, false, false, false, false, false, false, false, false, false, false, false] = true := ok_take (by kernel_rfl) (by kernel_rfl) q42_43k
def q42_45 : Plan := .take 15 q42_44
theorem q42_45k : Plan.ok q42o q42_45 13 #[true, true, true, true, true, true, true, true, true, true, true, true, true, true, true, false, false, false, false, false, false, false, false, false, false, false, false, false] = true := ok_take (by kernel_rfl) (by kernel_rfl) q42_44k
def q42_46 : Plan := .take 14 q42_45
theorem q42_46k : Plan.ok q42o q42_46 14 #[true, true, true, true, true, true, true, true, true, true, true, true, true, true, false, false, false, false, false, false, false, false, false, false, false, false, false, false] = true := ok_take (by kernel_rfl) (by kernel_rfl) q42_45k
def q42_47 : Plan := .take 13 q42_46
theorem q42_47k : Plan.ok q42o q42_47 15 #[true, true, true, true, true, true, true, true, true, true, true, true, true, false, false, false, false, false, false, false, false, false, false, false, false, false, false, false] = true := ok_take (by kernel_rfl) (by kernel_rfl) q42_46k
def q42_48 : Plan := .take 12 q42_47
theorem q42_48k : Plan.ok q42o q42_48 16 #[true, true, true, true, true, true, true, true, true, true, true, true, false, false, false, false, false, false, false, false, false, false, false, false, false, false, false, false] = true := ok_take (by kernel_rfl) (by kernel_rfl) q42_47k
def q42_49 : Plan := .all [(11, q42_48)]
theorem q42_49k : Plan.ok q42o q42_49 17 #[true, true, true, true, true, true, true, true, true, true, true, false, false, false, false, false, false, false, false, false, false, false, false, false, false, false, false, false] = true := ok_all (by kernel_rfl) (okL_cons (by kernel_rfl) q42_48k (okL_nil))
def q42_50 : Plan := .take 10 q42_49
theorem q42_50k : Plan.ok q42o q42_50 18 #[true, true, true, true, true, true, true, true, true, true, false, false, false, false, false, false, false, false, false, false, false, false, false, false, false, false, false, false] = true := ok_take (by kernel_rfl) (by kernel_rfl) q42_49k
def q42_51 : Plan := .take 9 q42_50
theorem q42_51k : Plan.ok q42o q42_51 19 #[true, true, true, true, true, true, true, true, true, false, false, false, false, false, false, false, false, false, false, false, false, false, false, false, false, false, false, false] = true := ok_take (by kernel_rfl) (by kernel_rfl) q42_50k
def q42_52 : Plan := .take 8 q42_51
theorem q42_52k : Plan.ok q42o q42_52 20 #[true, true, true, true, true, true, true, true, false, false, false, false, false, false, false, false, false, false, false, false, false, false, false, false, false, false, false, false] = true := ok_take (by kernel_rfl) (by kernel_rfl) q42_51k
def q42_53 : Plan := .take 7 q42_52
theorem q42_53k : Plan.ok q42o q42_53 21 #[true, true, true, true, true, true, true, false, false, false, false, false, false, false, false, false, false, false, false, false, false, false, false, false, false, false, false, false] = true := ok_take (by kernel_rfl) (by kernel_rfl) q42_52k
def q42_54 : Plan := .take 6 q42_53
theorem q42_54k : Plan.ok q42o q42_54 22 #[true, true, true, true, true, true, false, false, false, false, false, false, false, false, false, false, false, false, false, false, false, false, false, false, false, false, false, false] = true := ok_take (by kernel_rfl) (by kernel_rfl) q42_53k
def q42_55 : Plan := .all [(5, q42_54)]
theorem q42_55k : Plan.ok q42o q42_55 23 #[true, true, true, true, true, false, false, false, false, false, false, false, false, false, false, false, false, false, false, false, false, false, false, false, false, false, false, false] = true := ok_all (by kernel_rfl) (okL_cons (by kernel_rfl) q42_54k (okL_nil))
def q42_56 : Plan := .take 4 q42_55
theorem q42_56k : Plan.ok q42o q42_56 24 #[true, true, true, true, false, false, false, false, false, false, false, false, false, false, false, false, false, false, false, false, false, false, false, false, false, false, false, false] = true := ok_take (by kernel_rfl) (by kernel_rfl) q42_55k
def q42_57 : Plan := .take 3 q42_56
theorem q42_57k : Plan.ok q42o q42_57 25 #[true, true, true, false, false, false, false, false, false, false, false, false, false, false, false, false, false, false, false, false, false, false, false, false, false, false, false, false] = true := ok_take (by kernel_rfl) (by kernel_rfl) q42_56k
def q42_58 : Plan := .take 2 q42_57
theorem q42_58k : Plan.ok q42o q42_58 26 #[true, true, false, false, false, false, false, false, false, false, false, false, false, false, false, false, false, false, false, false, false, false, false, false, false, false, false, false] = true := ok_take (by kernel_rfl) (by kernel_rfl) q42_57k
def q42_59 : Plan := .all [(1, q42_58)]
theorem q42_59k : Plan.ok q42o q42_59 27 #[true, false, false, false, false, false, false, false, false, false, false, false, false, false, false, false, false, false, false, false, false, false, false, false, false, false, false, false] = true := ok_all (by kernel_rfl) (okL_cons (by kernel_rfl) q42_58k (okL_nil))
def q42_60 : Plan := .take 0 q42_59
theorem q42_60k : Plan.ok q42o q42_60 28 #[false, false, false, false, false, false, false, false, false, false, false, false, false, false, false, false, false, false, false, false, false, false, false, false, false, false, false, false] = true := ok_take (by kernel_rfl) (by kernel_rfl) q42_59k
theorem q42_ok : plansOk [(1, q42_60)] q42c = true := plansOk_one (id := 1) (ops := q42o) (n := 28) (by kernel_rfl) rfl (by kernel_rfl) ⟨by kernel_rfl, by kernel_rfl⟩ q42_60k
end Hx
