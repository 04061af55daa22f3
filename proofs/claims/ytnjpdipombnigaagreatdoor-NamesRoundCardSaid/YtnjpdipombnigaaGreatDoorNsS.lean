/-
  NamesRound: the runs from the top to the loop, and behind it.
-/
import Derived.Test.YtnjpdipombnigaaGreatDoorNsR
namespace Go.Proofs.YtnjpdipombnigaaGreatDoor
namespace Ev
open Go.RowKit

noncomputable def nmA : AV := .pstr [.opq 1000 (.var 1) 60]
noncomputable def nsStr : Option (Nat × Nat × Nat × List Pc) := some (1000, 1, 60, [.opq 1000 (.var 1) 60])
noncomputable def base4 : List (Nat × AV) := [(0, .opq 0), (1, .sint .u8 (.var 0)), (2, nmA), (6, .bool false)]
noncomputable def sT0 : Tm := ⟨64, [], [], [(0, .opq 0), (1, .sint .u8 (.var 0)), (2, nmA)]⟩
noncomputable def sB0 : Tm := ⟨64, [], [], [(0, .opq 0), (1, .sint .u8 (.var 0)), (2, .opq 1)]⟩
noncomputable def sT2 : Tm := ⟨64, [], [], base4⟩
noncomputable def sT2l : Tm := ⟨64, [], [], (38, .opq 0) :: (39, .sint .i64 (.var 2)) :: (40, .sint .i64 (.var 5)) :: base4⟩
noncomputable def sT3l : Tm := ⟨64, [], [], (53, .opq 2) :: (54, .sint .i64 (.var 1)) :: (55, .sint .i64 (.var 5)) :: base4⟩
noncomputable def sRet : Tm := ⟨64, [], [], [(6, .bool true)]⟩
noncomputable def fsS : List Fact := [⟨true, .var 1, .lit 1, false⟩, ⟨true, .lit 60, .var 1, false⟩, ⟨true, .var 2, .lit 0, false⟩, ⟨true, .lit 30, .var 2, false⟩]
noncomputable def lenN : Def := ⟨opBase + 9, [22], [.opq 0], .sint .i64 (.var 2)⟩
noncomputable def awD : Def := ⟨4, [], [], .bool true⟩
noncomputable def evL (fl : List FuncId) : Rec := ev theProg (ctrL theProg fl) 100000
noncomputable def stF (t : Tm) (fs : List Fact) (ds : List Def) : St := (Tm.mk t.c t.objs fs t.frl).stD nsTabs ds
noncomputable def bad0 : List Def := [lenN, ⟨opBase + 22, [9], [.opq 1, .str []], .bool false⟩, ⟨opBase + 9, [9], [.opq 1], .sint .i64 (.var 1)⟩, awD]
noncomputable def bad1 : List Def := [lenN, ⟨opBase + 22, [9], [.opq 1, .str []], .bool true⟩, awD]
noncomputable def bad1b : List Def := [lenN, awD]
noncomputable def badF1 : List Fact := [⟨true, .lit 30, .var 2, true⟩]
noncomputable def badF2 : List Fact := [⟨true, .lit 30, .var 2, false⟩]
noncomputable def badF3 : List Fact := [⟨true, .lit 30, .var 2, false⟩, ⟨true, .lit 60, .var 1, true⟩]
theorem s_bad1 : retD theProg (.bool true) (topS theProg (evL nrL) nrFn (stF sB0 badF1 bad1b) 100000 nrBody [(.normal, sB0.fr, stF sB0 badF1 bad1b)]) = true := by kernel_rfl
theorem s_bad2 : retD theProg (.bool true) (topS theProg (evL nrL) nrFn (stF sB0 badF2 bad1) 100000 nrBody [(.normal, sB0.fr, stF sB0 badF2 bad1)]) = true := by kernel_rfl
theorem s_bad3 : retD theProg (.bool true) (topS theProg (evL nrL) nrFn (stF sB0 badF3 bad0) 100000 nrBody [(.normal, sB0.fr, stF sB0 badF3 bad0)]) = true := by kernel_rfl
noncomputable def ds01 : List Def := [lenN, ⟨opBase + 22, [9], [nmA, .str []], .bool false⟩, ⟨opBase + 9, [9], [nmA], .sint .i64 (.var 1)⟩]
theorem s_01 : autoChk (runK (evL nrL) nrFn.ntmps 2 nrBody sT0.fr (stF sT0 fsS ds01)) ⟨[], nsStr, []⟩ nsTabs sT2 = true := by kernel_rfl
noncomputable def lb2 : Code := blockB (headC (dropK 2 nrBody))
noncomputable def pre2 : Code := headC (headC (dropK 2 nrBody))
theorem nr_at2 : dropK 2 nrBody = .seq (.seq pre2 (.block 0 (.loop lb2))) (dropK 3 nrBody) := by kernel_rfl
theorem s_pre2 (x : Int) : wayAuto ((evL nrL).code nrFn.ntmps none pre2 sT2.fr (stF sT2 fsS [lenN])) (isAX .normal) ⟨[(5, .lit 0), (6, .lit x)], nsStr, []⟩ nsTabs sT2l = true := by kernel_rfl
noncomputable def ds2 : List Def := [⟨opBase + 2, [22], [.opq 0, .sint .i64 (.var 5)], .optr 0 (.var 5) 0⟩, ⟨opBase + 1, [2], [.optr 0 (.var 5) 0], .sint .i64 (.var 6)⟩, awD]
noncomputable def fs2 : List Fact := ⟨true, .var 5, .var 2, true⟩ :: ⟨true, .var 5, .lit 0, false⟩ :: ⟨true, .lit 30, .var 5, false⟩ :: fsS
noncomputable def fs2x : List Fact := ⟨true, .var 5, .var 2, false⟩ :: fsS
theorem s_2ok (x : Int) : wayAuto ((evL nrL).code nrFn.ntmps none lb2 sT2l.fr (stF sT2l (⟨true, .var 6, .lit 0, false⟩ :: ⟨true, .lit 4294967295, .var 6, false⟩ :: fs2) ds2)) (isAX .normal) ⟨[(5, .lin 1 [(5, 1)]), (6, .lit x)], nsStr, []⟩ nsTabs sT2l = true := by kernel_rfl
theorem s_2lo : wayAuto ((evL nrL).code nrFn.ntmps none lb2 sT2l.fr (stF sT2l (⟨true, .var 6, .lit 0, true⟩ :: fs2) ds2)) (isAX .ret) ⟨[], nsStr, []⟩ nsTabs sRet = true := by kernel_rfl
theorem s_2hi : wayAuto ((evL nrL).code nrFn.ntmps none lb2 sT2l.fr (stF sT2l (⟨true, .var 6, .lit 0, false⟩ :: ⟨true, .lit 4294967295, .var 6, true⟩ :: fs2) ds2)) (isAX .ret) ⟨[], nsStr, []⟩ nsTabs sRet = true := by kernel_rfl
theorem s_2x : wayAuto ((evL nrL).code nrFn.ntmps none lb2 sT2l.fr (stF sT2l fs2x [])) (isAX (.exit 0)) ⟨[], nsStr, []⟩ nsTabs sT2 = true := by kernel_rfl
noncomputable def lb3 : Code := blockB (headC (dropK 3 nrBody))
noncomputable def pre3 : Code := headC (headC (dropK 3 nrBody))
theorem nr_at3 : dropK 3 nrBody = .seq (.seq pre3 (.block 2 (.loop lb3))) (dropK 4 nrBody) := by kernel_rfl
noncomputable def ds3p : List Def := [⟨effBase + 0, [9, 24], [nmA], .opq 2⟩, ⟨opBase + 9, [24], [.opq 2], .sint .i64 (.var 1)⟩]
theorem s_pre3 (x : Int) : wayAuto ((evL nrL).code nrFn.ntmps none pre3 sT2.fr (stF sT2 fsS ds3p)) (isAX .normal) ⟨[(5, .lit 0), (6, .lit x)], nsStr, []⟩ nsTabs sT3l = true := by kernel_rfl
noncomputable def ds3 : List Def := [⟨opBase + 2, [24], [.opq 2, .sint .i64 (.var 5)], .optr 2 (.var 5) 0⟩, ⟨opBase + 1, [5], [.optr 2 (.var 5) 0], .sint .u8 (.var 6)⟩, awD]
noncomputable def fs3 : List Fact := ⟨true, .var 5, .var 1, true⟩ :: ⟨true, .var 5, .lit 0, false⟩ :: ⟨true, .lit 60, .var 5, false⟩ :: fsS
noncomputable def fs3x : List Fact := ⟨true, .var 5, .var 1, false⟩ :: fsS
theorem s_3ok (x : Int) : wayAuto ((evL nrL).code nrFn.ntmps none lb3 sT3l.fr (stF sT3l (⟨true, .var 6, .lit 32, false⟩ :: ⟨true, .lit 126, .var 6, false⟩ :: fs3) ds3)) (isAX .normal) ⟨[(5, .lin 1 [(5, 1)]), (6, .lit x)], nsStr, []⟩ nsTabs sT3l = true := by kernel_rfl
theorem s_3lo : wayAuto ((evL nrL).code nrFn.ntmps none lb3 sT3l.fr (stF sT3l (⟨true, .var 6, .lit 32, true⟩ :: fs3) ds3)) (isAX .ret) ⟨[], nsStr, []⟩ nsTabs sRet = true := by kernel_rfl
theorem s_3hi : wayAuto ((evL nrL).code nrFn.ntmps none lb3 sT3l.fr (stF sT3l (⟨true, .var 6, .lit 32, false⟩ :: ⟨true, .lit 126, .var 6, true⟩ :: fs3) ds3)) (isAX .ret) ⟨[], nsStr, []⟩ nsTabs sRet = true := by kernel_rfl
theorem s_3x : wayAuto ((evL nrL).code nrFn.ntmps none lb3 sT3l.fr (stF sT3l fs3x [])) (isAX (.exit 2)) ⟨[], nsStr, []⟩ nsTabs sT2 = true := by kernel_rfl
theorem s_ret : retD theProg (.bool true) (finB theProg nrFn sRet.fr (sRet.st nsTabs)) = true := by kernel_rfl
noncomputable def mOf (t : Tm) : Tm := ⟨t.c, t.objs, t.fs, t.frl.drop 2⟩
noncomputable def kE : SE := .bin .add .i64 (.bin .rem .u8 (.var 0) (.lit 8)) (.lit 1)
noncomputable def ds5 (F : Fam) : List Def :=
  ⟨19, [], [.agg [.int .i64 11, .psl 1 [.int .i64 0], nmA, .nilslice]], .int .i64 0⟩ ::
  ⟨152, [], [nmA], .bool true⟩ ::
  ⟨153, [], [.agg [.nilslice, .nilmap], nmA], F.fnd⟩ ::
  ⟨19, [], [.agg [.int .i64 13, .psl 5 [.int .i64 1048577, F.A64, .int .i64 5, .int .i64 32, .int .i64 0], .str [], .opq 0]], .int .i64 0⟩ ::
  ⟨159, [], [.agg [F.A32, .int .u32 5, .int .i64 32, .opq 0]], .int .i64 0⟩ ::
  ⟨161, [], [.nilslice, .opq 0], .opq 0⟩ :: lenN :: F.nm
noncomputable def fs5 (F : Fam) : List Fact := ⟨true, .var 0, .lit 0, false⟩ :: ⟨true, .lit 255, .var 0, false⟩ :: ⟨true, .var 1, .lit 1, false⟩ :: ⟨true, .lit 60, .var 1, false⟩ :: ⟨true, .var 2, .lit 0, false⟩ :: ⟨true, .lit 30, .var 2, false⟩ :: F.fa
noncomputable def dz (nil : Bool) : List Def := match nil with
  | true => [⟨7, [], [.nilslice, .opq 0], .bool true⟩, awD]
  | false => [⟨7, [], [.opq 5, .opq 0], .bool true⟩, awD]
noncomputable def fz : List Fact := [⟨true, .var 2, .lit 0, false⟩, ⟨true, .lit 30, .var 2, false⟩]
structure FamS (F : Fam) : Prop where
  five : autoChk (runK (evL F.fl) nrFn.ntmps 7 (dropK 5 nrBody) nsT5.fr (stF nsT5 (fs5 F) (ds5 F))) ⟨[(4, kE)], none, []⟩ nsTabs (mOf F.R0) = true
  pre : ∀ d6 d9 : D, wayAuto ((evL F.fl).code nrFn.ntmps none nrPre (mOf F.R0).fr (stF (mOf F.R0) fz [lenN])) (isAX .normal) ⟨[(3, .lit 0), (5, .lit 0)], none, [(6, .is d6), (9, .is d9)]⟩ nsTabs F.R0 = true
  z0 : retD theProg (.bool true) (topS theProg (evL F.fl) nrFn (stF F.Z0 fz (dz true)) 100000 nrAft [(.normal, F.Z0.fr, stF F.Z0 fz (dz true))]) = true
  z1 : retD theProg (.bool true) (topS theProg (evL F.fl) nrFn (stF F.Z1 fz (dz false)) 100000 nrAft [(.normal, F.Z1.fr, stF F.Z1 fz (dz false))]) = true
theorem famN_s : FamS famN := ⟨by kernel_rfl, fun _ _ => by kernel_rfl, by kernel_rfl, by kernel_rfl⟩
theorem famK_s : FamS famK := ⟨by kernel_rfl, fun _ _ => by kernel_rfl, by kernel_rfl, by kernel_rfl⟩
theorem nr_fn : theProg.funcs[3]? = some nrFn := by kernel_rfl
theorem nr_body : nrFn.body = some nrBody := by kernel_rfl
noncomputable def kOk (n : Nat) : Bool := decide (1 ≤ opVal .add .i64 (opVal .rem .u8 (n : Int) 8) 1) && decide (opVal .add .i64 (opVal .rem .u8 (n : Int) 8) 1 ≤ 8)
theorem k_all : allTo kOk 256 = true := by kernel_rfl
end Ev
end Go.Proofs.YtnjpdipombnigaaGreatDoor
