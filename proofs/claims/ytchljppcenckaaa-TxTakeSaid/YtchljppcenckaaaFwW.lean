/- The abstract machine, and the contracts of the code: part 40. -/
import Derived.Test.YtchljppcenckaaaFwU7

section
/- The equations of the abstract machine, laid together for simp. -/
namespace Go.Fw
open Go
set_option maxRecDepth 20000
set_option linter.defProp false

theorem get_ar (n sz : Nat) (xs : List T) (i : Nat) (p : List Nat) : T.get (.ar n sz xs) (i :: p) = if i < xs.length then T.get (xs.getD i default) p else none := by
  simp only [T.get]
  by_cases h : i < xs.length
  · rw [if_pos h, List.getElem?_eq_getElem h]; simp [h]
  · rw [if_neg h, List.getElem?_eq_none (by omega)]

theorem get_ba (n : Nat) (l : List UInt8) (i : Nat) (p : List Nat) : T.get (.ba n l) (i :: p) = if i < l.length then T.get (u8 (l.getD i 0)) p else none := by
  simp only [T.get]
  by_cases h : i < l.length
  · rw [if_pos h, List.getElem?_eq_getElem h]; simp [h]
  · rw [if_neg h, List.getElem?_eq_none (by omega)]

theorem off_ar (n sz : Nat) (xs : List T) (i : Nat) (p : List Nat) : T.off (.ar n sz xs) (i :: p) = if i < xs.length then (T.off (xs.getD i default) p).map (i * sz + ·) else none := by
  simp only [T.off]
  by_cases h : i < xs.length
  · rw [if_pos h, List.getElem?_eq_getElem h]; simp [h]
  · rw [if_neg h, List.getElem?_eq_none (by omega)]

theorem off_ba (n : Nat) (l : List UInt8) (i : Nat) (p : List Nat) : T.off (.ba n l) (i :: p) = if i < l.length then (T.off (u8 (l.getD i 0)) p).map (i + ·) else none := by
  simp only [T.off]
  by_cases h : i < l.length
  · rw [if_pos h, List.getElem?_eq_getElem h]; simp [h]
  · rw [if_neg h, List.getElem?_eq_none (by omega)]

theorem set_ar (n sz : Nat) (xs : List T) (i : Nat) (p : List Nat) (y : T) : T.set (.ar n sz xs) (i :: p) y = if i < xs.length then (match T.set (xs.getD i default) p y with | some z => some (.ar n sz (xs.set i z)) | none => none) else none := by
  simp only [T.set]
  by_cases h : i < xs.length
  · rw [if_pos h, List.getElem?_eq_getElem h]
    simp only [List.getD_eq_getElem?_getD, List.getElem?_eq_getElem h, Option.getD_some]
    cases T.set xs[i] p y <;> rfl
  · rw [if_neg h, List.getElem?_eq_none (by omega)]

theorem bget_by (l : List UInt8) (j : Nat) : Blk.get (.by l) [j] = if j < l.length then some (.t (u8 (l.getD j 0))) else none := by
  simp only [Blk.get]
  by_cases h : j < l.length
  · rw [if_pos h, List.getElem?_eq_getElem h]; simp [h]
  · rw [if_neg h, List.getElem?_eq_none (by omega)]; rfl

theorem bget_sq (sz : Nat) (xs : List T) (j : Nat) (p : List Nat) : Blk.get (.sq sz xs) (j :: p) = if j < xs.length then (match T.get (xs.getD j default) p with | some y => some (.t y) | none => none) else none := by
  simp only [Blk.get]
  by_cases h : j < xs.length
  · rw [if_pos h, List.getElem?_eq_getElem h]
    simp only [List.getD_eq_getElem?_getD, List.getElem?_eq_getElem h, Option.getD_some]
    cases T.get xs[j] p <;> rfl
  · rw [if_neg h, List.getElem?_eq_none (by omega)]

theorem boff_sq (sz : Nat) (xs : List T) (j : Nat) (p : List Nat) : Blk.off (.sq sz xs) (j :: p) = if j < xs.length then (T.off (xs.getD j default) p).map (j * sz + ·) else none := by
  simp only [Blk.off]
  by_cases h : j < xs.length
  · rw [if_pos h, List.getElem?_eq_getElem h]; simp [h]
  · rw [if_neg h, List.getElem?_eq_none (by omega)]

def FW1 := And.intro @gopsP.eq_1 <| And.intro @gops.eq_1 <| And.intro @gops.eq_2 <| And.intro @gstep.eq_1 <| And.intro @gstep.eq_2 <| And.intro @gstep.eq_3 <| And.intro @gstep.eq_4 <| And.intro @gstep.eq_5 <| And.intro @gstep.eq_6 <| And.intro @gstep.eq_7 <| And.intro @gstep.eq_8 <| And.intro @gstep.eq_9 <| And.intro @gstep.eq_10 <| And.intro @gstep.eq_11 <| And.intro @gstep.eq_12 <| And.intro @gstep.eq_13 <| And.intro @gstep.eq_14 <| And.intro @gstep.eq_15 <| And.intro @gstep.eq_16 <| And.intro @gstep.eq_17 <| And.intro @callee.eq_1 <| And.intro @callee.eq_2 <| And.intro @callee.eq_3 <| And.intro @gAppend.eq_1 <| And.intro @gAppend.eq_2 <| And.intro @gCopy.eq_1 <| And.intro @gCopy.eq_2 <| And.intro @gFunc.eq_1 <| And.intro @gFunc.eq_2 <| And.intro @gSlice.eq_1 <| And.intro @gSlice.eq_2 <| And.intro @gSlice.eq_3 <| And.intro @thawV.eq_1 <| And.intro @orStill.eq_1 <| And.intro @orStill.eq_2 <| And.intro @orElse2.eq_1 <| And.intro @orElse2.eq_2 <| And.intro @lkG.eq_1 <| And.intro @lkG.eq_2 <| And.intro @gcall.eq_1 <| And.intro @gcallAt.eq_1 <| And.intro @gcallI.eq_1 <| And.intro @gres.eq_1 <| And.intro @gres.eq_2 <| And.intro @reach.eq_1 <| And.intro @reach.eq_2 <| And.intro @reach.eq_3 <| And.intro @blkIdxs.eq_1 <| And.intro @blkIdxs.eq_2 <| And.intro @AV.idxs.eq_1 <| And.intro @AV.idxs.eq_2 <| And.intro @AV.idxs.eq_3 <| And.intro @AV.idxs.eq_4 <| And.intro @AV.idxs.eq_5 <| And.intro @AV.idxs.eq_6 <| And.intro @AV.idxs.eq_7 <| And.intro @AV.idxsL.eq_1 <| And.intro @AV.idxsL.eq_2 <| And.intro @lentIdxs.eq_1 <| And.intro @lentIdxs.eq_2 <| And.intro @lentIdxs.eq_3 <| And.intro @treeRows.eq_1 <| And.intro @treeRows.eq_2 <| And.intro @treeRows.eq_3 <| And.intro @argsI.eq_1 <| And.intro @argsI.eq_2 <| And.intro @argsI.eq_3 <| And.intro @argsI.eq_4 <| And.intro @argsS.eq_1 <| And.intro @argsS.eq_2 <| And.intro @argsS.eq_3 <| And.intro @argsS.eq_4 <| And.intro @snapV.eq_1 <| And.intro @disjL.eq_1 <| And.intro @disjL.eq_2 <| And.intro @immV.eq_1 <| And.intro @immV.eq_2 <| And.intro @immV.eq_3 <| And.intro @immVL.eq_1 <| @immVL.eq_2

def FW2 := And.intro @immLeaf.eq_1 <| And.intro @immLeaf.eq_2 <| And.intro @treeG.eq_1 <| And.intro @treeG.eq_2 <| And.intro @allT.eq_1 <| And.intro @allT.eq_2 <| And.intro @AV.asT.eq_1 <| And.intro @AV.asT.eq_2 <| And.intro @weave.eq_1 <| And.intro @weave.eq_2 <| And.intro @gback.eq_1 <| And.intro @backF.eq_1 <| And.intro @AV.rmap.eq_1 <| And.intro @AV.rmap.eq_2 <| And.intro @AV.rmap.eq_3 <| And.intro @AV.rmap.eq_4 <| And.intro @AV.rmap.eq_5 <| And.intro @AV.rmap.eq_6 <| And.intro @AV.rmap.eq_7 <| And.intro @AV.rmap.eq_8 <| And.intro @AV.rmap.eq_9 <| And.intro @AV.rmap.eq_10 <| And.intro @AV.rmap.eq_11 <| And.intro @AV.rmapL.eq_1 <| And.intro @AV.rmapL.eq_2 <| And.intro @Blk.rmap.eq_1 <| And.intro @Blk.rmap.eq_2 <| And.intro @tydV.eq_1 <| And.intro @tydV.eq_2 <| And.intro @tydV.eq_3 <| And.intro @tydVL.eq_1 <| And.intro @tydVL.eq_2 <| And.intro @tydVL.eq_3 <| And.intro @tydT.eq_1 <| And.intro @tydT.eq_2 <| And.intro @tydT.eq_3 <| And.intro @tydTL.eq_1 <| And.intro @tydTL.eq_2 <| And.intro @tydTL.eq_3 <| And.intro @tydVs.eq_1 <| And.intro @tydVs.eq_2 <| And.intro @tydVs.eq_3 <| And.intro @aStoreG.eq_1 <| And.intro @aStoreG.eq_2 <| And.intro @getSq.eq_1 <| And.intro @getSq.eq_2 <| And.intro @setSq.eq_1 <| And.intro @setSq.eq_2 <| And.intro @offSq.eq_1 <| And.intro @offSq.eq_2 <| And.intro @T.get.eq_1 <| And.intro @T.get.eq_2 <| And.intro @T.get.eq_5 <| And.intro @T.off.eq_1 <| And.intro @T.off.eq_2 <| And.intro @T.off.eq_5 <| And.intro @T.set.eq_1 <| And.intro @T.set.eq_2 <| And.intro @T.set.eq_4 <| And.intro @T.set.eq_5 <| And.intro @baSet.eq_1 <| And.intro @baSet.eq_2 <| And.intro @AV.get.eq_1 <| And.intro @AV.get.eq_2 <| And.intro @AV.get.eq_3 <| And.intro @AV.get.eq_4 <| And.intro @AV.off.eq_1 <| And.intro @AV.off.eq_2 <| And.intro @AV.off.eq_3 <| And.intro @AV.off.eq_4 <| And.intro @AV.set.eq_1 <| And.intro @AV.set.eq_2 <| And.intro @AV.set.eq_3 <| And.intro @AV.set.eq_4 <| And.intro @AV.set.eq_5 <| And.intro @AV.solid.eq_1 <| And.intro @AV.solid.eq_2 <| And.intro @AV.solid.eq_3 <| And.intro @AV.solid.eq_4 <| @AV.solid.eq_5

def FW3 := And.intro @AV.solid.eq_6 <| And.intro @AV.solidL.eq_1 <| And.intro @AV.solidL.eq_2 <| And.intro @AV.rows.eq_1 <| And.intro @AV.rows.eq_2 <| And.intro @AV.rows.eq_3 <| And.intro @AV.rows.eq_4 <| And.intro @AV.rowsL.eq_1 <| And.intro @AV.rowsL.eq_2 <| And.intro @aAlloc.eq_1 <| And.intro @aBox.eq_1 <| And.intro @aField.eq_1 <| And.intro @aIndex.eq_1 <| And.intro @aIndex.eq_2 <| And.intro @aIndex.eq_3 <| And.intro @aBuild.eq_1 <| And.intro @setParts.eq_1 <| And.intro @setParts.eq_2 <| And.intro @aBuild.setEnum.eq_1 <| And.intro @aBuild.setEnum.eq_2 <| And.intro @packV.eq_1 <| And.intro @aEqG.eq_1 <| And.intro @aEqG.eq_2 <| And.intro @aEqG.eq_3 <| And.intro @aEqG.eq_4 <| And.intro @aEqG.eq_5 <| And.intro @aEqG.eq_6 <| And.intro @aEqG.eq_7 <| And.intro @eqRes.eq_1 <| And.intro @eqRes.eq_2 <| And.intro @eqRes.eq_3 <| And.intro @eqRes.eq_4 <| And.intro @isNilp.eq_1 <| And.intro @isNilp.eq_2 <| And.intro @isNilp.eq_3 <| And.intro @isNilp.eq_4 <| And.intro @eqT.eq_1 <| And.intro @eqT.eq_2 <| And.intro @eqT.eq_3 <| And.intro @eqT.eq_4 <| And.intro @eqT.eq_5 <| And.intro @eqT.eq_6 <| And.intro @eqT.eq_7 <| And.intro @eqT.eq_8 <| And.intro @eqT.eq_9 <| And.intro @eqT.eq_10 <| And.intro @eqT.eq_11 <| And.intro @eqT.eq_12 <| And.intro @eqT.eq_13 <| And.intro @eqTL.eq_1 <| And.intro @eqTL.eq_2 <| And.intro @eqTL.eq_3 <| And.intro @eqTL.eq_4 <| And.intro @eqTA.eq_1 <| And.intro @eqTA.eq_2 <| And.intro @eqTA.eq_3 <| And.intro @eqTA.eq_4 <| And.intro @T.dep.eq_1 <| And.intro @T.dep.eq_2 <| And.intro @T.dep.eq_3 <| And.intro @T.dep.eq_4 <| And.intro @T.depL.eq_1 <| And.intro @T.depL.eq_2 <| And.intro @aSliceArr.eq_1 <| And.intro @aSlice3.eq_1 <| And.intro @aArrPtr.eq_1 <| And.intro @aStrBytes.eq_1 <| And.intro @aStrBytes.eq_2 <| And.intro @aAppendEx.eq_1 <| And.intro @aAppendZ.eq_def <| And.intro @zT.eq_1 <| And.intro @exFin.eq_1 <| And.intro @exFin.eq_2 <| And.intro @exFin.eq_3 <| And.intro @aCopyG.eq_1 <| And.intro @aCopyG.eq_2 <| And.intro @srcBytes.eq_1 <| And.intro @srcBytes.eq_2 <| And.intro @srcBytes.eq_3 <| @srcBytes.eq_4

def FW4 := And.intro @Blk.lay.eq_1 <| And.intro @Blk.lay.eq_2 <| And.intro @Blk.lay.eq_3 <| And.intro @Blk.lay.eq_4 <| And.intro @Blk.lay.eq_5 <| And.intro @Blk.layLen.eq_1 <| And.intro @Blk.layLen.eq_2 <| And.intro @Blk.layLen.eq_3 <| And.intro @Blk.layLen.eq_4 <| And.intro @Blk.layLen.eq_5 <| And.intro @Blk.layOff.eq_1 <| And.intro @Blk.layOff.eq_2 <| And.intro @Blk.layOff.eq_3 <| And.intro @Blk.layOff.eq_4 <| And.intro @subPart.eq_1 <| And.intro @subPart.eq_2 <| And.intro @freezeOnes.eq_1 <| And.intro @freezeOnes.eq_2 <| And.intro @aBuildListG.eq_1 <| And.intro @T.sizeL.eq_1 <| And.intro @T.sizeL.eq_2 <| And.intro @AV.sizeL.eq_1 <| And.intro @AV.sizeL.eq_2 <| And.intro @aopsP.eq_1 <| And.intro @aBuildList.eq_1 <| And.intro @isEnum.eq_1 <| And.intro @isEnum.eq_2 <| And.intro @allSz.eq_1 <| And.intro @allSz.eq_2 <| And.intro @aops.eq_1 <| And.intro @aops.eq_2 <| And.intro @wantA.eq_1 <| And.intro @aputs.eq_1 <| And.intro @astep.eq_1 <| And.intro @astep.eq_2 <| And.intro @astep.eq_3 <| And.intro @astep.eq_4 <| And.intro @astep.eq_5 <| And.intro @astep.eq_6 <| And.intro @astep.eq_7 <| And.intro @still.eq_1 <| And.intro @still.eq_2 <| And.intro @aStill.eq_1 <| And.intro @aStill.eq_2 <| And.intro @aStill.eq_3 <| And.intro @aStill.eq_4 <| And.intro @aStill.eq_5 <| And.intro @aStill.eq_6 <| And.intro @aStill.eq_7 <| And.intro @aStill.eq_8 <| And.intro @aStill.eq_9 <| And.intro @aStill.eq_10 <| And.intro @aStill.eq_11 <| And.intro @aStill.eq_12 <| And.intro @aStill.eq_13 <| And.intro @aStill.eq_14 <| And.intro @ev.eq_1 <| And.intro @ev.eq_2 <| And.intro @ev.eq_3 <| And.intro @ev.eq_4 <| And.intro @konst.eq_1 <| And.intro @konst.eq_2 <| And.intro @konst.eq_3 <| And.intro @konst.eq_4 <| And.intro @konst.eq_5 <| And.intro @konst.eq_6 <| And.intro @inKb.eq_1 <| And.intro @inKb.eq_2 <| And.intro @inKb.eq_3 <| And.intro @inKb.eq_4 <| And.intro @inKb.eq_5 <| And.intro @inKb.eq_6 <| And.intro @inKb.eq_7 <| And.intro @inKb.eq_8 <| And.intro @lk.eq_1 <| And.intro @lk.eq_2 <| And.intro @prune.eq_1 <| And.intro @lkF.eq_1 <| And.intro @lkF.eq_2 <| @tydL.eq_1

def FW5 := And.intro @tydL.eq_2 <| And.intro @tyd.eq_1 <| And.intro @tyd.eq_2 <| And.intro @callF.eq_1 <| And.intro @immArgs.eq_1 <| And.intro @immArgs.eq_2 <| And.intro @immT.eq_1 <| And.intro @immT.eq_2 <| And.intro @immT.eq_3 <| And.intro @immT.eq_4 <| And.intro @immT.eq_5 <| And.intro @snapArgs.eq_1 <| And.intro @snapArgs.eq_2 <| And.intro @snapT.eq_1 <| And.intro @rowT.eq_1 <| And.intro @rowT.eq_2 <| And.intro @rowT.eq_3 <| And.intro @rowT.eq_4 <| And.intro @rowT.eq_5 <| And.intro @rowT.eq_6 <| And.intro @rowT.eq_7 <| And.intro @rowT.eq_8 <| And.intro @rowT.eq_9 <| And.intro @joinR.eq_1 <| And.intro @joinR.eq_2 <| And.intro @AV.clean.eq_1 <| And.intro @AV.clean.eq_2 <| And.intro @AV.clean.eq_3 <| And.intro @AV.clean.eq_4 <| And.intro @AV.clean.eq_5 <| And.intro @AV.clean.eq_6 <| And.intro @AV.clean.eq_7 <| And.intro @AV.cleanL.eq_1 <| And.intro @AV.cleanL.eq_2 <| And.intro @T.clean.eq_1 <| And.intro @T.clean.eq_2 <| And.intro @T.clean.eq_3 <| And.intro @T.clean.eq_4 <| And.intro @T.clean.eq_5 <| And.intro @T.cleanL.eq_1 <| And.intro @T.cleanL.eq_2 <| And.intro @cleanBs.eq_1 <| And.intro @cleanBs.eq_2 <| And.intro @Blk.clean.eq_1 <| And.intro @Blk.clean.eq_2 <| And.intro @Blk.clean.eq_3 <| And.intro @Blk.clean.eq_4 <| And.intro @Blk.clean.eq_5 <| And.intro @AV.shift.eq_1 <| And.intro @AV.shift.eq_2 <| And.intro @AV.shift.eq_3 <| And.intro @AV.shift.eq_4 <| And.intro @AV.shift.eq_5 <| And.intro @AV.shift.eq_6 <| And.intro @AV.shift.eq_7 <| And.intro @AV.shift.eq_8 <| And.intro @AV.shift.eq_9 <| And.intro @AV.shift.eq_10 <| And.intro @AV.shift.eq_11 <| And.intro @AV.shiftL.eq_1 <| And.intro @AV.shiftL.eq_2 <| And.intro @Blk.shift.eq_1 <| And.intro @Blk.shift.eq_2 <| And.intro @freezeAll.eq_1 <| And.intro @freezeAll.eq_2 <| And.intro @freezeAll.eq_3 <| And.intro @freezeAll.eq_4 <| And.intro @freezeOne.eq_1 <| And.intro @aAppend.eq_1 <| And.intro @isSlStr.eq_1 <| And.intro @isSlStr.eq_2 <| And.intro @isSlStr.eq_3 <| And.intro @srcT.eq_1 <| And.intro @srcT.eq_2 <| And.intro @catT.eq_1 <| And.intro @catT.eq_2 <| And.intro @catT.eq_3 <| And.intro @catT.eq_4 <| And.intro @catT.eq_5 <| @catT.eq_6

def FW6 := And.intro @catT.eq_7 <| And.intro @catT.eq_8 <| And.intro @catT.eq_9 <| And.intro @appFin.eq_1 <| And.intro @appFin.eq_2 <| And.intro @appFin.eq_3 <| And.intro @aCopy.eq_1 <| And.intro @aCopy.eq_2 <| And.intro @aMake.eq_def <| And.intro @zeros.eq_1 <| And.intro @aStore.eq_1 <| And.intro @aStore.eq_2 <| And.intro @aBuildSlice.eq_1 <| And.intro @byteParts.eq_1 <| And.intro @byteParts.eq_2 <| And.intro @aBin.eq_1 <| And.intro @aBin.eq_2 <| And.intro @aBin.eq_3 <| And.intro @aBin.eq_4 <| And.intro @aBin.eq_5 <| And.intro @aBin.eq_6 <| And.intro @aBin.eq_7 <| And.intro @aBin.eq_8 <| And.intro @aBin.eq_9 <| And.intro @aBin.eq_10 <| And.intro @arith.eq_1 <| And.intro @arith.eq_2 <| And.intro @arith.eq_3 <| And.intro @arith.eq_4 <| And.intro @arith.eq_5 <| And.intro @arith.eq_6 <| And.intro @arith.eq_7 <| And.intro @arith.eq_8 <| And.intro @arith.eq_9 <| And.intro @arith.eq_10 <| And.intro @arith.eq_11 <| And.intro @arith.eq_12 <| And.intro @arith.eq_13 <| And.intro @arith.eq_14 <| And.intro @arith.eq_15 <| And.intro @arith.eq_16 <| And.intro @arith.eq_17 <| And.intro @isShift.eq_1 <| And.intro @isShift.eq_2 <| And.intro @isShift.eq_3 <| And.intro @aUn.eq_1 <| And.intro @aUn.eq_2 <| And.intro @aUn.eq_3 <| And.intro @aUn.eq_4 <| And.intro @aConv.eq_1 <| And.intro @aConv.eq_2 <| And.intro @alen.eq_1 <| And.intro @alen.eq_2 <| And.intro @alen.eq_3 <| And.intro @alen.eq_4 <| And.intro @alen.eq_5 <| And.intro @alen.eq_6 <| And.intro @alen.eq_7 <| And.intro @alen.eq_8 <| And.intro @alen.eq_9 <| And.intro @aSlice.eq_1 <| And.intro @abounds.eq_1 <| And.intro @abounds.eq_2 <| And.intro @abounds.eq_3 <| And.intro @abound.eq_1 <| And.intro @abound.eq_2 <| And.intro @cutL.eq_1 <| And.intro @cutL.eq_2 <| And.intro @cutL.eq_3 <| And.intro @cutL.eq_4 <| And.intro @aIndexAddr.eq_1 <| And.intro @aIndexAddr.eq_2 <| And.intro @aLoad.eq_1 <| And.intro @aLoad.eq_2 <| And.intro @aLoad.eq_3 <| And.intro @T.isAgg.eq_1 <| And.intro @T.isAgg.eq_2 <| And.intro @T.isAgg.eq_3 <| And.intro @T.isAgg.eq_4 <| @AV.isAgg.eq_1

def FW7 := And.intro @AV.isAgg.eq_2 <| And.intro @AV.isAgg.eq_3 <| And.intro @Ty.isAgg.eq_1 <| And.intro @Ty.isAgg.eq_2 <| And.intro @Ty.isAgg.eq_3 <| And.intro @T.size.eq_1 <| And.intro @T.size.eq_2 <| And.intro @T.size.eq_3 <| And.intro @T.size.eq_4 <| And.intro @AV.size.eq_1 <| And.intro @AV.size.eq_2 <| And.intro @AV.size.eq_3 <| And.intro @Blk.get.eq_3 <| And.intro @Blk.get.eq_4 <| And.intro @Blk.get.eq_5 <| And.intro @Blk.off.eq_1 <| And.intro @Blk.off.eq_3 <| And.intro @Blk.off.eq_4 <| And.intro @Blk.off.eq_5 <| And.intro @aMins.eq_1 <| And.intro @aMins.eq_2 <| And.intro @aMin2.eq_1 <| And.intro @aMin2.eq_2 <| And.intro @aFieldAddr.eq_1 <| And.intro @u8.eq_1 <| And.intro @AS.norm.eq_1 <| And.intro @renS.eq_1 <| And.intro @renH.eq_1 <| And.intro @AV.ren.eq_1 <| And.intro @AV.ren.eq_2 <| And.intro @AV.ren.eq_3 <| And.intro @AV.ren.eq_4 <| And.intro @AV.ren.eq_5 <| And.intro @AV.ren.eq_6 <| And.intro @AV.ren.eq_7 <| And.intro @AV.ren.eq_8 <| And.intro @AV.ren.eq_9 <| And.intro @AV.ren.eq_10 <| And.intro @AV.ren.eq_11 <| And.intro @AV.renL.eq_1 <| And.intro @AV.renL.eq_2 <| And.intro @idx.eq_1 <| And.intro @idx.eq_2 <| And.intro @Blk.ren.eq_1 <| And.intro @Blk.ren.eq_2 <| And.intro @entry.eq_1 <| And.intro @entry.eq_2 <| And.intro @gentry.eq_1 <| And.intro @gentry.eq_2 <| And.intro @byteOf.eq_1 <| And.intro @qrunP.eq_1 <| And.intro @qrun.eq_1 <| And.intro @qrun.eq_2 <| And.intro @qone.eq_1 <| And.intro @qstep.eq_1 <| And.intro @qstep.eq_2 <| And.intro @callQ.eq_1 <| And.intro @expV.eq_1 <| And.intro @expV.eq_2 <| And.intro @expV.eq_3 <| And.intro @expV.eq_4 <| And.intro @expL.eq_1 <| And.intro @expL.eq_2 <| And.intro @plainR.eq_1 <| And.intro @plainR.eq_2 <| And.intro @AV.plain.eq_1 <| And.intro @AV.plain.eq_2 <| And.intro @thaw.eq_1 <| And.intro @one.eq_1 <| And.intro @one.eq_2 <| And.intro @retVals.eq_1 <| And.intro @retValsG.eq_1 <| And.intro @drunP.eq_1 <| And.intro @drun.eq_1 <| And.intro @drun.eq_2 <| And.intro @dstep.eq_1 <| And.intro @dS.eq_1 <| And.intro @dS.eq_2 <| And.intro @dC.eq_1 <| @dC.eq_2

def FW8 := And.intro @sameAt.eq_1 <| And.intro @sameAt.eq_2 <| And.intro @dA.eq_1 <| And.intro @dZ.eq_1 <| And.intro @dZ.eq_2 <| And.intro @aBB.eq_1 <| And.intro @aBB.eq_2 <| And.intro @sstep.eq_1 <| And.intro @sstep.eq_2 <| And.intro @sstep.eq_3 <| And.intro @sstep.eq_4 <| And.intro @sstep.eq_5 <| And.intro @sstep.eq_6 <| And.intro @sstep.eq_7 <| And.intro @sstep.eq_8 <| And.intro @sstep.eq_9 <| And.intro @sstep.eq_10 <| And.intro @sstep.eq_11 <| And.intro @sstep.eq_12 <| And.intro @sstep.eq_13 <| And.intro @sstep.eq_14 <| And.intro @sstep.eq_15 <| And.intro @sBuild.eq_1 <| And.intro @noOwn.eq_1 <| And.intro @noOwn.eq_2 <| And.intro @noOwn.eq_3 <| And.intro @noOwn.eq_4 <| And.intro @noPtr.eq_1 <| And.intro @noPtr.eq_2 <| And.intro @intOnly.eq_1 <| And.intro @intOnly.eq_2 <| And.intro @posA.eq_1 <| And.intro @posV.eq_1 <| And.intro @slIdxs.eq_1 <| And.intro @slIdxs.eq_2 <| And.intro @blksIdxs.eq_1 <| And.intro @blksIdxs.eq_2 <| And.intro @viewOk.eq_1 <| And.intro @viewOk.eq_2 <| And.intro @maskV.eq_1 <| And.intro @maskV.eq_2 <| And.intro @one1.eq_1 <| And.intro @get_ar <| And.intro @get_ba <| And.intro @off_ar <| And.intro @off_ba <| And.intro @set_ar <| And.intro @bget_by <| And.intro @bget_sq <| @boff_sq

theorem bbq : (true == true) = true ∧ (true == false) = false ∧ (false == true) = false ∧ (false == false) = true ∧ (true != true) = false ∧ (true != false) = true ∧ (false != true) = true ∧ (false != false) = false := by decide

def SL := And.intro bbq <| And.intro @Ty.int.injEq <| And.intro @Ty.sl.injEq <| And.intro @Ty.ptr.injEq <| And.intro @List.map_cons.{0, 0} <| And.intro @List.map_nil.{0, 0} <| And.intro @List.getElem?_cons_zero.{0} <| And.intro @List.getElem?_cons_succ.{0} <| And.intro @List.getElem?_nil.{0} <| And.intro @List.length_cons.{0} <| And.intro @List.length_nil.{0} <| And.intro @List.nil_append.{0} <| And.intro @List.cons_append.{0} <| And.intro @List.set_cons_zero.{0} <| And.intro @List.set_cons_succ.{0} <| And.intro @List.getD_cons_zero.{0} <| And.intro @List.getD_cons_succ.{0} <| And.intro @List.zip_cons_cons.{0, 0} <| And.intro @List.zip_nil_left.{0, 0} <| And.intro @List.zip_nil_right.{0, 0} <| And.intro @List.take_succ_cons.{0} <| And.intro @List.take_zero.{0} <| And.intro @List.take_nil.{0} <| And.intro @List.drop_succ_cons.{0} <| And.intro @List.drop_zero.{0} <| And.intro @List.drop_nil.{0} <| And.intro @List.all_cons.{0} <| And.intro @List.all_nil.{0} <| And.intro @List.any_cons.{0} <| And.intro @List.any_nil.{0} <| And.intro @List.mem_cons.{0} <| And.intro @List.not_mem_nil.{0} <| And.intro @List.contains_cons.{0} <| And.intro @List.contains_nil.{0} <| And.intro @List.isEmpty_nil.{0} <| And.intro @List.isEmpty_cons.{0} <| And.intro @Option.map_some.{0, 0} <| And.intro @Option.map_none.{0, 0} <| And.intro @Option.getD_some.{0} <| And.intro @Option.getD_none.{0} <| And.intro @Nat.zero_add <| And.intro @Nat.add_zero <| And.intro @Nat.sub_zero <| And.intro @Nat.mul_one <| And.intro @Nat.zero_mul <| And.intro @and_true <| And.intro @true_and <| And.intro @and_self <| And.intro @and_false <| And.intro @false_and <| And.intro @true_or <| And.intro @or_true <| And.intro @or_false <| And.intro @false_or <| And.intro @or_self <| And.intro @not_true_eq_false <| And.intro @not_false_eq_true <| And.intro @Bool.and_true <| And.intro @Bool.true_and <| And.intro @Bool.and_self <| And.intro @Bool.and_false <| And.intro @Bool.false_and <| And.intro @Bool.or_true <| And.intro @Bool.true_or <| And.intro @Bool.or_false <| And.intro @Bool.false_or <| And.intro @Bool.or_self <| And.intro @Bool.false_eq_true <| And.intro @Bool.true_eq_false <| And.intro @beq_self_eq_true.{0} <| And.intro @decide_true <| And.intro @decide_false <| And.intro @decide_eq_true_eq <| And.intro @Bool.not_true <| And.intro @Bool.not_false <| And.intro @ne_eq.{1} <| And.intro @List.replicate_zero.{0} <| And.intro @List.replicate_succ.{0} <| And.intro @Int.natCast_nonneg <| And.intro @Int.toNat_natCast <| And.intro @BEq.rfl.{0} <| And.intro @List.length_replicate.{0} <| And.intro @List.length_map.{0, 0} <| And.intro @Nat.min_self <| And.intro @List.take_length.{0} <| And.intro @List.drop_replicate.{0} <| And.intro @Nat.sub_self <| And.intro @List.append_nil.{0} <| And.intro @Int.zero_add <| And.intro @Int.add_zero <| And.intro @Int.cast_ofNat_Int <| And.intro @Int.natCast_zero <| And.intro @shr8 <| And.intro @Nat.le_refl <| And.intro @Nat.lt_irrefl <| And.intro @Nat.not_lt_zero <| And.intro @Nat.zero_le <| And.intro @Nat.lt_add_one <| And.intro @List.drop_length.{0} <| And.intro @Nat.succ_ne_self <| @Int.toNat_zero

def FWA := And.intro @FW1 <| And.intro @FW2 <| And.intro @FW3 <| And.intro @FW4 <| And.intro @FW5 <| And.intro @FW6 <| And.intro @FW7 <| And.intro @FW8 <| @SL

def LN := And.intro (@List.length_map.{0, 0}) <| And.intro (@List.length_append.{0}) <| And.intro (@List.length_cons.{0}) <| And.intro (@List.length_nil.{0}) <| And.intro (@List.length_replicate.{0}) <| And.intro (@List.length_take.{0}) <| And.intro (@List.length_drop.{0}) (@List.length_set.{0})

theorem AWP.gregW {kp : Nat} {P : Program} {E : Env} {q : List TypeId} (hX : XOk P E q) {gl : GCalls} (hcl : GClOk P gl) (keep : List Nat) {N id : Nat} {l : List Oper} {Q : Exit → AS → Prop} {S S' S2 : AS}
    (h : gopsP E q gl N keep l S = some S') (hw : Weak kp N S' S2) (hQ : Q .normal S2) : AWP kp P N (.region id l.toArray false) Q S := by
  intro c hc m w a hi hs
  have h1 := AWP.greg (kp := kp) (Q := fun e S => e = .normal ∧ S = S') (id := id) hX hcl keep h ⟨rfl, rfl⟩ c hc m w a hi hs
  refine wp_mono h1 fun e a' w' ⟨m', S1, k1, k2, k3, k4⟩ => ?_
  rw [k4] at k1 k2
  rw [k3]
  obtain ⟨m2, g1, g2⟩ := hw c hc m' w' a' k1 k2
  exact ⟨m2, S2, g1, g2, hQ⟩

/-- Noughts. -/
def zby (n : Nat) : List UInt8 := List.replicate n 0
def zar (n : Nat) (x : T) : List T := List.replicate n x

theorem zby_len (n : Nat) : (zby n).length = n := by simp [zby]
theorem zar_len (n : Nat) (x : T) : (zar n x).length = n := by simp [zar]

/-! ### Checks of a table. -/

def fitB (E : Env) : Tbl → Bool
  | [] => true
  | (_, ti) :: r => (match ti.ty, ti.zero with
    | .st fs, .st zs => fitL E fs zs 0
    | _, _ => true) && fitB E r

theorem fitOk_of {l : Tbl} (h : fitB (envOf l) l = true) : FitOk (envOf l) := by
  intro t fs zs ht hz
  have key : ∀ r : Tbl, fitB (envOf l) r = true → ∀ t ti, (t, ti) ∈ r → ti.ty = .st fs → ti.zero = .st zs → fitL (envOf l) fs zs 0 = true := by
    intro r
    induction r with
    | nil => intro _ t ti hm; simp at hm
    | cons p r ih =>
      intro hb t ti hm h1 h2
      obtain ⟨k, tk⟩ := p
      simp only [fitB, Bool.and_eq_true] at hb
      rcases List.mem_cons.1 hm with he | hm
      · cases he
        have := hb.1
        rw [h1, h2] at this
        exact this
      · exact ih hb.2 t ti hm h1 h2
  rcases envOf_get l t with h1 | h1
  · rw [h1] at ht; simp [badTI] at ht
  · exact key l h t _ h1 ht hz

def eqB (P : Program) (t : TypeId) : Bool := !P.eqGuardType P.depth t && (match P.underlying t with
  | some (.struct fs) => !P.stoodInHeld t && fs.toList.all (fun f => f.name != "_")
  | _ => true)

theorem eqTy_of {P : Program} {t : TypeId} (h : eqB P t = true) : EqTy P t := by
  simp only [eqB, Bool.and_eq_true, Bool.not_eq_true'] at h
  refine ⟨h.1, fun fs hfs => ?_⟩
  have h2 := h.2
  rw [hfs] at h2
  simp only [Bool.and_eq_true, Bool.not_eq_true', List.all_eq_true, bne_iff_ne, ne_eq] at h2
  exact h2

def eqsB (P : Program) : List TypeId → Bool
  | [] => true
  | t :: r => eqB P t && eqsB P r

theorem eqsB_ok {P : Program} {q : List TypeId} (h : eqsB P q = true) : ∀ t ∈ q, EqTy P t := by
  induction q with
  | nil => intro t ht; simp at ht
  | cons a r ih =>
    intro t ht
    simp only [eqsB, Bool.and_eq_true] at h
    rcases List.mem_cons.1 ht with rfl | ht
    · exact eqTy_of h.1
    · exact ih h.2 t ht

end Go.Fw

end
