/- What must come of fixed calls: the plain facts. -/
import Derived.Test.YtdbboooblbdihaaRspT
import Derived.Test.YtdbboooblbdihaaRspU
namespace Go.Proofs.Ytdbboooblbdihaa
open Go.RowKit
set_option linter.unusedVariables false
set_option linter.unusedSectionVars false
set_option linter.unusedSimpArgs false
set_option maxRecDepth 100000

def sGET : ByteArray := ⟨#[71, 69, 84]⟩
def sa : ByteArray := ⟨#[97]⟩
def sbc : ByteArray := ⟨#[98, 99]⟩
def kF : ByteArray := ⟨#[42, 50, 13, 10, 36, 51, 13, 10, 71, 69, 84, 13, 10, 36, 49, 13, 10, 97, 13, 10]⟩
def kT1 : ByteArray := ⟨#[42, 49, 13, 10, 36, 50, 13, 10, 98]⟩
def kT2 : ByteArray := ⟨#[99, 13, 10, 42, 48, 13, 10, 42, 54, 53, 13, 10, 42, 49]⟩
def kS : ByteArray := ⟨#[42, 51, 13, 10, 58, 45, 53, 13, 10, 36, 45, 49, 13, 10, 36, 50, 13, 10, 120, 13, 13, 10]⟩
def kI : List Itm := [⟨6, 3, ⟨#[]⟩⟩, ⟨3, -5, ⟨#[]⟩⟩, ⟨5, 0, ⟨#[]⟩⟩, ⟨4, 0, ⟨#[120, 13]⟩⟩]
theorem mk_list (l : List UInt8) : (⟨l.toArray⟩ : ByteArray).toList = l := toList_mk l
theorem decL_1 : decL 1 = [49] := by rw [show (1 : Int) = ((1 : Nat) : Int) from rfl, decL_nat, digs_lt (by decide)]; rfl
theorem decL_2 : decL 2 = [50] := by rw [show (2 : Int) = ((2 : Nat) : Int) from rfl, decL_nat, digs_lt (by decide)]; rfl
theorem decL_3 : decL 3 = [51] := by rw [show (3 : Int) = ((3 : Nat) : Int) from rfl, decL_nat, digs_lt (by decide)]; rfl
theorem decL_m5 : decL (-5) = [45, 53] := by unfold decL; rw [if_pos (by decide), show Int.natAbs (-5) = 5 from rfl, digs_lt (by decide)]; rfl
theorem kF_eq : frameB [sGET, sa] = kF := by
  unfold frameB
  rw [if_pos (by decide)]
  unfold frameL headL bulkL
  simp only [List.flatMap_cons, List.flatMap_nil, List.length_cons, List.length_nil]
  rw [show sGET.toList = [71, 69, 84] from toList_mk [71, 69, 84], show sa.toList = [97] from toList_mk [97]]
  simp only [List.length_cons, List.length_nil]
  rw [show (((0 + 1 + 1 : Nat)) : Int) = 2 from rfl, show (((0 + 1 + 1 + 1 : Nat)) : Int) = 3 from rfl, show (((0 + 1 : Nat)) : Int) = 1 from rfl, decL_1, decL_2, decL_3]
  rfl
theorem c1 : cmdP (kF ++ kT1).toList = .ok [sGET, sa] kT1.toList := by
  rw [toList_append2, show kF.toList = _ from toList_mk [42, 50, 13, 10, 36, 51, 13, 10, 71, 69, 84, 13, 10, 36, 49, 13, 10, 97, 13, 10], show kT1.toList = _ from toList_mk [42, 49, 13, 10, 36, 50, 13, 10, 98]]
  kernel_rfl
theorem c2 : cmdP kT1.toList = .er 3 := by
  rw [show kT1.toList = _ from toList_mk [42, 49, 13, 10, 36, 50, 13, 10, 98]]
  kernel_rfl
theorem k1 : rdAll (kF ++ kT1).toList = ([⟨[sGET, sa], 0⟩], kT1.toList, false) := by
  rw [rdAll_ok c1, rdAll_er c2]
  rfl
def kR : List UInt8 := [42, 48, 13, 10, 42, 54, 53, 13, 10, 42, 49]
theorem c3 : cmdP (kT1 ++ kT2).toList = .ok [sbc] kR := by
  rw [toList_append2, show kT1.toList = _ from toList_mk [42, 49, 13, 10, 36, 50, 13, 10, 98], show kT2.toList = _ from toList_mk [99, 13, 10, 42, 48, 13, 10, 42, 54, 53, 13, 10, 42, 49]]
  kernel_rfl
theorem c4 : cmdP kR = .ok [] [42, 54, 53, 13, 10, 42, 49] := by kernel_rfl
theorem c5 : cmdP [42, 54, 53, 13, 10, 42, 49] = .er 13 := by kernel_rfl
theorem k2 : rdAll (kT1 ++ kT2).toList = ([⟨[sbc], 0⟩, ⟨[], 13⟩], [], true) := by
  rw [rdAll_ok c3, rdAll_ok c4, rdAll_er c5]
  rfl
theorem kI_ok : ∀ x ∈ kI, ItmOk x := by
  intro x hx
  simp only [kI, List.mem_cons, List.not_mem_nil, or_false] at hx
  rcases hx with rfl | rfl | rfl | rfl <;> exact ⟨by decide, by decide, by decide, by decide, by decide⟩
theorem kI_right : rightL kI := by decide
theorem kI_not : ¬ rightL (kI.take 3) := by decide
theorem kS_eq : encB kI = kS := by
  unfold encB
  rw [if_pos kI_right]
  unfold encL kI
  simp only [List.flatMap_cons, List.flatMap_nil]
  rw [itL_o _ _ (by decide) (by decide) (by decide) (by decide) (by decide), itL_3, itL_5, itL_4, decL_3, decL_m5]
  unfold bulkL
  rw [show (⟨#[120, 13]⟩ : ByteArray).toList = [120, 13] from toList_mk [120, 13]]
  simp only [List.length_cons, List.length_nil]
  rw [show (((0 + 1 + 1 : Nat)) : Int) = 2 from rfl, decL_2]
  rfl
theorem kS_list : kS.toList = encL kI := by
  have h := kS_eq
  unfold encB at h
  rw [if_pos kI_right] at h
  rw [← h, bsv_list]
theorem k3 : decR (kS ++ ⟨#[43]⟩).toList = (kI, 22, 0) := by
  unfold decR
  rw [toList_append2, kS_list, dec_fwd kI_right kI_ok]
  rw [← kS_list]
  simp only [List.length_append, size_list]
  rfl
theorem k4 : decR (kS.extract 0 9).toList = ([], 0, 3) := by
  have e : decP (kS.extract 0 9).toList = .er 3 := by
    refine dec_short kI_right kI_ok (m := kS.toList.drop 9) ?_ ?_
    · rw [← kS_list]
      have : (kS.extract 0 9).toList = kS.toList.take 9 := by
        rw [Lib.toList_data, Lib.toList_data]
        simp
      rw [this, List.take_append_drop]
    · intro h
      have := congrArg List.length h
      rw [List.length_drop, size_list] at this
      simp [kS] at this
      revert this
      decide
  unfold decR
  rw [e]
theorem k5 : decR (⟨#[43, 97, 7]⟩ : ByteArray).toList = ([], 0, 4) := by
  unfold decR
  rw [toList_mk [43, 97, 7]]
  have e : decP [43, 97, 7] = .er 4 := decA_er (by decide) rfl
  rw [e]
end Go.Proofs.Ytdbboooblbdihaa
