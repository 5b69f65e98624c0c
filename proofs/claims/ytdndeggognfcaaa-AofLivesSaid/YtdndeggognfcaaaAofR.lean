/- AofTorn: the plain law. -/
import Derived.Test.YtdndeggognfcaaaAofG
namespace Go.Proofs.Ytdndeggognfcaaa
open Go.RowKit Crc Fil
set_option linter.unusedVariables false
set_option linter.unusedSectionVars false
set_option linter.unusedSimpArgs false
set_option maxRecDepth 100000

theorem cutS_list (s : ByteArray) (n : Nat) : (cutS s n).toList = s.toList.take n := by unfold cutS; rw [toList_mk]
theorem bs_inv (l : List ByteArray) : (l.map fun s => s.toList).map bs = l := by
  rw [List.map_map]
  have : (bs ∘ fun s : ByteArray => s.toList) = id := by funext s; exact bs_of s
  rw [this, List.map_id]
theorem frmsB_take (l : List ByteArray) (j : Nat) : frms ((l.map fun s => s.toList).take j) = frmsB (l.take j) := by unfold frmsB; rw [List.map_take]
/-- A text of whole frames, opened. -/
theorem open_frames {recs : List ByteArray} (hg : ∀ x ∈ recs, good x.toList) (g : Nat) : openL g ⟨bs (frmsB recs), (frmsB recs).length, none, none⟩ = ⟨g, ⟨bs (frmsB recs), (frmsB recs).length, none, none⟩, recs, recs.length, false⟩ := by
  have hr : readL (frmsB recs) = recs.map fun s => s.toList := read_frms' (by intro x hx; obtain ⟨s, hs, rfl⟩ := List.mem_map.1 hx; exact hg s hs)
  unfold openL recsL
  dsimp only
  rw [bs_list, hr, bs_inv]
  have hc : (cutR ⟨bs (frmsB recs), (frmsB recs).length, none, none⟩ (((frms (recs.map fun s => s.toList)).length : Nat) : Int)).2 = ⟨bs (frmsB recs), (frmsB recs).length, none, none⟩ := by
    have hz := bs_size (frmsB recs)
    unfold cutR
    rw [if_neg (by dsimp only; rw [hz]; unfold frmsB; omega)]
    unfold syncT
    dsimp only
    rw [cutS_all _ _ (by rw [hz]; unfold frmsB; simp), hz]
  rw [hc]
/-- A text of frames that is cut off, opened. -/
theorem open_cut {recs : List ByteArray} (hg : ∀ x ∈ recs, good x.toList) (g k su : Nat) (hk : k ≤ (frmsB recs).length) :
    ∃ j, j ≤ recs.length ∧ openL g ⟨cutS (bs (frmsB recs)) k, su, none, none⟩ = ⟨g, ⟨bs (frmsB (recs.take j)), (frmsB (recs.take j)).length, none, none⟩, recs.take j, j, false⟩ ∧ (frmsB (recs.take j)).length ≤ k ∧ ∀ x, recs[j]? = some x → k < (frmsB (recs.take j)).length + x.size + 8 := by
  obtain ⟨j, h1, h2, h3, h4⟩ := read_cut (l := recs.map fun s : ByteArray => s.toList) (by intro x hx; obtain ⟨s, hs, rfl⟩ := List.mem_map.1 hx; exact hg s hs) k hk
  rw [frmsB_take] at h3 h4
  have h1' : j ≤ recs.length := by simpa using h1
  have hr : readL (cutS (bs (frmsB recs)) k).toList = (recs.map fun s => s.toList).take j := by rw [cutS_list, bs_list]; exact h2
  refine ⟨j, h1', ?_, h3, fun x hx => ?_⟩
  · unfold openL recsL
    dsimp only
    rw [hr, ← List.map_take, bs_inv, List.map_take, frmsB_take]
    have hz : (cutS (bs (frmsB recs)) k).size = k := cutS_size _ _ (by rw [bs_size]; exact hk)
    have hsp : frmsB recs = frmsB (recs.take j) ++ frmsB (recs.drop j) := by
      unfold frmsB
      rw [← frms_app, ← List.map_append, List.take_append_drop]
    have hc : (cutR ⟨cutS (bs (frmsB recs)) k, su, none, none⟩ (((frmsB (recs.take j)).length : Nat) : Int)).2 = ⟨bs (frmsB (recs.take j)), (frmsB (recs.take j)).length, none, none⟩ := by
      unfold cutR
      rw [if_neg (by dsimp only; rw [hz]; omega)]
      unfold syncT
      dsimp only
      have e : cutS (cutS (bs (frmsB recs)) k) (((frmsB (recs.take j)).length : Nat) : Int).toNat = bs (frmsB (recs.take j)) := by
        apply bytes_ext
        rw [cutS_list, cutS_list, bs_list, bs_list, Int.toNat_natCast, List.take_take, Nat.min_eq_left h3, hsp, List.take_left' rfl]
      rw [e, bs_size]
    rw [hc, List.length_take, Nat.min_eq_left h1']
  · have := h4 x.toList (by rw [List.getElem?_map, hx]; rfl)
    rwa [size_list] at this
theorem frms_next {l : List ByteArray} {i : Nat} {x : ByteArray} (h : l[i]? = some x) (hg : good x.toList) : (frmsB (l.take (i + 1))).length = (frmsB (l.take i)).length + x.size + 8 := by
  rw [frms_snoc h, List.length_append, frm_len hg, size_list]
  omega
theorem frms_pre {l : List ByteArray} (j : Nat) : (bs (frmsB l)).extract 0 (frmsB (l.take j)).length = bs (frmsB (l.take j)) := by
  rw [extract_cut]
  apply bytes_ext
  have hsp : frmsB l = frmsB (l.take j) ++ frmsB (l.drop j) := by
    unfold frmsB
    rw [← frms_app, ← List.map_append, List.take_append_drop]
  rw [cutS_list, bs_list, bs_list, hsp, List.take_left' rfl]
end Go.Proofs.Ytdndeggognfcaaa
