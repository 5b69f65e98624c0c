/- The walks of package aof: a number's bytes, frames, the first record of a text. -/
import Derived.Test.YtdndeggognfcaaaAofW
import Derived.Test.YtdndeggognfcaaaTxtS
import Derived.Deep.CutRange
namespace Go.Proofs.Ytdndeggognfcaaa
open Go.RowKit Crc
set_option linter.unusedVariables false
set_option linter.unusedSectionVars false
set_option linter.unusedSimpArgs false
set_option maxRecDepth 100000


theorem TabAt.kp {w w' : World} {b : Nat} {L : List Nat} (h : TabAt w b) (hk : Kp L w w') (hn : b ∉ L) : TabAt w' b := by
  obtain ⟨cs, hb, hc⟩ := h
  exact ⟨cs, hk.heap hb hn, hc⟩
theorem TabAt.ext {w w' : World} {b : Nat} (h : TabAt w b) (hx : Ext w w') : TabAt w' b := h.kp (L := []) (Kp.of_ext hx) (by simp)
def bs (l : List UInt8) : ByteArray := ⟨l.toArray⟩
theorem bs_list (l : List UInt8) : (bs l).toList = l := toList_mk l
theorem bs_size (l : List UInt8) : (bs l).size = l.length := by rw [← size_list, bs_list]
theorem bs_app (a b : List UInt8) : bs a ++ bs b = bs (a ++ b) := bytes_ext (by rw [toList_append2, bs_list, bs_list, bs_list])
theorem bs_of (s : ByteArray) : bs s.toList = s := bytes_ext (by rw [bs_list])
theorem byteV_nat (m : Nat) (r : Int) (h : r = ((m % 256 : Nat) : Int)) : byteV (UInt8.ofNat m) = .int .u8 r := by
  subst h
  simp [byteV]
set_option maxHeartbeats 4000000 in
theorem number_any (n : Nat) (hn : n < 4294967296) (w : World) :
    Calls Try.prog 57 #[.int .u32 (n : Int)] w fun e w' => e = .returned (.string (bs (four n))) ∧ Ext w w' := by
  obtain ⟨i0, hi0, hz0, hz1, hz2⟩ := info_parts Try.u8Info
  have hmk := run_make (P := Try.prog) w 50 5 i0 (.int .u8 0) Try.underlying50 hi0 hz0 .i64 .i64 4 4 (by decide) (by decide) (by rw [hz2]; decide) (by decide)
  rw [hz1] at hmk
  have hb := heap_alloc_new w (.cells (madeCells (Value.int .u8 0).cells ((4 : Int).toNat * 1)) 5)
  have hx := Ext.alloc w (.cells (madeCells (Value.int .u8 0).cells ((4 : Int).toNat * 1)) 5)
  have hs : (madeCells (Value.int .u8 0).cells ((4 : Int).toNat * 1)).size = 4 := size_madeCells _ _
  generalize madeCells (Value.int .u8 0).cells ((4 : Int).toNat * 1) = cs at hmk hb hx hs
  have HB := Lib.hid hb
  have HX := Lib.hid hx
  have HS := Lib.hid hs
  clear hb hx hs
  go_enter Try.func57, Try.ntmps57
  go_wp2_with fail
  go_loopw [8] (fun iv wr => ∃ (k : Nat) (ds : Array Value), k ≤ 4 ∧ iv = .int .i64 (k : Int) ∧ wr.heap[w.heap.size]? = some (.cells ds 5 (0, 0)) ∧ ds.size = 4 ∧ (∀ i, i < k → ds[i]? = (four n)[i]?.map byteV) ∧ Ext w wr) (fun iv _ => 4 - (intOf iv).toNat)
  case atStart => exact ⟨0, cs, by omega, rfl, HB.out, HS.out, by omega, HX.out⟩
  case round =>
    obtain ⟨k, ds, hk, rfl, hb, hs, hi, hx⟩ := hrel
    have HX := Lib.hid hx
    have HI := Lib.hid hi
    clear hx hi
    by_cases hkl : k < 4
    · obtain ⟨x, hx⟩ : ∃ x, ds[k]? = some x := ⟨_, Array.getElem?_eq_getElem (by omega)⟩
      have hkc : k = 0 ∨ k = 1 ∨ k = 2 ∨ k = 3 := by omega
      rcases hkc with rfl | rfl | rfl | rfl
      · have hst := heap_setCell_same wr w.heap.size 0 ds 5 (.int .u8 ((n : Int) / 16777216)) hb
        have hxs : Ext w (wr.setCell ⟨w.heap.size, 0, none⟩ (.int .u8 ((n : Int) / 16777216))) := (Kp.store (L := [w.heap.size]) w.heap.size 0 _ (by simp)).to_ext HX.out (by simp)
        have c0 : wr.cell? ⟨w.heap.size, 0, none⟩ = some x := (heap_cell hb 0).trans hx
        have f0 := heap_frozen hb 0
        go_wp2_with fail
        go_roundw
        case rel =>
          refine ⟨0 + 1, _, by omega, by go_num, hst, by rw [Array.size_setIfInBounds]; exact hs, fun i hi => ?_, hxs⟩
          by_cases e : i = 0
          · subst e
            rw [Array.getElem?_setIfInBounds_self_of_lt (by omega)]
            exact congrArg some (byteV_nat (n / 16777216) _ (by omega)).symm
          · rw [Array.getElem?_setIfInBounds_ne (by omega)]
            exact HI.out i (by omega)
        case measure => simp [intOf]
      · have hst := heap_setCell_same wr w.heap.size 1 ds 5 (.int .u8 ((n : Int) / 65536 % 256)) hb
        have hxs : Ext w (wr.setCell ⟨w.heap.size, 1, none⟩ (.int .u8 ((n : Int) / 65536 % 256))) := (Kp.store (L := [w.heap.size]) w.heap.size 1 _ (by simp)).to_ext HX.out (by simp)
        have c0 : wr.cell? ⟨w.heap.size, 1, none⟩ = some x := (heap_cell hb 1).trans hx
        have f0 := heap_frozen hb 1
        go_wp2_with fail
        go_roundw
        case rel =>
          refine ⟨1 + 1, _, by omega, by go_num, hst, by rw [Array.size_setIfInBounds]; exact hs, fun i hi => ?_, hxs⟩
          by_cases e : i = 1
          · subst e
            rw [Array.getElem?_setIfInBounds_self_of_lt (by omega)]
            exact congrArg some (byteV_nat (n / 65536) _ (by omega)).symm
          · rw [Array.getElem?_setIfInBounds_ne (by omega)]
            exact HI.out i (by omega)
        case measure => simp [intOf]
      · have hst := heap_setCell_same wr w.heap.size 2 ds 5 (.int .u8 ((n : Int) / 256 % 256)) hb
        have hxs : Ext w (wr.setCell ⟨w.heap.size, 2, none⟩ (.int .u8 ((n : Int) / 256 % 256))) := (Kp.store (L := [w.heap.size]) w.heap.size 2 _ (by simp)).to_ext HX.out (by simp)
        have c0 : wr.cell? ⟨w.heap.size, 2, none⟩ = some x := (heap_cell hb 2).trans hx
        have f0 := heap_frozen hb 2
        go_wp2_with fail
        go_roundw
        case rel =>
          refine ⟨2 + 1, _, by omega, by go_num, hst, by rw [Array.size_setIfInBounds]; exact hs, fun i hi => ?_, hxs⟩
          by_cases e : i = 2
          · subst e
            rw [Array.getElem?_setIfInBounds_self_of_lt (by omega)]
            exact congrArg some (byteV_nat (n / 256) _ (by omega)).symm
          · rw [Array.getElem?_setIfInBounds_ne (by omega)]
            exact HI.out i (by omega)
        case measure => simp [intOf]
      · have hst := heap_setCell_same wr w.heap.size 3 ds 5 (.int .u8 ((n : Int) % 256)) hb
        have hxs : Ext w (wr.setCell ⟨w.heap.size, 3, none⟩ (.int .u8 ((n : Int) % 256))) := (Kp.store (L := [w.heap.size]) w.heap.size 3 _ (by simp)).to_ext HX.out (by simp)
        have c0 : wr.cell? ⟨w.heap.size, 3, none⟩ = some x := (heap_cell hb 3).trans hx
        have f0 := heap_frozen hb 3
        go_wp2_with fail
        go_roundw
        case rel =>
          refine ⟨3 + 1, _, by omega, by go_num, hst, by rw [Array.size_setIfInBounds]; exact hs, fun i hi => ?_, hxs⟩
          by_cases e : i = 3
          · subst e
            rw [Array.getElem?_setIfInBounds_self_of_lt (by omega)]
            exact congrArg some (byteV_nat (n) _ (by omega)).symm
          · rw [Array.getElem?_setIfInBounds_ne (by omega)]
            exact HI.out i (by omega)
        case measure => simp [intOf]
    · obtain rfl : k = 4 := by omega
      have hr : Rd wr (some ⟨w.heap.size, 0, none⟩) ((four n).map byteV) := fun _ => ⟨_, rfl, fun j u hu => by
        rw [add_at, heap_cell hb]
        have hj : j < 4 := by
          have := (List.getElem?_eq_some_iff.1 hu).1
          simpa [four_len] using this
        rw [HI.out j hj, ← List.getElem?_map]
        exact hu⟩
      have hback := back (c := 4) (l := four n) (n := 4) rfl hr
      go_wp2_with fail
      go_ret
      exact ⟨rfl, HX.out⟩
set_option maxHeartbeats 4000000 in
theorem frame_any (b : Nat) (s : ByteArray) (w : World) (h : TabAt w b) (hs : s.size ≤ 9223372036854775807) :
    Calls Try.prog 36 #[.pointer (some ⟨b, 0, none⟩), .string s] w fun e w' => e = .returned (.string (bs (frm s.toList))) ∧ TabAt w' b ∧ Kp [b] w w' := by
  have hl := size_list s
  by_cases hg : good s.toList
  · have hg2 := hg
    unfold good at hg2
    rw [hl] at hg2
    have h1 : s.toList.isEmpty = false := by
      cases he : s.toList with
      | nil => rw [he] at hl; simp at hl; omega
      | cons a l => rfl
    have h2 : decide ((65536 : Int) < (s.size : Int)) = false := decide_eq_false (by omega)
    have h3 : decide (65536 < s.size) = false := decide_eq_false (by omega)
    have hmod : (s.size : Int) % 4294967296 = (s.size : Int) := by omega
    have HF : Hid (frm s.toList = four s.size ++ (s.toList ++ four (crcL s.toList))) := Lib.hid (by unfold frm; rw [if_pos hg, hl])
    have hcr : crcL s.toList < 4294967296 := by unfold crcL; omega
    have h4 := bs_size (four s.size)
    have h5 := bs_size (four (crcL s.toList))
    rw [four_len] at h4 h5
    go_enter Try.func36, Try.ntmps36
    go_wp2_with fail
    refine (number_any s.size (by omega) w).mono ?_
    rintro e w1 ⟨rfl, hx1⟩
    go_wp2_with fail
    refine (sum_any b s w1 (h.ext hx1) (by omega)).mono ?_
    rintro e w2 ⟨rfl, ht2, hk2⟩
    go_wp2_with fail
    refine (number_any (crcL s.toList) hcr w2).mono ?_
    rintro e w3 ⟨rfl, hx3⟩
    have hsz : (bs (four s.size) ++ s).size = 4 + s.size := by rw [ByteArray.size_append, h4]
    go_wp2_with fail
    go_ret
    refine ⟨?_, ht2.ext hx3, ((Kp.of_ext (L := [b]) hx1).trans hk2 (Sub.refl _ _)).then hx3⟩
    show Ending.returned (.string (bs (four s.size) ++ s ++ bs (four (crcL s.toList)))) = _
    have : bs (four s.size) ++ s ++ bs (four (crcL s.toList)) = bs (frm s.toList) := bytes_ext (by rw [toList_append2, toList_append2, bs_list, bs_list, bs_list, HF.out, List.append_assoc])
    rw [this]
  · have hf : frm s.toList = [] := if_neg hg
    rw [hf]
    have he : bs [] = ⟨#[]⟩ := rfl
    rw [he]
    unfold good at hg
    rw [hl] at hg
    by_cases h0 : s.size = 0
    · have h1 : s.toList.isEmpty = true := by rw [List.isEmpty_iff_length_eq_zero, hl, h0]
      go_enter Try.func36, Try.ntmps36
      go_wp2_with fail
      go_ret
      exact ⟨rfl, h, Kp.refl _ _⟩
    · have h1 : s.toList.isEmpty = false := by
        cases he : s.toList with
        | nil => rw [he] at hl; simp at hl; omega
        | cons a l => rfl
      have h2 : decide ((65536 : Int) < (s.size : Int)) = true := decide_eq_true (by omega)
      have h3 : decide (65536 < s.size) = true := decide_eq_true (by omega)
      go_enter Try.func36, Try.ntmps36
      go_wp2_with fail
      go_ret
      exact ⟨rfl, h, Kp.refl _ _⟩
theorem i64_or_nat (a b : Nat) (ha : a < 9223372036854775808) (hb : b < 9223372036854775808) : bits .or .i64 (a : Int) (b : Int) = ((a ||| b : Nat) : Int) := by
  have hx : a ||| b < 2 ^ 63 := Nat.or_lt_two_pow (by omega) (by omega)
  show IntKind.i64.wrap ((BitVec.ofInt 64 (a : Int) ||| BitVec.ofInt 64 (b : Int)).toNat : Int) = _
  rw [BitVec.toNat_or, ofInt_u64 a (by omega), ofInt_u64 b (by omega), IntWalk.i64_left]
  unfold wrap64
  omega
theorem or_val (n : Nat) (c : UInt8) (h : n < 16777216) : bits .or .i64 ((n : Int) * 256) (c.toNat : Int) = ((n * 256 + c.toNat : Nat) : Int) := by
  have hc := c.toNat_lt
  have e1 : (n : Int) * 256 = ((n * 256 : Nat) : Int) := by omega
  rw [e1, i64_or_nat _ _ (by omega) (by omega), nat_join 8 (n * 256) c.toNat (by omega) (by omega)]
def nb (l : List UInt8) : Nat := l.foldl (fun n c => n * 256 + c.toNat) 0
theorem nb_four {l : List UInt8} (h : 4 ≤ l.length) : nb (l.take 4) = num4 l := by
  match l, h with
  | a :: b :: c :: d :: t, _ => simp [nb, num4]
theorem nb_lt : ∀ (l : List UInt8), l.length ≤ 4 → nb l < 4294967296 ∧ (l.length ≤ 3 → nb l < 16777216)
  | [], _ => by simp [nb]
  | [a], _ => by have := a.toNat_lt; simp [nb]; first | done | omega
  | [a, b], _ => by have := a.toNat_lt; have := b.toNat_lt; simp [nb]; first | done | omega
  | [a, b, c], _ => by have := a.toNat_lt; have := b.toNat_lt; have := c.toNat_lt; simp [nb]; omega
  | [a, b, c, d], _ => by have := a.toNat_lt; have := b.toNat_lt; have := c.toNat_lt; have := d.toNat_lt; simp [nb]; omega
  | a :: b :: c :: d :: e :: t, h => by simp at h; first | done | omega
theorem nb_next {l : List UInt8} {k : Nat} {c : UInt8} (h : l[k]? = some c) : nb (l.take (k + 1)) = nb (l.take k) * 256 + c.toNat := by
  unfold nb
  rw [List.take_add_one, h, List.foldl_append]
  rfl
theorem fst_eq {l : List UInt8} (h1 : num4 l ≤ 65536) (h2 : num4 l + 8 ≤ l.length) : fstL l = if frm ((l.drop 4).take (num4 l)) = l.take (num4 l + 8) then some ((l.drop 4).take (num4 l)) else none := by
  unfold fstL
  by_cases h0 : 1 ≤ num4 l
  · by_cases hf : frm ((l.drop 4).take (num4 l)) = l.take (num4 l + 8)
    · rw [if_pos ⟨h0, h1, h2, hf⟩, if_pos hf]
    · rw [if_neg (fun h => hf h.2.2.2), if_neg hf]
  · rw [if_neg (fun h => h0 h.1), if_neg]
    have e : num4 l = 0 := by omega
    rw [e]
    intro hf
    have := congrArg List.length hf
    have hg : ¬ good (([] : List UInt8)) := by unfold good; simp
    simp [frm, hg] at this
    omega
set_option maxHeartbeats 4000000 in
theorem first_any (b : Nat) (s : ByteArray) (w : World) (h : TabAt w b) (hs : s.size ≤ 9223372036854775807) :
    Calls Try.prog 38 #[.pointer (some ⟨b, 0, none⟩), .string s] w fun e w' => e = .returned (.string (bs ((fstL s.toList).getD []))) ∧ TabAt w' b ∧ Kp [b] w w' := by
  have hl := size_list s
  by_cases h4 : s.size < 4
  · have hf : fstL s.toList = none := by
      unfold fstL
      rw [if_neg]
      intro h
      omega
    rw [hf]
    have he : bs ((none : Option (List UInt8)).getD []) = ⟨#[]⟩ := rfl
    rw [he]
    have h4I : (s.size : Int) < 4 := by omega
    go_enter Try.func38, Try.ntmps38
    go_wp2_with fail
    go_ret
    exact ⟨rfl, h, Kp.refl _ _⟩
  · have h4I : ¬ (s.size : Int) < 4 := by omega
    have h4J : (4 : Int) ≤ (s.size : Int) := by omega
    have hcs : (s.extract 0 4).toList = s.toList.take 4 := by rw [Lib.toList_data, Lib.toList_data]; simp
    have hcz : (s.extract 0 4).size = 4 := by rw [ByteArray.size_extract]; omega
    obtain ⟨cc, hcc, hbt⟩ := bytes_new w (s.extract 0 4) (by omega)
    have hconv := run_bytes_of_string (P := Try.prog) w 9 50 5 (s.extract 0 4) Try.underlying9 Try.underlying50 Try.underlying5
    rw [hcc] at hconv
    have hx1 : Ext w (w.drew.alloc (.cells (bytesRow (s.extract 0 4) cc) 5 ((bytesRow (s.extract 0 4) cc).size, (bytesRow (s.extract 0 4) cc).size + 1))) := (Ext.drew w).trans (Ext.alloc _ _)
    obtain ⟨v1, hv1⟩ : ∃ w1, w1 = w.drew.alloc (.cells (bytesRow (s.extract 0 4) cc) 5 ((bytesRow (s.extract 0 4) cc).size, (bytesRow (s.extract 0 4) cc).size + 1)) := ⟨_, rfl⟩
    rw [← hv1] at hconv hbt hx1
    rw [hcz] at hconv hbt
    rw [hcs] at hbt
    obtain ⟨A1, n1, c1, e1, hl1, hc1, hm1, hr1⟩ := hbt.byt
    injection e1 with e1 e2 e3
    subst e1 e2 e3
    have HR := Lib.hid hr1
    have HX := Lib.hid hx1
    have HT := Lib.hid (h.ext hx1)
    clear hbt hr1 hv1 hcc hx1 hcs hcz h
    generalize w.heap.size = q at hconv HR
    go_enter Try.func38, Try.ntmps38
    go_wp2_with fail
    go_loopw [5, 16] (fun n iv wq => ∃ k : Nat, k ≤ 4 ∧ iv = .int .i64 (k : Int) ∧ n = .int .i64 (nb (s.toList.take k) : Nat) ∧ wq = v1) (fun _ iv _ => 4 - (intOf iv).toNat)
    case atStart => exact ⟨0, by omega, rfl, rfl, rfl⟩
    case round =>
      obtain ⟨k, hk, rfl, rfl, rfl⟩ := hrel
      by_cases hkl : k < 4
      · have hkI : (k : Int) < 4 := by omega
        obtain ⟨c, hc⟩ : ∃ c, s.toList[k]? = some c := ⟨_, List.getElem?_eq_getElem (by rw [hl]; omega)⟩
        have hnx := nb_next hc
        have hlt := (nb_lt (s.toList.take k) (by rw [List.length_take]; omega)).2 (by rw [List.length_take]; omega)
        have HNX := Lib.hid hnx
        obtain ⟨ad, ea, hcell⟩ := HR.out.some_ (by rw [List.length_map, hl1]; decide)
        injection ea with ea
        subst ea
        have c0 := hcell k (byteV c) (by rw [List.getElem?_map, List.getElem?_take_of_lt hkl, hc]; rfl)
        rw [add_at] at c0
        simp only [byteV] at c0
        generalize nb (s.toList.take k) = n at hnx hlt HNX
        have hcl := c.toNat_lt
        have hor := or_val n c hlt
        have HOR := Lib.hid hor
        clear hnx hc hcell hor
        go_wp2_with fail
        go_roundw
        case rel => exact ⟨k + 1, by omega, by go_num, by rw [HNX.out, HOR.out], trivial⟩
        case measure => simp [intOf]; omega
      · obtain rfl : k = 4 := by omega
        rw [nb_four (by rw [hl]; omega)]
        have hn4 := (nb_lt (s.toList.take 4) (by rw [List.length_take]; omega)).1
        rw [nb_four (by rw [hl]; omega)] at hn4
        have HFE := Lib.hid (fun h1 h2 => fst_eq (l := s.toList) h1 h2)
        have HFN : Hid (¬ (num4 s.toList ≤ 65536 ∧ num4 s.toList + 8 ≤ s.size) → fstL s.toList = none) := Lib.hid (fun h => by
          unfold fstL
          rw [if_neg]
          intro hc
          exact h ⟨hc.2.1, by rw [← hl]; exact hc.2.2.1⟩)
        generalize num4 s.toList = n at hn4 HFE HFN
        clear hconv
        by_cases h1 : n ≤ 65536
        · have h1I : decide ((65536 : Int) < (n : Int)) = false := decide_eq_false (by omega)
          have h1J : decide (65536 < n) = false := decide_eq_false (by omega)
          by_cases h2 : n + 8 ≤ s.size
          · have h2I : decide ((s.size : Int) < (n : Int) + 4 + 4) = false := decide_eq_false (by omega)
            have h2J : decide ((s.size : Int) < (n : Int) + 8) = false := decide_eq_false (by omega)
            have hwr : IntKind.i64.wrap (4 + (n : Int)) = 4 + (n : Int) := by rw [IntWalk.i64_left]; unfold wrap64; omega
            have ht1 : (4 + (n : Int)).toNat = 4 + n := by omega
            have ht2 : ((n : Int) + 4 + 4).toNat = n + 8 := by omega
            have hl2 : (0 : Int) ≤ (n : Int) + 4 + 4 ∧ (n : Int) + 4 + 4 ≤ (s.size : Int) := by omega
            have hlo : (4 : Int) ≤ 4 + (n : Int) ∧ 4 + (n : Int) ≤ (s.size : Int) := by omega
            go_upto_region 10 with fail
            refine wp_region_held_drew (S := fun _ => True) (by kernel_rfl) trivial (fun hHeld => ?_)
            have hxt : Ext wr wr.drew := Ext.drew _
            generalize wr.drew = v5 at hxt hHeld ⊢
            refine' wpAnyH_take (i := 0) (oi := _) (v := _) ?hi5 ?hs5 ?hf5 ?hr5 ?hQ5 (Or.inl ⟨?hw5, ?hy5⟩) (by assumption) ?hrest5
            case hi5 => simp only [List.getElem?_toArray]; rfl
            case hs5 => kernel_rfl
            case hf5 => kernel_rfl
            case hr5 => kernel_rfl
            case hQ5 => exact fun _ _ _ h => h
            case hw5 => rfl
            case hy5 => intro w hSw; (try dsimp only at hSw); go_simp; try with_reducible rfl
            try simp only [Act.put, List.setIfInBounds_toArray, List.set_cons_zero, List.set_cons_succ]
            refine' wpAnyH_take (i := 1) (oi := _) (v := _) ?hi6 ?hs6 ?hf6 ?hr6 ?hQ6 (Or.inl ⟨?hw6, ?hy6⟩) (by assumption) ?hrest6
            case hi6 => simp only [List.getElem?_toArray]; rfl
            case hs6 => kernel_rfl
            case hf6 => kernel_rfl
            case hr6 => kernel_rfl
            case hQ6 => exact fun _ _ _ h => h
            case hw6 => rfl
            case hy6 => intro w hSw; (try dsimp only at hSw); go_simp; try with_reducible rfl
            try simp only [Act.put, List.setIfInBounds_toArray, List.set_cons_zero, List.set_cons_succ]
            refine' wpAnyH_take (i := 2) (oi := _) (v := _) ?hi7 ?hs7 ?hf7 ?hr7 ?hQ7 (Or.inl ⟨?hw7, ?hy7⟩) (by assumption) ?hrest7
            case hi7 => simp only [List.getElem?_toArray]; rfl
            case hs7 => kernel_rfl
            case hf7 => kernel_rfl
            case hr7 => kernel_rfl
            case hQ7 => exact fun _ _ _ h => h
            case hw7 => rfl
            case hy7 => intro w hSw; (try dsimp only at hSw); go_simp; try with_reducible rfl
            try simp only [Act.put, List.setIfInBounds_toArray, List.set_cons_zero, List.set_cons_succ]
            refine' wpAnyH_take (i := 3) (oi := _) (v := _) ?hi8 ?hs8 ?hf8 ?hr8 ?hQ8 (Or.inl ⟨?hw8, ?hy8⟩) (by assumption) ?hrest8
            case hi8 => simp only [List.getElem?_toArray]; rfl
            case hs8 => kernel_rfl
            case hf8 => kernel_rfl
            case hr8 => kernel_rfl
            case hQ8 => exact fun _ _ _ h => h
            case hw8 => rfl
            case hy8 => intro w hSw; (try dsimp only at hSw); go_simp; try with_reducible rfl
            try simp only [Act.put, List.setIfInBounds_toArray, List.set_cons_zero, List.set_cons_succ]
            refine' wpAnyH_take (i := 4) (oi := _) (v := _) ?hi9 ?hs9 ?hf9 ?hr9 ?hQ9 (Or.inl ⟨?hw9, ?hy9⟩) (by assumption) ?hrest9
            case hi9 => simp only [List.getElem?_toArray]; rfl
            case hs9 => kernel_rfl
            case hf9 => kernel_rfl
            case hr9 => kernel_rfl
            case hQ9 => exact fun _ _ _ h => h
            case hw9 => rfl
            case hy9 => intro w hSw; (try dsimp only at hSw); go_simp; try with_reducible rfl
            try simp only [Act.put, List.setIfInBounds_toArray, List.set_cons_zero, List.set_cons_succ]
            refine' wpAnyH_take (i := 5) (oi := _) (v := _) ?hi10 ?hs10 ?hf10 ?hr10 ?hQ10 (Or.inl ⟨?hw10, ?hy10⟩) (by assumption) ?hrest10
            case hi10 => simp only [List.getElem?_toArray]; rfl
            case hs10 => kernel_rfl
            case hf10 => kernel_rfl
            case hr10 => kernel_rfl
            case hQ10 => exact fun _ _ _ h => h
            case hw10 => rfl
            case hy10 => intro w hSw; (try dsimp only at hSw); go_simp; try with_reducible rfl
            try simp only [Act.put, List.setIfInBounds_toArray, List.set_cons_zero, List.set_cons_succ]
            refine' wpAnyH_take (i := 6) (oi := _) (v := _) ?hi11 ?hs11 ?hf11 ?hr11 ?hQ11 (Or.inl ⟨?hw11, ?hy11⟩) (by assumption) ?hrest11
            case hi11 => simp only [List.getElem?_toArray]; rfl
            case hs11 => kernel_rfl
            case hf11 => kernel_rfl
            case hr11 => kernel_rfl
            case hQ11 => exact fun _ _ _ h => h
            case hw11 => rfl
            case hy11 => intro w hSw; (try dsimp only at hSw); go_simp; try with_reducible rfl
            try simp only [Act.put, List.setIfInBounds_toArray, List.set_cons_zero, List.set_cons_succ]
            refine' wpAnyH_take (i := 7) (oi := _) (v := _) ?hi12 ?hs12 ?hf12 ?hr12 ?hQ12 (Or.inl ⟨?hw12, ?hy12⟩) (by assumption) ?hrest12
            case hi12 => simp only [List.getElem?_toArray]; rfl
            case hs12 => kernel_rfl
            case hf12 => kernel_rfl
            case hr12 => kernel_rfl
            case hQ12 => exact fun _ _ _ h => h
            case hw12 => rfl
            case hy12 => intro w hSw; (try dsimp only at hSw); go_simp; try with_reducible rfl
            try simp only [Act.put, List.setIfInBounds_toArray, List.set_cons_zero, List.set_cons_succ]
            refine' wpAnyH_take (i := 8) (oi := _) (v := _) ?hi13 ?hs13 ?hf13 ?hr13 ?hQ13 (Or.inl ⟨?hw13, ?hy13⟩) (by assumption) ?hrest13
            case hi13 => simp only [List.getElem?_toArray]; rfl
            case hs13 => kernel_rfl
            case hf13 => kernel_rfl
            case hr13 => kernel_rfl
            case hQ13 => exact fun _ _ _ h => h
            case hw13 => rfl
            case hy13 => intro w hSw; (try dsimp only at hSw); go_simp; try with_reducible rfl
            try simp only [Act.put, List.setIfInBounds_toArray, List.set_cons_zero, List.set_cons_succ]
            refine' wpAnyH_take (i := 9) (oi := _) (v := _) ?hi14 ?hs14 ?hf14 ?hr14 ?hQ14 (Or.inl ⟨?hw14, ?hy14⟩) (by assumption) ?hrest14
            case hi14 => simp only [List.getElem?_toArray]; rfl
            case hs14 => kernel_rfl
            case hf14 => kernel_rfl
            case hr14 => kernel_rfl
            case hQ14 => exact fun _ _ _ h => h
            case hw14 => rfl
            case hy14 => intro w hSw; (try dsimp only at hSw); go_simp; try with_reducible rfl
            try simp only [Act.put, List.setIfInBounds_toArray, List.set_cons_zero, List.set_cons_succ]
            refine' wpAnyH_take (i := 10) (oi := _) (v := _) ?hi15 ?hs15 ?hf15 ?hr15 ?hQ15 (Or.inl ⟨?hw15, ?hy15⟩) (by assumption) ?hrest15
            case hi15 => simp only [List.getElem?_toArray]; rfl
            case hs15 => kernel_rfl
            case hf15 => kernel_rfl
            case hr15 => kernel_rfl
            case hQ15 => exact fun _ _ _ h => h
            case hw15 => rfl
            case hy15 => intro w hSw; (try dsimp only at hSw); go_simp; try with_reducible rfl
            try simp only [Act.put, List.setIfInBounds_toArray, List.set_cons_zero, List.set_cons_succ]
            refine' wpAnyH_take (i := 11) (oi := _) (v := _) ?hi16 ?hs16 ?hf16 ?hr16 ?hQ16 (Or.inl ⟨?hw16, ?hy16⟩) (by assumption) ?hrest16
            case hi16 => simp only [List.getElem?_toArray]; rfl
            case hs16 => kernel_rfl
            case hf16 => kernel_rfl
            case hr16 => kernel_rfl
            case hQ16 => exact fun _ _ _ h => h
            case hw16 => rfl
            case hy16 => intro w hSw; (try dsimp only at hSw); go_simp; try with_reducible rfl
            try simp only [Act.put, List.setIfInBounds_toArray, List.set_cons_zero, List.set_cons_succ]
            refine' wpAnyH_take (i := 12) (oi := _) (v := _) ?hi17 ?hs17 ?hf17 ?hr17 ?hQ17 (Or.inl ⟨?hw17, ?hy17⟩) (by assumption) ?hrest17
            case hi17 => simp only [List.getElem?_toArray]; rfl
            case hs17 => kernel_rfl
            case hf17 => kernel_rfl
            case hr17 => kernel_rfl
            case hQ17 => exact fun _ _ _ h => h
            case hw17 => rfl
            case hy17 => intro w hSw; (try dsimp only at hSw); go_simp; try with_reducible rfl
            try simp only [Act.put, List.setIfInBounds_toArray, List.set_cons_zero, List.set_cons_succ]
            refine' wpAnyH_take (i := 13) (oi := _) (v := _) ?hi18 ?hs18 ?hf18 ?hr18 ?hQ18 (Or.inl ⟨?hw18, ?hy18⟩) (by assumption) ?hrest18
            case hi18 => simp only [List.getElem?_toArray]; rfl
            case hs18 => kernel_rfl
            case hf18 => kernel_rfl
            case hr18 => kernel_rfl
            case hQ18 => exact fun _ _ _ h => h
            case hw18 => rfl
            case hy18 => intro w hSw; (try dsimp only at hSw); go_simp; try with_reducible rfl
            try simp only [Act.put, List.setIfInBounds_toArray, List.set_cons_zero, List.set_cons_succ]
            refine' wpAnyH_take (i := 15) (oi := _) (v := _) ?hi19 ?hs19 ?hf19 ?hr19 ?hQ19 (Or.inl ⟨?hw19, ?hy19⟩) (by assumption) ?hrest19
            case hi19 => simp only [List.getElem?_toArray]; rfl
            case hs19 => kernel_rfl
            case hf19 => kernel_rfl
            case hr19 => kernel_rfl
            case hQ19 => exact fun _ _ _ h => h
            case hw19 => rfl
            case hy19 => intro w hSw; (try dsimp only at hSw); go_simp; try with_reducible rfl
            try simp only [Act.put, List.setIfInBounds_toArray, List.set_cons_zero, List.set_cons_succ]
            refine' wpAnyH_take (i := 16) (oi := _) (v := _) ?hi20 ?hs20 ?hf20 ?hr20 ?hQ20 (Or.inl ⟨?hw20, ?hy20⟩) (by assumption) ?hrest20
            case hi20 => simp only [List.getElem?_toArray]; rfl
            case hs20 => kernel_rfl
            case hf20 => kernel_rfl
            case hr20 => kernel_rfl
            case hQ20 => exact fun _ _ _ h => h
            case hw20 => rfl
            case hy20 => intro w hSw; (try dsimp only at hSw); go_simp; try with_reducible rfl
            try simp only [Act.put, List.setIfInBounds_toArray, List.set_cons_zero, List.set_cons_succ]
            refine' wpAnyH_take (i := 17) (oi := _) (v := _) ?hi21 ?hs21 ?hf21 ?hr21 ?hQ21 (Or.inl ⟨?hw21, ?hy21⟩) (by assumption) ?hrest21
            case hi21 => simp only [List.getElem?_toArray]; rfl
            case hs21 => kernel_rfl
            case hf21 => kernel_rfl
            case hr21 => kernel_rfl
            case hQ21 => exact fun _ _ _ h => h
            case hw21 => rfl
            case hy21 => intro w hSw; (try dsimp only at hSw); go_simp; try with_reducible rfl
            try simp only [Act.put, List.setIfInBounds_toArray, List.set_cons_zero, List.set_cons_succ]
            refine wpAnyH_ready (rs := [14]) (by kernel_rfl) (by simp) ?_
            refine' AllReadyH.cons (o := _) ?ho22 (fun K hK => ?hstep22) AllReadyH.nil
            case ho22 => simp only [List.getElem?_toArray]; rfl
            go_simp
            have hxs : (s.extract 4 (4 + n)).toList = (s.toList.drop 4).take n := by rw [Lib.toList_data, Lib.toList_data]; simp
            have hxz : (s.extract 4 (4 + n)).size = n := by rw [ByteArray.size_extract]; omega
            refine (frame_any b (s.extract 4 (4 + n)) v5 (HT.out.ext hxt) (by rw [hxz]; omega)).mono ?_
            rintro e v6 ⟨rfl, ht6, hk6⟩
            rw [hxs]
            refine hK.out _ _ (trivial) (fun hHeld => ?_)
            clear hK K
            try simp only [Act.put, List.setIfInBounds_toArray, List.set_cons_zero, List.set_cons_succ]
            have hcut : (s.extract 0 (n + 8)).toList = s.toList.take (n + 8) := by rw [Lib.toList_data, Lib.toList_data]; simp
            have HFF := HFE.out h1 (by rw [hl]; exact h2)
            have HKP : Kp [b] w v6 := (Kp.of_ext (L := [b]) (HX.out.trans hxt)).trans hk6 (Sub.refl _ _)
            by_cases hfe : frm ((s.toList.drop 4).take n) = s.toList.take (n + 8)
            · rw [if_pos hfe] at HFF
              have hee : bs (frm ((s.toList.drop 4).take n)) = s.extract 0 (n + 8) := bytes_ext (by rw [bs_list, hfe, hcut])
              rw [hee]
              have HFF := Lib.hid HFF
              have HXS : Hid (bs ((some ((s.toList.drop 4).take n)).getD []) = s.extract 4 (4 + n)) := Lib.hid (bytes_ext (by rw [bs_list, hxs]; rfl))
              clear hfe hee
              refine' wpAnyH_take (i := 18) (oi := _) (v := _) ?hi24 ?hs24 ?hf24 ?hr24 ?hQ24 (Or.inl ⟨?hw24, ?hy24⟩) (by assumption) ?hrest24
              case hi24 => simp only [List.getElem?_toArray]; rfl
              case hs24 => kernel_rfl
              case hf24 => kernel_rfl
              case hr24 => kernel_rfl
              case hQ24 => exact fun _ _ _ h => h
              case hw24 => rfl
              case hy24 => intro w hSw; (try dsimp only at hSw); go_simp; try with_reducible rfl
              try simp only [Act.put, List.setIfInBounds_toArray, List.set_cons_zero, List.set_cons_succ]
              refine' wpAnyH_take (i := 19) (oi := _) (v := _) ?hi25 ?hs25 ?hf25 ?hr25 ?hQ25 (Or.inl ⟨?hw25, ?hy25⟩) (by assumption) ?hrest25
              case hi25 => simp only [List.getElem?_toArray]; rfl
              case hs25 => kernel_rfl
              case hf25 => kernel_rfl
              case hr25 => kernel_rfl
              case hQ25 => exact fun _ _ _ h => h
              case hw25 => rfl
              case hy25 => intro w hSw; (try dsimp only at hSw); go_simp; try with_reducible rfl
              try simp only [Act.put, List.setIfInBounds_toArray, List.set_cons_zero, List.set_cons_succ]
              refine wpAnyH_done (by kernel_rfl) ?_ _
              go_wp2_with fail
              go_ret
              rw [HFF.out, HXS.out]
              exact ⟨rfl, ht6, HKP⟩
            · rw [if_neg hfe] at HFF
              have hee : ¬ bs (frm ((s.toList.drop 4).take n)) = s.extract 0 (n + 8) := fun e => hfe (by rw [← bs_list (frm _), e, hcut])
              have HFF := Lib.hid HFF
              have hed : decide (bs (frm ((s.toList.drop 4).take n)) = s.extract 0 (n + 8)) = false := decide_eq_false hee
              generalize bs (frm ((s.toList.drop 4).take n)) = fr at hed hee ⊢
              generalize s.extract 0 (n + 8) = cu at hed hee hcut ⊢
              have hbe : (fr.toList == s.toList.take (n + 8)) = false := by rw [beq_eq_false_iff_ne]; intro e; exact hee (bytes_ext (by rw [e, hcut]))
              clear hfe hed
              refine' wpAnyH_take (i := 18) (oi := _) (v := _) ?hi27 ?hs27 ?hf27 ?hr27 ?hQ27 (Or.inl ⟨?hw27, ?hy27⟩) (by assumption) ?hrest27
              case hi27 => simp only [List.getElem?_toArray]; rfl
              case hs27 => kernel_rfl
              case hf27 => kernel_rfl
              case hr27 => kernel_rfl
              case hQ27 => exact fun _ _ _ h => h
              case hw27 => rfl
              case hy27 => intro w hSw; (try dsimp only at hSw); go_simp; try with_reducible rfl
              try simp only [Act.put, List.setIfInBounds_toArray, List.set_cons_zero, List.set_cons_succ]
              refine' wpAnyH_take (i := 19) (oi := _) (v := _) ?hi28 ?hs28 ?hf28 ?hr28 ?hQ28 (Or.inl ⟨?hw28, ?hy28⟩) (by assumption) ?hrest28
              case hi28 => simp only [List.getElem?_toArray]; rfl
              case hs28 => kernel_rfl
              case hf28 => kernel_rfl
              case hr28 => kernel_rfl
              case hQ28 => exact fun _ _ _ h => h
              case hw28 => rfl
              case hy28 => intro w hSw; (try dsimp only at hSw); go_simp; try with_reducible rfl
              try simp only [Act.put, List.setIfInBounds_toArray, List.set_cons_zero, List.set_cons_succ]
              refine wpAnyH_done (by kernel_rfl) ?_ _
              go_wp2_with fail
              go_ret
              rw [HFF.out]
              exact ⟨rfl, ht6, HKP⟩
          · have h2I : decide ((s.size : Int) < (n : Int) + 4 + 4) = true := decide_eq_true (by omega)
            have h2J : decide ((s.size : Int) < (n : Int) + 8) = true := decide_eq_true (by omega)
            have HNN := Lib.hid (HFN.out (fun h => h2 h.2))
            go_upto_region 10 with fail
            refine wp_region_held_drew (S := fun _ => True) (by kernel_rfl) trivial (fun hHeld => ?_)
            have hxt : Ext wr wr.drew := Ext.drew _
            generalize wr.drew = v5 at hxt hHeld ⊢
            refine' wpAnyH_take (i := 0) (oi := _) (v := _) ?hi30 ?hs30 ?hf30 ?hr30 ?hQ30 (Or.inl ⟨?hw30, ?hy30⟩) (by assumption) ?hrest30
            case hi30 => simp only [List.getElem?_toArray]; rfl
            case hs30 => kernel_rfl
            case hf30 => kernel_rfl
            case hr30 => kernel_rfl
            case hQ30 => exact fun _ _ _ h => h
            case hw30 => rfl
            case hy30 => intro w hSw; (try dsimp only at hSw); go_simp; try with_reducible rfl
            try simp only [Act.put, List.setIfInBounds_toArray, List.set_cons_zero, List.set_cons_succ]
            refine' wpAnyH_take (i := 1) (oi := _) (v := _) ?hi31 ?hs31 ?hf31 ?hr31 ?hQ31 (Or.inl ⟨?hw31, ?hy31⟩) (by assumption) ?hrest31
            case hi31 => simp only [List.getElem?_toArray]; rfl
            case hs31 => kernel_rfl
            case hf31 => kernel_rfl
            case hr31 => kernel_rfl
            case hQ31 => exact fun _ _ _ h => h
            case hw31 => rfl
            case hy31 => intro w hSw; (try dsimp only at hSw); go_simp; try with_reducible rfl
            try simp only [Act.put, List.setIfInBounds_toArray, List.set_cons_zero, List.set_cons_succ]
            refine' wpAnyH_take (i := 2) (oi := _) (v := _) ?hi32 ?hs32 ?hf32 ?hr32 ?hQ32 (Or.inl ⟨?hw32, ?hy32⟩) (by assumption) ?hrest32
            case hi32 => simp only [List.getElem?_toArray]; rfl
            case hs32 => kernel_rfl
            case hf32 => kernel_rfl
            case hr32 => kernel_rfl
            case hQ32 => exact fun _ _ _ h => h
            case hw32 => rfl
            case hy32 => intro w hSw; (try dsimp only at hSw); go_simp; try with_reducible rfl
            try simp only [Act.put, List.setIfInBounds_toArray, List.set_cons_zero, List.set_cons_succ]
            refine' wpAnyH_take (i := 3) (oi := _) (v := _) ?hi33 ?hs33 ?hf33 ?hr33 ?hQ33 (Or.inl ⟨?hw33, ?hy33⟩) (by assumption) ?hrest33
            case hi33 => simp only [List.getElem?_toArray]; rfl
            case hs33 => kernel_rfl
            case hf33 => kernel_rfl
            case hr33 => kernel_rfl
            case hQ33 => exact fun _ _ _ h => h
            case hw33 => rfl
            case hy33 => intro w hSw; (try dsimp only at hSw); go_simp; try with_reducible rfl
            try simp only [Act.put, List.setIfInBounds_toArray, List.set_cons_zero, List.set_cons_succ]
            refine' wpAnyH_take (i := 4) (oi := _) (v := _) ?hi34 ?hs34 ?hf34 ?hr34 ?hQ34 (Or.inl ⟨?hw34, ?hy34⟩) (by assumption) ?hrest34
            case hi34 => simp only [List.getElem?_toArray]; rfl
            case hs34 => kernel_rfl
            case hf34 => kernel_rfl
            case hr34 => kernel_rfl
            case hQ34 => exact fun _ _ _ h => h
            case hw34 => rfl
            case hy34 => intro w hSw; (try dsimp only at hSw); go_simp; try with_reducible rfl
            try simp only [Act.put, List.setIfInBounds_toArray, List.set_cons_zero, List.set_cons_succ]
            refine' wpAnyH_take (i := 5) (oi := _) (v := _) ?hi35 ?hs35 ?hf35 ?hr35 ?hQ35 (Or.inl ⟨?hw35, ?hy35⟩) (by assumption) ?hrest35
            case hi35 => simp only [List.getElem?_toArray]; rfl
            case hs35 => kernel_rfl
            case hf35 => kernel_rfl
            case hr35 => kernel_rfl
            case hQ35 => exact fun _ _ _ h => h
            case hw35 => rfl
            case hy35 => intro w hSw; (try dsimp only at hSw); go_simp; try with_reducible rfl
            try simp only [Act.put, List.setIfInBounds_toArray, List.set_cons_zero, List.set_cons_succ]
            refine' wpAnyH_take (i := 6) (oi := _) (v := _) ?hi36 ?hs36 ?hf36 ?hr36 ?hQ36 (Or.inl ⟨?hw36, ?hy36⟩) (by assumption) ?hrest36
            case hi36 => simp only [List.getElem?_toArray]; rfl
            case hs36 => kernel_rfl
            case hf36 => kernel_rfl
            case hr36 => kernel_rfl
            case hQ36 => exact fun _ _ _ h => h
            case hw36 => rfl
            case hy36 => intro w hSw; (try dsimp only at hSw); go_simp; try with_reducible rfl
            try simp only [Act.put, List.setIfInBounds_toArray, List.set_cons_zero, List.set_cons_succ]
            refine' wpAnyH_take (i := 7) (oi := _) (v := _) ?hi37 ?hs37 ?hf37 ?hr37 ?hQ37 (Or.inl ⟨?hw37, ?hy37⟩) (by assumption) ?hrest37
            case hi37 => simp only [List.getElem?_toArray]; rfl
            case hs37 => kernel_rfl
            case hf37 => kernel_rfl
            case hr37 => kernel_rfl
            case hQ37 => exact fun _ _ _ h => h
            case hw37 => rfl
            case hy37 => intro w hSw; (try dsimp only at hSw); go_simp; try with_reducible rfl
            try simp only [Act.put, List.setIfInBounds_toArray, List.set_cons_zero, List.set_cons_succ]
            refine' wpAnyH_take (i := 8) (oi := _) (v := _) ?hi38 ?hs38 ?hf38 ?hr38 ?hQ38 (Or.inl ⟨?hw38, ?hy38⟩) (by assumption) ?hrest38
            case hi38 => simp only [List.getElem?_toArray]; rfl
            case hs38 => kernel_rfl
            case hf38 => kernel_rfl
            case hr38 => kernel_rfl
            case hQ38 => exact fun _ _ _ h => h
            case hw38 => rfl
            case hy38 => intro w hSw; (try dsimp only at hSw); go_simp; try with_reducible rfl
            try simp only [Act.put, List.setIfInBounds_toArray, List.set_cons_zero, List.set_cons_succ]
            refine' wpAnyH_take (i := 9) (oi := _) (v := undef) ?hi39 ?hs39 ?hf39 ?hr39 ?hQ39 (Or.inr ⟨?hw39, rfl⟩) (by assumption) ?hrest39
            case hi39 => simp only [List.getElem?_toArray]; rfl
            case hs39 => kernel_rfl
            case hf39 => kernel_rfl
            case hr39 => kernel_rfl
            case hQ39 => exact fun _ _ _ h => h
            case hw39 => rfl
            try simp only [Act.put, List.setIfInBounds_toArray, List.set_cons_zero, List.set_cons_succ]
            refine' wpAnyH_take (i := 10) (oi := _) (v := undef) ?hi40 ?hs40 ?hf40 ?hr40 ?hQ40 (Or.inr ⟨?hw40, rfl⟩) (by assumption) ?hrest40
            case hi40 => simp only [List.getElem?_toArray]; rfl
            case hs40 => kernel_rfl
            case hf40 => kernel_rfl
            case hr40 => kernel_rfl
            case hQ40 => exact fun _ _ _ h => h
            case hw40 => rfl
            try simp only [Act.put, List.setIfInBounds_toArray, List.set_cons_zero, List.set_cons_succ]
            refine' wpAnyH_take (i := 11) (oi := _) (v := undef) ?hi41 ?hs41 ?hf41 ?hr41 ?hQ41 (Or.inr ⟨?hw41, rfl⟩) (by assumption) ?hrest41
            case hi41 => simp only [List.getElem?_toArray]; rfl
            case hs41 => kernel_rfl
            case hf41 => kernel_rfl
            case hr41 => kernel_rfl
            case hQ41 => exact fun _ _ _ h => h
            case hw41 => rfl
            try simp only [Act.put, List.setIfInBounds_toArray, List.set_cons_zero, List.set_cons_succ]
            refine' wpAnyH_take (i := 12) (oi := _) (v := undef) ?hi42 ?hs42 ?hf42 ?hr42 ?hQ42 (Or.inr ⟨?hw42, rfl⟩) (by assumption) ?hrest42
            case hi42 => simp only [List.getElem?_toArray]; rfl
            case hs42 => kernel_rfl
            case hf42 => kernel_rfl
            case hr42 => kernel_rfl
            case hQ42 => exact fun _ _ _ h => h
            case hw42 => rfl
            try simp only [Act.put, List.setIfInBounds_toArray, List.set_cons_zero, List.set_cons_succ]
            refine' wpAnyH_take (i := 13) (oi := _) (v := undef) ?hi43 ?hs43 ?hf43 ?hr43 ?hQ43 (Or.inr ⟨?hw43, rfl⟩) (by assumption) ?hrest43
            case hi43 => simp only [List.getElem?_toArray]; rfl
            case hs43 => kernel_rfl
            case hf43 => kernel_rfl
            case hr43 => kernel_rfl
            case hQ43 => exact fun _ _ _ h => h
            case hw43 => rfl
            try simp only [Act.put, List.setIfInBounds_toArray, List.set_cons_zero, List.set_cons_succ]
            refine' wpAnyH_take (i := 14) (oi := _) (v := undef) ?hi44 ?hs44 ?hf44 ?hr44 ?hQ44 (Or.inr ⟨?hw44, rfl⟩) (by assumption) ?hrest44
            case hi44 => simp only [List.getElem?_toArray]; rfl
            case hs44 => kernel_rfl
            case hf44 => kernel_rfl
            case hr44 => kernel_rfl
            case hQ44 => exact fun _ _ _ h => h
            case hw44 => rfl
            try simp only [Act.put, List.setIfInBounds_toArray, List.set_cons_zero, List.set_cons_succ]
            refine' wpAnyH_take (i := 15) (oi := _) (v := undef) ?hi45 ?hs45 ?hf45 ?hr45 ?hQ45 (Or.inr ⟨?hw45, rfl⟩) (by assumption) ?hrest45
            case hi45 => simp only [List.getElem?_toArray]; rfl
            case hs45 => kernel_rfl
            case hf45 => kernel_rfl
            case hr45 => kernel_rfl
            case hQ45 => exact fun _ _ _ h => h
            case hw45 => rfl
            try simp only [Act.put, List.setIfInBounds_toArray, List.set_cons_zero, List.set_cons_succ]
            refine' wpAnyH_take (i := 16) (oi := _) (v := undef) ?hi46 ?hs46 ?hf46 ?hr46 ?hQ46 (Or.inr ⟨?hw46, rfl⟩) (by assumption) ?hrest46
            case hi46 => simp only [List.getElem?_toArray]; rfl
            case hs46 => kernel_rfl
            case hf46 => kernel_rfl
            case hr46 => kernel_rfl
            case hQ46 => exact fun _ _ _ h => h
            case hw46 => rfl
            try simp only [Act.put, List.setIfInBounds_toArray, List.set_cons_zero, List.set_cons_succ]
            refine' wpAnyH_take (i := 17) (oi := _) (v := undef) ?hi47 ?hs47 ?hf47 ?hr47 ?hQ47 (Or.inr ⟨?hw47, rfl⟩) (by assumption) ?hrest47
            case hi47 => simp only [List.getElem?_toArray]; rfl
            case hs47 => kernel_rfl
            case hf47 => kernel_rfl
            case hr47 => kernel_rfl
            case hQ47 => exact fun _ _ _ h => h
            case hw47 => rfl
            try simp only [Act.put, List.setIfInBounds_toArray, List.set_cons_zero, List.set_cons_succ]
            refine' wpAnyH_take (i := 18) (oi := _) (v := undef) ?hi48 ?hs48 ?hf48 ?hr48 ?hQ48 (Or.inr ⟨?hw48, rfl⟩) (by assumption) ?hrest48
            case hi48 => simp only [List.getElem?_toArray]; rfl
            case hs48 => kernel_rfl
            case hf48 => kernel_rfl
            case hr48 => kernel_rfl
            case hQ48 => exact fun _ _ _ h => h
            case hw48 => rfl
            try simp only [Act.put, List.setIfInBounds_toArray, List.set_cons_zero, List.set_cons_succ]
            refine' wpAnyH_take (i := 19) (oi := _) (v := _) ?hi49 ?hs49 ?hf49 ?hr49 ?hQ49 (Or.inl ⟨?hw49, ?hy49⟩) (by assumption) ?hrest49
            case hi49 => simp only [List.getElem?_toArray]; rfl
            case hs49 => kernel_rfl
            case hf49 => kernel_rfl
            case hr49 => kernel_rfl
            case hQ49 => exact fun _ _ _ h => h
            case hw49 => rfl
            case hy49 => intro w hSw; (try dsimp only at hSw); go_simp; try with_reducible rfl
            try simp only [Act.put, List.setIfInBounds_toArray, List.set_cons_zero, List.set_cons_succ]
            refine wpAnyH_done (by kernel_rfl) ?_ _
            go_wp2_with fail
            go_ret
            rw [HNN.out]
            exact ⟨rfl, HT.out.ext hxt, Kp.of_ext (HX.out.trans hxt)⟩
        · have h1I : decide ((65536 : Int) < (n : Int)) = true := decide_eq_true (by omega)
          have h1J : decide (65536 < n) = true := decide_eq_true (by omega)
          have HNN := Lib.hid (HFN.out (fun h => h1 h.1))
          go_upto_region 10 with fail
          refine wp_region_held_drew (S := fun _ => True) (by kernel_rfl) trivial (fun hHeld => ?_)
          have hxt : Ext wr wr.drew := Ext.drew _
          generalize wr.drew = v5 at hxt hHeld ⊢
          refine' wpAnyH_take (i := 0) (oi := _) (v := _) ?hi51 ?hs51 ?hf51 ?hr51 ?hQ51 (Or.inl ⟨?hw51, ?hy51⟩) (by assumption) ?hrest51
          case hi51 => simp only [List.getElem?_toArray]; rfl
          case hs51 => kernel_rfl
          case hf51 => kernel_rfl
          case hr51 => kernel_rfl
          case hQ51 => exact fun _ _ _ h => h
          case hw51 => rfl
          case hy51 => intro w hSw; (try dsimp only at hSw); go_simp; try with_reducible rfl
          try simp only [Act.put, List.setIfInBounds_toArray, List.set_cons_zero, List.set_cons_succ]
          refine' wpAnyH_take (i := 1) (oi := _) (v := _) ?hi52 ?hs52 ?hf52 ?hr52 ?hQ52 (Or.inl ⟨?hw52, ?hy52⟩) (by assumption) ?hrest52
          case hi52 => simp only [List.getElem?_toArray]; rfl
          case hs52 => kernel_rfl
          case hf52 => kernel_rfl
          case hr52 => kernel_rfl
          case hQ52 => exact fun _ _ _ h => h
          case hw52 => rfl
          case hy52 => intro w hSw; (try dsimp only at hSw); go_simp; try with_reducible rfl
          try simp only [Act.put, List.setIfInBounds_toArray, List.set_cons_zero, List.set_cons_succ]
          refine' wpAnyH_take (i := 2) (oi := _) (v := _) ?hi53 ?hs53 ?hf53 ?hr53 ?hQ53 (Or.inl ⟨?hw53, ?hy53⟩) (by assumption) ?hrest53
          case hi53 => simp only [List.getElem?_toArray]; rfl
          case hs53 => kernel_rfl
          case hf53 => kernel_rfl
          case hr53 => kernel_rfl
          case hQ53 => exact fun _ _ _ h => h
          case hw53 => rfl
          case hy53 => intro w hSw; (try dsimp only at hSw); go_simp; try with_reducible rfl
          try simp only [Act.put, List.setIfInBounds_toArray, List.set_cons_zero, List.set_cons_succ]
          refine' wpAnyH_take (i := 3) (oi := _) (v := undef) ?hi54 ?hs54 ?hf54 ?hr54 ?hQ54 (Or.inr ⟨?hw54, rfl⟩) (by assumption) ?hrest54
          case hi54 => simp only [List.getElem?_toArray]; rfl
          case hs54 => kernel_rfl
          case hf54 => kernel_rfl
          case hr54 => kernel_rfl
          case hQ54 => exact fun _ _ _ h => h
          case hw54 => rfl
          try simp only [Act.put, List.setIfInBounds_toArray, List.set_cons_zero, List.set_cons_succ]
          refine' wpAnyH_take (i := 4) (oi := _) (v := undef) ?hi55 ?hs55 ?hf55 ?hr55 ?hQ55 (Or.inr ⟨?hw55, rfl⟩) (by assumption) ?hrest55
          case hi55 => simp only [List.getElem?_toArray]; rfl
          case hs55 => kernel_rfl
          case hf55 => kernel_rfl
          case hr55 => kernel_rfl
          case hQ55 => exact fun _ _ _ h => h
          case hw55 => rfl
          try simp only [Act.put, List.setIfInBounds_toArray, List.set_cons_zero, List.set_cons_succ]
          refine' wpAnyH_take (i := 5) (oi := _) (v := undef) ?hi56 ?hs56 ?hf56 ?hr56 ?hQ56 (Or.inr ⟨?hw56, rfl⟩) (by assumption) ?hrest56
          case hi56 => simp only [List.getElem?_toArray]; rfl
          case hs56 => kernel_rfl
          case hf56 => kernel_rfl
          case hr56 => kernel_rfl
          case hQ56 => exact fun _ _ _ h => h
          case hw56 => rfl
          try simp only [Act.put, List.setIfInBounds_toArray, List.set_cons_zero, List.set_cons_succ]
          refine' wpAnyH_take (i := 6) (oi := _) (v := undef) ?hi57 ?hs57 ?hf57 ?hr57 ?hQ57 (Or.inr ⟨?hw57, rfl⟩) (by assumption) ?hrest57
          case hi57 => simp only [List.getElem?_toArray]; rfl
          case hs57 => kernel_rfl
          case hf57 => kernel_rfl
          case hr57 => kernel_rfl
          case hQ57 => exact fun _ _ _ h => h
          case hw57 => rfl
          try simp only [Act.put, List.setIfInBounds_toArray, List.set_cons_zero, List.set_cons_succ]
          refine' wpAnyH_take (i := 7) (oi := _) (v := _) ?hi58 ?hs58 ?hf58 ?hr58 ?hQ58 (Or.inl ⟨?hw58, ?hy58⟩) (by assumption) ?hrest58
          case hi58 => simp only [List.getElem?_toArray]; rfl
          case hs58 => kernel_rfl
          case hf58 => kernel_rfl
          case hr58 => kernel_rfl
          case hQ58 => exact fun _ _ _ h => h
          case hw58 => rfl
          case hy58 => intro w hSw; (try dsimp only at hSw); go_simp; try with_reducible rfl
          try simp only [Act.put, List.setIfInBounds_toArray, List.set_cons_zero, List.set_cons_succ]
          refine' wpAnyH_take (i := 8) (oi := _) (v := _) ?hi59 ?hs59 ?hf59 ?hr59 ?hQ59 (Or.inl ⟨?hw59, ?hy59⟩) (by assumption) ?hrest59
          case hi59 => simp only [List.getElem?_toArray]; rfl
          case hs59 => kernel_rfl
          case hf59 => kernel_rfl
          case hr59 => kernel_rfl
          case hQ59 => exact fun _ _ _ h => h
          case hw59 => rfl
          case hy59 => intro w hSw; (try dsimp only at hSw); go_simp; try with_reducible rfl
          try simp only [Act.put, List.setIfInBounds_toArray, List.set_cons_zero, List.set_cons_succ]
          refine' wpAnyH_take (i := 9) (oi := _) (v := undef) ?hi60 ?hs60 ?hf60 ?hr60 ?hQ60 (Or.inr ⟨?hw60, rfl⟩) (by assumption) ?hrest60
          case hi60 => simp only [List.getElem?_toArray]; rfl
          case hs60 => kernel_rfl
          case hf60 => kernel_rfl
          case hr60 => kernel_rfl
          case hQ60 => exact fun _ _ _ h => h
          case hw60 => rfl
          try simp only [Act.put, List.setIfInBounds_toArray, List.set_cons_zero, List.set_cons_succ]
          refine' wpAnyH_take (i := 10) (oi := _) (v := undef) ?hi61 ?hs61 ?hf61 ?hr61 ?hQ61 (Or.inr ⟨?hw61, rfl⟩) (by assumption) ?hrest61
          case hi61 => simp only [List.getElem?_toArray]; rfl
          case hs61 => kernel_rfl
          case hf61 => kernel_rfl
          case hr61 => kernel_rfl
          case hQ61 => exact fun _ _ _ h => h
          case hw61 => rfl
          try simp only [Act.put, List.setIfInBounds_toArray, List.set_cons_zero, List.set_cons_succ]
          refine' wpAnyH_take (i := 11) (oi := _) (v := undef) ?hi62 ?hs62 ?hf62 ?hr62 ?hQ62 (Or.inr ⟨?hw62, rfl⟩) (by assumption) ?hrest62
          case hi62 => simp only [List.getElem?_toArray]; rfl
          case hs62 => kernel_rfl
          case hf62 => kernel_rfl
          case hr62 => kernel_rfl
          case hQ62 => exact fun _ _ _ h => h
          case hw62 => rfl
          try simp only [Act.put, List.setIfInBounds_toArray, List.set_cons_zero, List.set_cons_succ]
          refine' wpAnyH_take (i := 12) (oi := _) (v := undef) ?hi63 ?hs63 ?hf63 ?hr63 ?hQ63 (Or.inr ⟨?hw63, rfl⟩) (by assumption) ?hrest63
          case hi63 => simp only [List.getElem?_toArray]; rfl
          case hs63 => kernel_rfl
          case hf63 => kernel_rfl
          case hr63 => kernel_rfl
          case hQ63 => exact fun _ _ _ h => h
          case hw63 => rfl
          try simp only [Act.put, List.setIfInBounds_toArray, List.set_cons_zero, List.set_cons_succ]
          refine' wpAnyH_take (i := 13) (oi := _) (v := undef) ?hi64 ?hs64 ?hf64 ?hr64 ?hQ64 (Or.inr ⟨?hw64, rfl⟩) (by assumption) ?hrest64
          case hi64 => simp only [List.getElem?_toArray]; rfl
          case hs64 => kernel_rfl
          case hf64 => kernel_rfl
          case hr64 => kernel_rfl
          case hQ64 => exact fun _ _ _ h => h
          case hw64 => rfl
          try simp only [Act.put, List.setIfInBounds_toArray, List.set_cons_zero, List.set_cons_succ]
          refine' wpAnyH_take (i := 14) (oi := _) (v := undef) ?hi65 ?hs65 ?hf65 ?hr65 ?hQ65 (Or.inr ⟨?hw65, rfl⟩) (by assumption) ?hrest65
          case hi65 => simp only [List.getElem?_toArray]; rfl
          case hs65 => kernel_rfl
          case hf65 => kernel_rfl
          case hr65 => kernel_rfl
          case hQ65 => exact fun _ _ _ h => h
          case hw65 => rfl
          try simp only [Act.put, List.setIfInBounds_toArray, List.set_cons_zero, List.set_cons_succ]
          refine' wpAnyH_take (i := 15) (oi := _) (v := undef) ?hi66 ?hs66 ?hf66 ?hr66 ?hQ66 (Or.inr ⟨?hw66, rfl⟩) (by assumption) ?hrest66
          case hi66 => simp only [List.getElem?_toArray]; rfl
          case hs66 => kernel_rfl
          case hf66 => kernel_rfl
          case hr66 => kernel_rfl
          case hQ66 => exact fun _ _ _ h => h
          case hw66 => rfl
          try simp only [Act.put, List.setIfInBounds_toArray, List.set_cons_zero, List.set_cons_succ]
          refine' wpAnyH_take (i := 16) (oi := _) (v := undef) ?hi67 ?hs67 ?hf67 ?hr67 ?hQ67 (Or.inr ⟨?hw67, rfl⟩) (by assumption) ?hrest67
          case hi67 => simp only [List.getElem?_toArray]; rfl
          case hs67 => kernel_rfl
          case hf67 => kernel_rfl
          case hr67 => kernel_rfl
          case hQ67 => exact fun _ _ _ h => h
          case hw67 => rfl
          try simp only [Act.put, List.setIfInBounds_toArray, List.set_cons_zero, List.set_cons_succ]
          refine' wpAnyH_take (i := 17) (oi := _) (v := undef) ?hi68 ?hs68 ?hf68 ?hr68 ?hQ68 (Or.inr ⟨?hw68, rfl⟩) (by assumption) ?hrest68
          case hi68 => simp only [List.getElem?_toArray]; rfl
          case hs68 => kernel_rfl
          case hf68 => kernel_rfl
          case hr68 => kernel_rfl
          case hQ68 => exact fun _ _ _ h => h
          case hw68 => rfl
          try simp only [Act.put, List.setIfInBounds_toArray, List.set_cons_zero, List.set_cons_succ]
          refine' wpAnyH_take (i := 18) (oi := _) (v := undef) ?hi69 ?hs69 ?hf69 ?hr69 ?hQ69 (Or.inr ⟨?hw69, rfl⟩) (by assumption) ?hrest69
          case hi69 => simp only [List.getElem?_toArray]; rfl
          case hs69 => kernel_rfl
          case hf69 => kernel_rfl
          case hr69 => kernel_rfl
          case hQ69 => exact fun _ _ _ h => h
          case hw69 => rfl
          try simp only [Act.put, List.setIfInBounds_toArray, List.set_cons_zero, List.set_cons_succ]
          refine' wpAnyH_take (i := 19) (oi := _) (v := _) ?hi70 ?hs70 ?hf70 ?hr70 ?hQ70 (Or.inl ⟨?hw70, ?hy70⟩) (by assumption) ?hrest70
          case hi70 => simp only [List.getElem?_toArray]; rfl
          case hs70 => kernel_rfl
          case hf70 => kernel_rfl
          case hr70 => kernel_rfl
          case hQ70 => exact fun _ _ _ h => h
          case hw70 => rfl
          case hy70 => intro w hSw; (try dsimp only at hSw); go_simp; try with_reducible rfl
          try simp only [Act.put, List.setIfInBounds_toArray, List.set_cons_zero, List.set_cons_succ]
          refine wpAnyH_done (by kernel_rfl) ?_ _
          go_wp2_with fail
          go_ret
          rw [HNN.out]
          exact ⟨rfl, HT.out.ext hxt, Kp.of_ext (HX.out.trans hxt)⟩
def frmsOk (l : List ByteArray) : Bool := l.all fun s => decide (good s.toList)
def frmsB (l : List ByteArray) : List UInt8 := frms (l.map fun s => s.toList)
theorem frms_le : ∀ (l : List ByteArray), (∀ s ∈ l, s.size ≤ 400) → (frmsB l).length ≤ l.length * 408
  | [], _ => by simp [frmsB, frms]
  | s :: l, h => by
    have ih := frms_le l fun x hx => h x (by simp [hx])
    have hs := h s (by simp)
    have e : frmsB (s :: l) = frm s.toList ++ frmsB l := rfl
    rw [e, List.length_append, List.length_cons]
    by_cases hg : good s.toList
    · rw [frm_len hg, size_list]; omega
    · unfold frm; rw [if_neg hg]; simp; omega
theorem frms_snoc {l : List ByteArray} {k : Nat} {s : ByteArray} (h : l[k]? = some s) : frmsB (l.take (k + 1)) = frmsB (l.take k) ++ frm s.toList := by
  unfold frmsB
  rw [List.take_add_one, h, List.map_append, frms_app]
  simp [frms]
theorem ok_snoc {l : List ByteArray} {k : Nat} {s : ByteArray} (h : l[k]? = some s) : frmsOk (l.take (k + 1)) = (frmsOk (l.take k) && decide (good s.toList)) := by
  unfold frmsOk
  rw [List.take_add_one, h, List.all_append]
  simp
theorem ok_not {l : List ByteArray} {k : Nat} {s : ByteArray} (h : l[k]? = some s) (hg : ¬ good s.toList) : frmsOk l = false := by
  unfold frmsOk
  rw [List.all_eq_false]
  exact ⟨s, List.mem_of_getElem? h, by simp [hg]⟩
theorem frm_empty {s : List UInt8} : (bs (frm s)).toList.isEmpty = !decide (good s) := by
  rw [bs_list]
  by_cases h : good s
  · have := frm_len h
    cases hf : frm s with
    | nil => rw [hf] at this; simp at this
    | cons a t => simp [h]
  · unfold frm; rw [if_neg h]; simp [h]
theorem txt_rd {w : World} {A : Option Addr} {n c : Nat} {l : List ByteArray} (h : Txt w (.slice A n c) l) : Rd w A (l.map .string) := by
  obtain ⟨A', n', c', e, h1, h2, h3, h4⟩ := h
  injection e with e1 e2 e3
  subst e1
  exact h4
def frRes (l : List ByteArray) : Value := .tuple #[.string (if frmsOk l = true then bs (frmsB l) else ⟨#[]⟩), .bool (frmsOk l)]
theorem frRes_yes {l : List ByteArray} (h : frmsOk l = true) : frRes l = .tuple #[.string (bs (frmsB l)), .bool true] := by unfold frRes; rw [h, if_pos rfl]
theorem frRes_no {l : List ByteArray} (h : frmsOk l = false) : frRes l = .tuple #[.string ⟨#[]⟩, .bool false] := by unfold frRes; rw [h]; rfl
set_option maxHeartbeats 4000000 in
theorem frames_any (b : Nat) (v : Value) (l : List ByteArray) (w : World) (h : TabAt w b) (hv : ∀ w', Kp [b] w w' → Txt w' v l) (hl : l.length ≤ 1000) (hs : ∀ s ∈ l, s.size ≤ 400) :
    Calls Try.prog 42 #[.pointer (some ⟨b, 0, none⟩), v] w fun e w' => e = .returned (frRes l) ∧ TabAt w' b ∧ Kp [b] w w' := by
  have HV := Lib.hid hv
  obtain ⟨A, n, c, rfl, hn, hnc, hcm, hr⟩ := hv w (Kp.refl _ _)
  have HN := Lib.hid hn
  have HS := Lib.hid hs
  clear hr hs hv
  go_enter Try.func42, Try.ntmps42
  go_wp2_with fail
  go_loopw [6, 12] (fun o iv wr => ∃ k : Nat, k ≤ n ∧ iv = .int .i64 (k : Int) ∧ o = .string (bs (frmsB (l.take k))) ∧ frmsOk (l.take k) = true ∧ TabAt wr b ∧ Kp [b] w wr) (fun _ iv _ => n - (intOf iv).toNat)
  case atStart => exact ⟨0, by omega, rfl, rfl, rfl, h, Kp.refl _ _⟩
  case round =>
    obtain ⟨k, hk, rfl, rfl, hok, ht, hkp⟩ := hrel
    have HOK := Lib.hid hok
    have HT := Lib.hid ht
    have HKP := Lib.hid hkp
    clear hok ht
    by_cases hkl : k < n
    · have hkI : (k : Int) < (n : Int) := by omega
      have hkJ : (0 : Int) ≤ (k : Int) := by omega
      have hrw := txt_rd (HV.out wr hkp)
      clear hkp
      obtain ⟨s, hsk⟩ : ∃ s, l[k]? = some s := ⟨_, List.getElem?_eq_getElem (by omega)⟩
      obtain ⟨ad, rfl, hcell⟩ := hrw.some_ (by rw [List.length_map]; omega)
      have c0 := hcell k (.string s) (by rw [List.getElem?_map, hsk]; rfl)
      have hsz := HS.out s (List.mem_of_getElem? hsk)
      have HSK := Lib.hid hsk
      clear hcell hsk hrw
      go_wp2_with fail
      refine (frame_any b s wr HT.out (by omega)).mono ?_
      rintro e w1 ⟨rfl, ht1, hk1⟩
      have HT1 := Lib.hid ht1
      have HK1 := Lib.hid (HKP.out.trans hk1 (Sub.refl _ _))
      clear ht1 hk1 c0
      have hem := frm_empty (s := s.toList)
      have HFS := Lib.hid (frms_snoc HSK.out)
      have HOS := Lib.hid (ok_snoc HSK.out)
      have hz1 : (bs (frm s.toList)).size ≤ 408 := by
        rw [bs_size]
        by_cases hg : good s.toList
        · rw [frm_len hg, size_list]; omega
        · unfold frm; rw [if_neg hg]; simp
      have hz2 : (bs (frmsB (l.take k))).size ≤ 408000 := by
        rw [bs_size]
        have := frms_le (l.take k) (fun x hx => HS.out x (List.mem_of_mem_take hx))
        rw [List.length_take] at this
        omega
      by_cases hg : good s.toList
      · rw [decide_eq_true hg] at hem HOS
        have hem2 : (bs (frm s.toList)).toList.isEmpty = false := hem
        have HAP : Hid (bs (frmsB (l.take k)) ++ bs (frm s.toList) = bs (frmsB (l.take (k + 1)))) := Lib.hid (by rw [bs_app, HFS.out])
        clear hem hg
        generalize bs (frm s.toList) = fr at hem2 hz1 HAP ⊢
        generalize bs (frmsB (l.take k)) = fo at hz2 HAP ⊢
        go_wp2_with fail
        go_roundw
        case rel => exact ⟨k + 1, by omega, by go_num, by rw [HAP.out], by rw [HOS.out, HOK.out]; rfl, HT1.out, HK1.out⟩
        case measure => simp [intOf]; omega
      · rw [decide_eq_false hg] at hem
        have hem2 : (bs (frm s.toList)).toList.isEmpty = true := hem
        have HFL := Lib.hid (ok_not HSK.out hg)
        clear hem hg
        generalize bs (frm s.toList) = fr at hem2 hz1 ⊢
        go_wp2_with fail
        go_ret2
        rw [frRes_no HFL.out]
        exact ⟨rfl, HT1.out, HK1.out⟩
    · obtain rfl : k = n := by omega
      have HFL : Hid (frmsOk l = true) := Lib.hid (by have := HOK.out; rwa [List.take_of_length_le (by omega)] at this)
      rw [List.take_of_length_le (show l.length ≤ k by omega)]
      go_wp2_with fail
      go_ret2
      rw [frRes_yes HFL.out]
      exact ⟨rfl, HT.out, HKP.out⟩
end Go.Proofs.Ytdndeggognfcaaa
