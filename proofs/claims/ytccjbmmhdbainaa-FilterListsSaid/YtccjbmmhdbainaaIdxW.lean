/- Package index: New, Key, put walked. -/
import Derived.Test.YtccjbmmhdbainaaIdxF
namespace Go.Proofs.Ytccjbmmhdbainaa
open Go.RowKit Sets
set_option linter.unusedVariables false
set_option maxRecDepth 100000
set_option linter.unusedSectionVars false
set_option linter.unusedSimpArgs false

def keyI (s : ByteArray) : Bool := decide (1 ≤ s.size) && decide (s.size ≤ 64)
theorem key_any (s : ByteArray) (w : World) (hs : s.size ≤ 9223372036854775807) : Calls Try.prog 46 #[.string s] w fun e w' => e = .returned (.bool (keyI s)) ∧ w = w' := by
  by_cases h0 : s.size = 0
  · have hl : s.toList = [] := List.eq_nil_of_length_eq_zero (by rw [Lib.toList_data]; simpa using h0)
    have hk : keyI s = false := by simp [keyI, h0]
    rw [hk]
    clear h0 hk
    go_enter Try.func46, Try.ntmps46
    go_wp2_with fail
    go_ret
    exact ⟨rfl, rfl⟩
  · have hl : s.toList ≠ [] := fun h => h0 (by
      have : s.toList.length = 0 := by rw [h]; rfl
      rw [Lib.toList_data] at this
      simpa using this)
    have hl1 : s.toList.isEmpty = false := by simpa using hl
    have hl2 : (!s.toList.isEmpty) = true := by simpa using hl
    by_cases h64 : s.size ≤ 64
    · have hk : keyI s = true := by simp [keyI, h64]; omega
      have h64I : (s.size : Int) ≤ 64 := by omega
      rw [hk]
      clear h0 hk hl h64
      go_enter Try.func46, Try.ntmps46
      go_wp2_with fail
      go_ret
      exact ⟨rfl, rfl⟩
    · have hk : keyI s = false := by simp [keyI, h64]
      have h64I : (64 : Int) < (s.size : Int) := by omega
      rw [hk]
      clear h0 hk hl h64
      go_enter Try.func46, Try.ntmps46
      go_wp2_with fail
      go_ret
      exact ⟨ret_bool (by rw [decide_eq_false (by omega)]), rfl⟩
theorem txt_cm : ∀ (w w' : World) (v : Value) (a : List ByteArray), Cm w w' → Txt w v a → Txt w' v a := fun _ _ _ _ h t => h.txt t
theorem row_cm : ∀ (w w' : World) (v : Value) (a : List Lab), Cm w w' → Row labC w v a → Row labC w' v a := fun _ _ _ _ h t => h.row t
theorem Try.strK : Ke Try.prog 9 Value.string okS := strKe Try.underlying9
theorem Try.zeroStrs (w : World) : (zeroValue 22).run Try.prog w = .ok (.slice none 0 0) w := by kernel_rfl
theorem Try.zeroLabs (w : World) : (zeroValue 25).run Try.prog w = .ok (.slice none 0 0) w := by kernel_rfl
abbrev KeysAt (w : World) (b : Nat) (F : Lab → Option (List ByteArray)) : Prop := MapV labV okL Txt w b F
abbrev NamesAt (w : World) (b : Nat) (F : ByteArray → Option (List ByteArray)) : Prop := MapV Value.string okS Txt w b F
abbrev LabsAt (w : World) (b : Nat) (F : ByteArray → Option (List Lab)) : Prop := MapV Value.string okS (fun w v a => Row labC w v a) w b F

theorem putS_any (b : Nat) (F : ByteArray → Option (List ByteArray)) (s : ByteArray) (v : Value) (xs : List ByteArray) (w : World) (h : NamesAt w b F) (hs : okS s) (hx : Txt w v xs) :
    Calls Try.prog 52 #[.map (some b), .string s, v] w fun e w' => e = .returned (.tuple #[]) ∧ NamesAt w' b (updF F s (optL xs)) ∧ Kp [b] w w' ∧ Cm w w' := by
  have hx' := hx
  obtain ⟨A, n, c, rfl, hn, hnc, hcm, hr⟩ := hx
  by_cases h0 : n = 0
  · obtain ⟨w1, hrun, hm, hk, hc⟩ := h.del Try.strK Try.underlying86 txt_cm s hs 0
    have hxs : xs = [] := List.eq_nil_of_length_eq_zero (by omega)
    subst hxs
    have hz : ((n : Int) == 0) = true := by rw [h0]; rfl
    have HM := Lib.hid hm
    have HK := Lib.hid hk
    have HC := Lib.hid hc
    clear hm hk hc h0 hn hr hx'
    go_enter Try.func52, Try.ntmps52
    go_wp2_with fail
    exact bodyPost_ret (v := .tuple #[]) (by simp [results, Try.results52, go_sem]) rfl ⟨rfl, HM.out, HK.out, HC.out⟩
  · obtain ⟨w1, hrun, hm, hk, hc⟩ := h.put Try.strK Try.underlying86 txt_cm s hs _ xs hx'
    have hz : ((n : Int) == 0) = false := by rw [beq_eq_false_iff_ne]; omega
    have ho : optL xs = some xs := by
      cases xs with
      | nil => simp at hn; omega
      | cons a t => rfl
    rw [ho]
    have HM := Lib.hid hm
    have HK := Lib.hid hk
    have HC := Lib.hid hc
    clear hm hk hc h0 hn hr hx' ho
    go_enter Try.func52, Try.ntmps52
    go_wp2_with fail
    exact bodyPost_end (v := .tuple #[]) (by simp [results, Try.results52, go_sem]) rfl ⟨rfl, HM.out, HK.out, HC.out⟩
theorem putL_any (b : Nat) (F : Lab → Option (List ByteArray)) (y : Lab) (v : Value) (xs : List ByteArray) (w : World) (h : KeysAt w b F) (hs : okL y) (hx : Txt w v xs) :
    Calls Try.prog 50 #[.map (some b), labV y, v] w fun e w' => e = .returned (.tuple #[]) ∧ KeysAt w' b (updF F y (optL xs)) ∧ Kp [b] w w' ∧ Cm w w' := by
  have hx0 := Ext.alloc w (.cells #[.string y.1, .string y.2] 69)
  have hx' := hx.ext hx0
  have hb' := h.ext txt_cm hx0
  obtain ⟨A, n, c, rfl, hn, hnc, hcm, hr⟩ := hx
  by_cases h0 : n = 0
  · obtain ⟨w1, hrun, hm, hk, hc⟩ := hb'.del labKe Try.underlying85 txt_cm y hs 0
    have hxs : xs = [] := List.eq_nil_of_length_eq_zero (by omega)
    subst hxs
    have hz : ((n : Int) == 0) = true := by rw [h0]; rfl
    have HM := Lib.hid hm
    have HK := Lib.hid ((Kp.of_ext (L := [b]) hx0).and hk)
    have HC := Lib.hid ((Cm.of_ext hx0).trans hc)
    obtain ⟨y1, y2⟩ := y
    simp only [labV] at hrun ⊢
    clear hm hk hc h0 hn hr hx' hb' hx0
    go_enter Try.func50, Try.ntmps50
    go_wp2_with fail
    exact bodyPost_ret (v := .tuple #[]) (by simp [results, Try.results50, go_sem]) rfl ⟨rfl, HM.out, HK.out, HC.out⟩
  · obtain ⟨w1, hrun, hm, hk, hc⟩ := hb'.put labKe Try.underlying85 txt_cm y hs _ xs hx'
    have hz : ((n : Int) == 0) = false := by rw [beq_eq_false_iff_ne]; omega
    have ho : optL xs = some xs := by
      cases xs with
      | nil => simp at hn; omega
      | cons a t => rfl
    rw [ho]
    have HM := Lib.hid hm
    have HK := Lib.hid ((Kp.of_ext (L := [b]) hx0).and hk)
    have HC := Lib.hid ((Cm.of_ext hx0).trans hc)
    obtain ⟨y1, y2⟩ := y
    simp only [labV] at hrun ⊢
    clear hm hk hc h0 hn hr hx' ho hb' hx0
    go_enter Try.func50, Try.ntmps50
    go_wp2_with fail
    exact bodyPost_end (v := .tuple #[]) (by simp [results, Try.results50, go_sem]) rfl ⟨rfl, HM.out, HK.out, HC.out⟩
/-- An index at block x: what its three maps hold. -/
structure IdxM (B : Nat) (w : World) (x : Nat) (G : ByteArray → Option (List Lab)) (F : Lab → Option (List ByteArray)) (N : ByteArray → Option (List ByteArray)) (b1 b2 b3 : Nat) : Prop where
  blk : w.heap[x]? = some (.cells #[.map (some b1), .map (some b2), .map (some b3)] 88 (0, 0))
  g : LabsAt w b1 G
  f : KeysAt w b2 F
  n : NamesAt w b3 N
  d12 : b1 ≠ b2
  d13 : b1 ≠ b3
  d23 : b2 ≠ b3
  hx : B ≤ x
  h1 : B ≤ b1
  h2 : B ≤ b2
  h3 : B ≤ b3
theorem new_any (w : World) : Calls Try.prog 33 #[] w fun e w' => ∃ x b1 b2 b3, e = .returned (.pointer (some ⟨x, 0, none⟩)) ∧ IdxM w.heap.size w' x (fun _ => none) (fun _ => none) (fun _ => none) b1 b2 b3 ∧ Ext w w' := by
  have hmm := @run_makeMap Try.prog
  go_enter Try.func33, Try.ntmps33
  go_wp2_with fail
  go_ret
  have h1 : LabsAt (w.alloc (.map #[] 0)) w.heap.size (fun _ => none) := MapV.made w
  have h2 : KeysAt ((w.alloc (.map #[] 0)).alloc (.map #[] 0)) (w.alloc (.map #[] 0)).heap.size (fun _ => none) := MapV.made _
  have h3 : NamesAt (((w.alloc (.map #[] 0)).alloc (.map #[] 0)).alloc (.map #[] 0)) ((w.alloc (.map #[] 0)).alloc (.map #[] 0)).heap.size (fun _ => none) := MapV.made _
  have e1 : (w.alloc (.map #[] 0)).heap.size = w.heap.size + 1 := by simp
  have e2 : ((w.alloc (.map #[] 0)).alloc (.map #[] 0)).heap.size = w.heap.size + 2 := by simp
  have e3 : (((w.alloc (.map #[] 0)).alloc (.map #[] 0)).alloc (.map #[] 0)).heap.size = w.heap.size + 3 := by simp
  have x1 := Ext.alloc w (.map #[] 0)
  have x2 := Ext.alloc (w.alloc (.map #[] 0)) (.map #[] 0)
  have x3 := Ext.alloc ((w.alloc (.map #[] 0)).alloc (.map #[] 0)) (.map #[] 0)
  have x4 := Ext.alloc (((w.alloc (.map #[] 0)).alloc (.map #[] 0)).alloc (.map #[] 0)) (.cells #[.map (some w.heap.size), .map (some (w.heap.size + 1)), .map (some (w.heap.size + 2))] 88)
  have hb := heap_alloc_new (((w.alloc (.map #[] 0)).alloc (.map #[] 0)).alloc (.map #[] 0)) (.cells #[.map (some w.heap.size), .map (some (w.heap.size + 1)), .map (some (w.heap.size + 2))] 88 (0, 0))
  rw [e1] at h2
  rw [e2] at h3
  rw [e3] at hb
  refine ⟨w.heap.size + 3, w.heap.size, w.heap.size + 1, w.heap.size + 2, by first | rfl | simp, ⟨hb, ((h1.ext row_cm x2).ext row_cm x3).ext row_cm x4, (h2.ext txt_cm x3).ext txt_cm x4, h3.ext txt_cm x4, by omega, by omega, by omega, by omega, by omega, by omega, by omega⟩, ((x1.trans x2).trans x3).trans x4⟩
end Go.Proofs.Ytccjbmmhdbainaa
