/- Package resp's reader walked: bytes, the end of a line. -/
import Derived.Test.YtdbboooblbdihaaKp
import Derived.Test.YtdbboooblbdihaaByt
import Derived.Test.YtdbboooblbdihaaStp
import Derived.WalkLawsBesides
namespace Go.Proofs.Ytdbboooblbdihaa
open Go.RowKit
set_option linter.unusedVariables false
set_option linter.unusedSectionVars false
set_option linter.unusedSimpArgs false
set_option maxRecDepth 100000


def flt (c : Int) : PanicEntry := { v := .iface 79 (.agg #[.int .i64 c]), recovered := false }
/-- The reader at block r: its text, where it stands. -/
def RdrAt (w : World) (r : Nat) (s : ByteArray) (at_ : Nat) : Prop := w.heap[r]? = some (.cells #[.string s, .int .i64 (at_ : Int)] 64 (0, 0))
theorem RdrAt.ext {w w' : World} {r : Nat} {s : ByteArray} {p : Nat} (h : RdrAt w r s p) (hx : Ext w w') : RdrAt w' r s p := (Kp.of_ext (L := []) hx).heap h (by simp)
theorem RdrAt.cells {w : World} {r : Nat} {s : ByteArray} {p : Nat} (h : RdrAt w r s p) : w.cell? ⟨r, 0, none⟩ = some (.string s) ∧ w.cell? ⟨r, 1, none⟩ = some (.int .i64 (p : Int)) := ⟨heap_cell h 0, heap_cell h 1⟩
theorem RdrAt.set {w : World} {r : Nat} {s : ByteArray} {p : Nat} (h : RdrAt w r s p) (q : Nat) : RdrAt (w.setCell ⟨r, 1, none⟩ (.int .i64 (q : Int))) r s q := heap_setCell_same w r 1 _ 64 (.int .i64 (q : Int)) h
/-- The reader, what is not read yet. -/
def Rdr (w : World) (r : Nat) (s : ByteArray) (l : List UInt8) : Prop := ∃ p, RdrAt w r s p ∧ p ≤ s.size ∧ s.toList.drop p = l
theorem Rdr.ext {w w' : World} {r : Nat} {s : ByteArray} {l : List UInt8} (h : Rdr w r s l) (hx : Ext w w') : Rdr w' r s l := by
  obtain ⟨p, h1, h2, h3⟩ := h
  exact ⟨p, h1.ext hx, h2, h3⟩
theorem Rdr.kp {w w' : World} {r : Nat} {s : ByteArray} {l : List UInt8} {L : List Nat} (h : Rdr w r s l) (hk : Kp L w w') (hn : r ∉ L) : Rdr w' r s l := by
  obtain ⟨p, h1, h2, h3⟩ := h
  exact ⟨p, hk.heap h1 hn, h2, h3⟩
/-- What a reading comes to: a value and what is left, or an error. -/
inductive Pr (α : Type) where
  | ok (a : α) (l : List UInt8)
  | er (c : Int)
/-- What a call that reads leaves: only the reader has changed. -/
def RdOut {α : Type} (f : α → Value) (r : Nat) (s : ByteArray) (w : World) (res : Pr α) (e : Ending) (w' : World) : Prop :=
  Kp [r] w w' ∧ match res with
    | .ok a l => e = .returned (f a) ∧ Rdr w' r s l
    | .er c => e = .panicked [flt c] ∧ ∃ p, RdrAt w' r s p
theorem rd_ok {α : Type} {P : Program} {f : FuncId} {args : Array Value} {g : α → Value} {r : Nat} {s : ByteArray} {w : World} {res : Pr α} (h : Calls P f args w (RdOut g r s w res)) {a : α} {l : List UInt8} (hr : res = .ok a l) (v : Value) (hv : g a = v) :
    Calls P f args w fun e w' => e = .returned v ∧ Kp [r] w w' ∧ Rdr w' r s l := by
  subst hr hv
  exact h.mono fun e w' hh => ⟨hh.2.1, hh.1, hh.2.2⟩
theorem rd_er {α : Type} {P : Program} {f : FuncId} {args : Array Value} {g : α → Value} {r : Nat} {s : ByteArray} {w : World} {res : Pr α} (h : Calls P f args w (RdOut g r s w res)) {c : Int} (hr : res = .er c) :
    Calls P f args w fun e w' => e = .panicked [flt c] ∧ Kp [r] w w' ∧ ∃ p, RdrAt w' r s p := by
  subst hr
  exact h.mono fun e w' hh => ⟨hh.2.1, hh.1, hh.2.2⟩
theorem must_yes (c : Int) (w : World) : Calls Try.prog 48 #[.bool true, .int .i64 c] w fun e w' => e = .returned (.tuple #[]) ∧ w = w' := by
  go_enter Try.func48, Try.ntmps48
  go_wp2_with fail
  go_end0
  exact ⟨rfl, rfl⟩
theorem must_no (c : Int) (w : World) : Calls Try.prog 48 #[.bool false, .int .i64 c] w fun e w' => e = .panicked [flt c] ∧ w = w' := by
  go_enter Try.func48, Try.ntmps48
  go_wp2_with fail
  exact ⟨rfl, rfl, rfl⟩
theorem byte_of {s : ByteArray} {p : Nat} {c : UInt8} {t : List UInt8} (h : s.toList.drop p = c :: t) : ∃ hp : p < s.size, s[p] = c := by
  have hl := congrArg List.length h
  rw [List.length_drop, size_list, List.length_cons] at hl
  have hp : p < s.size := by omega
  refine ⟨hp, ?_⟩
  have h1 : s.toList[p]? = some c := by
    have := congrArg (fun l => l[0]?) h
    simpa using this
  rw [Lib.toList_data, Array.getElem?_toList] at h1
  obtain ⟨_, h2⟩ := Array.getElem?_eq_some_iff.1 h1
  exact h2
theorem drop_next {l : List UInt8} {p : Nat} {c : UInt8} {t : List UInt8} (h : l.drop p = c :: t) : l.drop (p + 1) = t := by
  have := congrArg (fun l => l.drop 1) h
  simpa [List.drop_drop] using this
def peekP : List UInt8 → Pr UInt8
  | [] => .er 3
  | c :: t => .ok c (c :: t)
/-- Where it stands as well. -/
theorem peek_at (r : Nat) (s : ByteArray) (p : Nat) (w : World) (h : RdrAt w r s p) (hp : p < s.size) (hz : s.size ≤ 1000000000) :
    Calls Try.prog 54 #[.pointer (some ⟨r, 0, none⟩)] w fun e w' => e = .returned (.int .u8 (s[p].toNat : Int)) ∧ Ext w w' := by
  have hcs := h.cells
  have hltI : (p : Int) < (s.size : Int) := by omega
  have hltJ : (0 : Int) ≤ (p : Int) ∧ (p : Int) < (s.size : Int) := by omega
  have HH := Lib.hid h
  clear h
  go_enter Try.func54, Try.ntmps54
  go_wp2_with fail
  refine wp_region_held_drew (S := fun wz => wz.cell? ⟨r, 0, none⟩ = some (.string s) ∧ wz.cell? ⟨r, 1, none⟩ = some (.int .i64 (p : Int))) (by kernel_rfl) hcs (fun hHeld => ?_)
  have hxt : Ext w w.drew := Ext.drew _
  generalize w.drew = v1 at hxt hHeld ⊢
  have hHeld0 := hHeld
  refine' wpAnyH_take (i := 0) (oi := _) (v := _) ?hi1 ?hs1 ?hf1 ?hr1 ?hQ1 (Or.inl ⟨?hw1, ?hy1⟩) (by assumption) ?hrest1
  case hi1 => simp only [List.getElem?_toArray]; rfl
  case hs1 => kernel_rfl
  case hf1 => kernel_rfl
  case hr1 => kernel_rfl
  case hQ1 => exact fun _ _ _ h => h
  case hw1 => rfl
  case hy1 => intro w hSw; (try dsimp only at hSw); go_simp; try with_reducible rfl
  try simp only [Act.put, List.setIfInBounds_toArray, List.set_cons_zero, List.set_cons_succ]
  refine' wpAnyH_take (i := 1) (oi := _) (v := _) ?hi2 ?hs2 ?hf2 ?hr2 ?hQ2 (Or.inl ⟨?hw2, ?hy2⟩) (by assumption) ?hrest2
  case hi2 => simp only [List.getElem?_toArray]; rfl
  case hs2 => kernel_rfl
  case hf2 => kernel_rfl
  case hr2 => kernel_rfl
  case hQ2 => exact fun _ _ _ h => h
  case hw2 => rfl
  case hy2 => intro w hSw; (try dsimp only at hSw); go_simp; try with_reducible rfl
  try simp only [Act.put, List.setIfInBounds_toArray, List.set_cons_zero, List.set_cons_succ]
  refine' wpAnyH_take (i := 2) (oi := _) (v := _) ?hi3 ?hs3 ?hf3 ?hr3 ?hQ3 (Or.inl ⟨?hw3, ?hy3⟩) (by assumption) ?hrest3
  case hi3 => simp only [List.getElem?_toArray]; rfl
  case hs3 => kernel_rfl
  case hf3 => kernel_rfl
  case hr3 => kernel_rfl
  case hQ3 => exact fun _ _ _ h => h
  case hw3 => rfl
  case hy3 => intro w hSw; (try dsimp only at hSw); go_simp; try with_reducible rfl
  try simp only [Act.put, List.setIfInBounds_toArray, List.set_cons_zero, List.set_cons_succ]
  refine' wpAnyH_take (i := 3) (oi := _) (v := _) ?hi4 ?hs4 ?hf4 ?hr4 ?hQ4 (Or.inl ⟨?hw4, ?hy4⟩) (by assumption) ?hrest4
  case hi4 => simp only [List.getElem?_toArray]; rfl
  case hs4 => kernel_rfl
  case hf4 => kernel_rfl
  case hr4 => kernel_rfl
  case hQ4 => exact fun _ _ _ h => h
  case hw4 => rfl
  case hy4 => intro w hSw; (try dsimp only at hSw); go_simp; try with_reducible rfl
  try simp only [Act.put, List.setIfInBounds_toArray, List.set_cons_zero, List.set_cons_succ]
  refine' wpAnyH_take (i := 4) (oi := _) (v := _) ?hi5 ?hs5 ?hf5 ?hr5 ?hQ5 (Or.inl ⟨?hw5, ?hy5⟩) (by assumption) ?hrest5
  case hi5 => simp only [List.getElem?_toArray]; rfl
  case hs5 => kernel_rfl
  case hf5 => kernel_rfl
  case hr5 => kernel_rfl
  case hQ5 => exact fun _ _ _ h => h
  case hw5 => rfl
  case hy5 => intro w hSw; (try dsimp only at hSw); go_simp; try with_reducible rfl
  try simp only [Act.put, List.setIfInBounds_toArray, List.set_cons_zero, List.set_cons_succ]
  refine' wpAnyH_take (i := 5) (oi := _) (v := _) ?hi6 ?hs6 ?hf6 ?hr6 ?hQ6 (Or.inl ⟨?hw6, ?hy6⟩) (by assumption) ?hrest6
  case hi6 => simp only [List.getElem?_toArray]; rfl
  case hs6 => kernel_rfl
  case hf6 => kernel_rfl
  case hr6 => kernel_rfl
  case hQ6 => exact fun _ _ _ h => h
  case hw6 => rfl
  case hy6 => intro w hSw; (try dsimp only at hSw); go_simp; try with_reducible rfl
  try simp only [Act.put, List.setIfInBounds_toArray, List.set_cons_zero, List.set_cons_succ]
  refine' wpAnyH_take (i := 6) (oi := _) (v := _) ?hi7 ?hs7 ?hf7 ?hr7 ?hQ7 (Or.inl ⟨?hw7, ?hy7⟩) (by assumption) ?hrest7
  case hi7 => simp only [List.getElem?_toArray]; rfl
  case hs7 => kernel_rfl
  case hf7 => kernel_rfl
  case hr7 => kernel_rfl
  case hQ7 => exact fun _ _ _ h => h
  case hw7 => rfl
  case hy7 => intro w hSw; (try dsimp only at hSw); go_simp; try with_reducible rfl
  try simp only [Act.put, List.setIfInBounds_toArray, List.set_cons_zero, List.set_cons_succ]
  refine' wpAnyH_take (i := 7) (oi := _) (v := _) ?hi8 ?hs8 ?hf8 ?hr8 ?hQ8 (Or.inl ⟨?hw8, ?hy8⟩) (by assumption) ?hrest8
  case hi8 => simp only [List.getElem?_toArray]; rfl
  case hs8 => kernel_rfl
  case hf8 => kernel_rfl
  case hr8 => kernel_rfl
  case hQ8 => exact fun _ _ _ h => h
  case hw8 => rfl
  case hy8 => intro w hSw; (try dsimp only at hSw); go_simp; try with_reducible rfl
  try simp only [Act.put, List.setIfInBounds_toArray, List.set_cons_zero, List.set_cons_succ]
  refine' wpAnyH_take (i := 8) (oi := _) (v := _) ?hi9 ?hs9 ?hf9 ?hr9 ?hQ9 (Or.inl ⟨?hw9, ?hy9⟩) (by assumption) ?hrest9
  case hi9 => simp only [List.getElem?_toArray]; rfl
  case hs9 => kernel_rfl
  case hf9 => kernel_rfl
  case hr9 => kernel_rfl
  case hQ9 => exact fun _ _ _ h => h
  case hw9 => rfl
  case hy9 => intro w hSw; (try dsimp only at hSw); go_simp; try with_reducible rfl
  try simp only [Act.put, List.setIfInBounds_toArray, List.set_cons_zero, List.set_cons_succ]
  refine' wpAnyH_take (i := 9) (oi := _) (v := _) ?hi10 ?hs10 ?hf10 ?hr10 ?hQ10 (Or.inl ⟨?hw10, ?hy10⟩) (by assumption) ?hrest10
  case hi10 => simp only [List.getElem?_toArray]; rfl
  case hs10 => kernel_rfl
  case hf10 => kernel_rfl
  case hr10 => kernel_rfl
  case hQ10 => exact fun _ _ _ h => h
  case hw10 => rfl
  case hy10 => intro w hSw; (try dsimp only at hSw); go_simp; try with_reducible rfl
  try simp only [Act.put, List.setIfInBounds_toArray, List.set_cons_zero, List.set_cons_succ]
  refine wpAnyH_ready (rs := [10]) (by kernel_rfl) (by simp) ?_
  refine' AllReadyH.cons (o := _) ?ho11 (fun K hK => ?hstep11) AllReadyH.nil
  case ho11 => simp only [List.getElem?_toArray]; rfl
  go_simp
  refine (must_yes 3 v1).mono ?_
  rintro e _ ⟨rfl, rfl⟩
  refine hK.out _ _ (hHeld0) (fun hHeld => ?_)
  clear hK K
  try simp only [Act.put, List.setIfInBounds_toArray, List.set_cons_zero, List.set_cons_succ]
  refine wpAnyH_done (by kernel_rfl) ?_ _
  go_wp2_with fail
  refine wp_region_held_drew (S := fun wz => wz.cell? ⟨r, 0, none⟩ = some (.string s) ∧ wz.cell? ⟨r, 1, none⟩ = some (.int .i64 (p : Int))) (by kernel_rfl) hHeld0 (fun hHeld => ?_)
  have hxt2 : Ext v1 v1.drew := Ext.drew _
  generalize v1.drew = v2 at hxt2 hHeld ⊢
  refine' wpAnyH_take (i := 0) (oi := _) (v := _) ?hi14 ?hs14 ?hf14 ?hr14 ?hQ14 (Or.inl ⟨?hw14, ?hy14⟩) (by assumption) ?hrest14
  case hi14 => simp only [List.getElem?_toArray]; rfl
  case hs14 => kernel_rfl
  case hf14 => kernel_rfl
  case hr14 => kernel_rfl
  case hQ14 => exact fun _ _ _ h => h
  case hw14 => rfl
  case hy14 => intro w hSw; (try dsimp only at hSw); go_simp; try with_reducible rfl
  try simp only [Act.put, List.setIfInBounds_toArray, List.set_cons_zero, List.set_cons_succ]
  refine' wpAnyH_take (i := 1) (oi := _) (v := _) ?hi15 ?hs15 ?hf15 ?hr15 ?hQ15 (Or.inl ⟨?hw15, ?hy15⟩) (by assumption) ?hrest15
  case hi15 => simp only [List.getElem?_toArray]; rfl
  case hs15 => kernel_rfl
  case hf15 => kernel_rfl
  case hr15 => kernel_rfl
  case hQ15 => exact fun _ _ _ h => h
  case hw15 => rfl
  case hy15 => intro w hSw; (try dsimp only at hSw); go_simp; try with_reducible rfl
  try simp only [Act.put, List.setIfInBounds_toArray, List.set_cons_zero, List.set_cons_succ]
  refine' wpAnyH_take (i := 2) (oi := _) (v := _) ?hi16 ?hs16 ?hf16 ?hr16 ?hQ16 (Or.inl ⟨?hw16, ?hy16⟩) (by assumption) ?hrest16
  case hi16 => simp only [List.getElem?_toArray]; rfl
  case hs16 => kernel_rfl
  case hf16 => kernel_rfl
  case hr16 => kernel_rfl
  case hQ16 => exact fun _ _ _ h => h
  case hw16 => rfl
  case hy16 => intro w hSw; (try dsimp only at hSw); go_simp; try with_reducible rfl
  try simp only [Act.put, List.setIfInBounds_toArray, List.set_cons_zero, List.set_cons_succ]
  refine' wpAnyH_take (i := 3) (oi := _) (v := _) ?hi17 ?hs17 ?hf17 ?hr17 ?hQ17 (Or.inl ⟨?hw17, ?hy17⟩) (by assumption) ?hrest17
  case hi17 => simp only [List.getElem?_toArray]; rfl
  case hs17 => kernel_rfl
  case hf17 => kernel_rfl
  case hr17 => kernel_rfl
  case hQ17 => exact fun _ _ _ h => h
  case hw17 => rfl
  case hy17 => intro w hSw; (try dsimp only at hSw); go_simp; try with_reducible rfl
  try simp only [Act.put, List.setIfInBounds_toArray, List.set_cons_zero, List.set_cons_succ]
  refine' wpAnyH_take (i := 4) (oi := _) (v := _) ?hi18 ?hs18 ?hf18 ?hr18 ?hQ18 (Or.inl ⟨?hw18, ?hy18⟩) (by assumption) ?hrest18
  case hi18 => simp only [List.getElem?_toArray]; rfl
  case hs18 => kernel_rfl
  case hf18 => kernel_rfl
  case hr18 => kernel_rfl
  case hQ18 => exact fun _ _ _ h => h
  case hw18 => rfl
  case hy18 => intro w hSw; (try dsimp only at hSw); go_simp; try with_reducible rfl
  try simp only [Act.put, List.setIfInBounds_toArray, List.set_cons_zero, List.set_cons_succ]
  refine' wpAnyH_take (i := 5) (oi := _) (v := _) ?hi19 ?hs19 ?hf19 ?hr19 ?hQ19 (Or.inl ⟨?hw19, ?hy19⟩) (by assumption) ?hrest19
  case hi19 => simp only [List.getElem?_toArray]; rfl
  case hs19 => kernel_rfl
  case hf19 => kernel_rfl
  case hr19 => kernel_rfl
  case hQ19 => exact fun _ _ _ h => h
  case hw19 => rfl
  case hy19 => intro w hSw; (try dsimp only at hSw); go_simp; try with_reducible rfl
  try simp only [Act.put, List.setIfInBounds_toArray, List.set_cons_zero, List.set_cons_succ]
  refine' wpAnyH_take (i := 6) (oi := _) (v := _) ?hi20 ?hs20 ?hf20 ?hr20 ?hQ20 (Or.inl ⟨?hw20, ?hy20⟩) (by assumption) ?hrest20
  case hi20 => simp only [List.getElem?_toArray]; rfl
  case hs20 => kernel_rfl
  case hf20 => kernel_rfl
  case hr20 => kernel_rfl
  case hQ20 => exact fun _ _ _ h => h
  case hw20 => rfl
  case hy20 => intro w hSw; (try dsimp only at hSw); go_simp; try with_reducible rfl
  try simp only [Act.put, List.setIfInBounds_toArray, List.set_cons_zero, List.set_cons_succ]
  refine' wpAnyH_take (i := 7) (oi := _) (v := _) ?hi21 ?hs21 ?hf21 ?hr21 ?hQ21 (Or.inl ⟨?hw21, ?hy21⟩) (by assumption) ?hrest21
  case hi21 => simp only [List.getElem?_toArray]; rfl
  case hs21 => kernel_rfl
  case hf21 => kernel_rfl
  case hr21 => kernel_rfl
  case hQ21 => exact fun _ _ _ h => h
  case hw21 => rfl
  case hy21 => intro w hSw; (try dsimp only at hSw); go_simp; try with_reducible rfl
  try simp only [Act.put, List.setIfInBounds_toArray, List.set_cons_zero, List.set_cons_succ]
  refine' wpAnyH_take (i := 8) (oi := _) (v := _) ?hi22 ?hs22 ?hf22 ?hr22 ?hQ22 (Or.inl ⟨?hw22, ?hy22⟩) (by assumption) ?hrest22
  case hi22 => simp only [List.getElem?_toArray]; rfl
  case hs22 => kernel_rfl
  case hf22 => kernel_rfl
  case hr22 => kernel_rfl
  case hQ22 => exact fun _ _ _ h => h
  case hw22 => rfl
  case hy22 => intro w hSw; (try dsimp only at hSw); go_simp; try with_reducible rfl
  try simp only [Act.put, List.setIfInBounds_toArray, List.set_cons_zero, List.set_cons_succ]
  refine' wpAnyH_take (i := 9) (oi := _) (v := _) ?hi23 ?hs23 ?hf23 ?hr23 ?hQ23 (Or.inl ⟨?hw23, ?hy23⟩) (by assumption) ?hrest23
  case hi23 => simp only [List.getElem?_toArray]; rfl
  case hs23 => kernel_rfl
  case hf23 => kernel_rfl
  case hr23 => kernel_rfl
  case hQ23 => exact fun _ _ _ h => h
  case hw23 => rfl
  case hy23 => intro w hSw; (try dsimp only at hSw); go_simp; try with_reducible rfl
  try simp only [Act.put, List.setIfInBounds_toArray, List.set_cons_zero, List.set_cons_succ]
  refine wpAnyH_done (by kernel_rfl) ?_ _
  go_wp2_with fail
  go_ret
  exact ⟨rfl, hxt.trans hxt2⟩
theorem peek_end (r : Nat) (s : ByteArray) (p : Nat) (w : World) (h : RdrAt w r s p) (hp : s.size ≤ p) (hz : p ≤ 9223372036854775807) :
    Calls Try.prog 54 #[.pointer (some ⟨r, 0, none⟩)] w fun e w' => e = .panicked [flt 3] ∧ Ext w w' := by
  have hcs := h.cells
  have hltI : decide (p < s.size) = false := decide_eq_false (by omega)
  have HH := Lib.hid h
  clear h
  go_enter Try.func54, Try.ntmps54
  go_wp2_with fail
  refine wp_region_held_drew (S := fun wz => wz.cell? ⟨r, 0, none⟩ = some (.string s) ∧ wz.cell? ⟨r, 1, none⟩ = some (.int .i64 (p : Int))) (by kernel_rfl) hcs (fun hHeld => ?_)
  have hxt : Ext w w.drew := Ext.drew _
  generalize w.drew = v1 at hxt hHeld ⊢
  refine' wpAnyH_take (i := 0) (oi := _) (v := _) ?hi25 ?hs25 ?hf25 ?hr25 ?hQ25 (Or.inl ⟨?hw25, ?hy25⟩) (by assumption) ?hrest25
  case hi25 => simp only [List.getElem?_toArray]; rfl
  case hs25 => kernel_rfl
  case hf25 => kernel_rfl
  case hr25 => kernel_rfl
  case hQ25 => exact fun _ _ _ h => h
  case hw25 => rfl
  case hy25 => intro w hSw; (try dsimp only at hSw); go_simp; try with_reducible rfl
  try simp only [Act.put, List.setIfInBounds_toArray, List.set_cons_zero, List.set_cons_succ]
  refine' wpAnyH_take (i := 1) (oi := _) (v := _) ?hi26 ?hs26 ?hf26 ?hr26 ?hQ26 (Or.inl ⟨?hw26, ?hy26⟩) (by assumption) ?hrest26
  case hi26 => simp only [List.getElem?_toArray]; rfl
  case hs26 => kernel_rfl
  case hf26 => kernel_rfl
  case hr26 => kernel_rfl
  case hQ26 => exact fun _ _ _ h => h
  case hw26 => rfl
  case hy26 => intro w hSw; (try dsimp only at hSw); go_simp; try with_reducible rfl
  try simp only [Act.put, List.setIfInBounds_toArray, List.set_cons_zero, List.set_cons_succ]
  refine' wpAnyH_take (i := 2) (oi := _) (v := _) ?hi27 ?hs27 ?hf27 ?hr27 ?hQ27 (Or.inl ⟨?hw27, ?hy27⟩) (by assumption) ?hrest27
  case hi27 => simp only [List.getElem?_toArray]; rfl
  case hs27 => kernel_rfl
  case hf27 => kernel_rfl
  case hr27 => kernel_rfl
  case hQ27 => exact fun _ _ _ h => h
  case hw27 => rfl
  case hy27 => intro w hSw; (try dsimp only at hSw); go_simp; try with_reducible rfl
  try simp only [Act.put, List.setIfInBounds_toArray, List.set_cons_zero, List.set_cons_succ]
  refine' wpAnyH_take (i := 3) (oi := _) (v := _) ?hi28 ?hs28 ?hf28 ?hr28 ?hQ28 (Or.inl ⟨?hw28, ?hy28⟩) (by assumption) ?hrest28
  case hi28 => simp only [List.getElem?_toArray]; rfl
  case hs28 => kernel_rfl
  case hf28 => kernel_rfl
  case hr28 => kernel_rfl
  case hQ28 => exact fun _ _ _ h => h
  case hw28 => rfl
  case hy28 => intro w hSw; (try dsimp only at hSw); go_simp; try with_reducible rfl
  try simp only [Act.put, List.setIfInBounds_toArray, List.set_cons_zero, List.set_cons_succ]
  refine' wpAnyH_take (i := 4) (oi := _) (v := _) ?hi29 ?hs29 ?hf29 ?hr29 ?hQ29 (Or.inl ⟨?hw29, ?hy29⟩) (by assumption) ?hrest29
  case hi29 => simp only [List.getElem?_toArray]; rfl
  case hs29 => kernel_rfl
  case hf29 => kernel_rfl
  case hr29 => kernel_rfl
  case hQ29 => exact fun _ _ _ h => h
  case hw29 => rfl
  case hy29 => intro w hSw; (try dsimp only at hSw); go_simp; try with_reducible rfl
  try simp only [Act.put, List.setIfInBounds_toArray, List.set_cons_zero, List.set_cons_succ]
  refine' wpAnyH_take (i := 5) (oi := _) (v := _) ?hi30 ?hs30 ?hf30 ?hr30 ?hQ30 (Or.inl ⟨?hw30, ?hy30⟩) (by assumption) ?hrest30
  case hi30 => simp only [List.getElem?_toArray]; rfl
  case hs30 => kernel_rfl
  case hf30 => kernel_rfl
  case hr30 => kernel_rfl
  case hQ30 => exact fun _ _ _ h => h
  case hw30 => rfl
  case hy30 => intro w hSw; (try dsimp only at hSw); go_simp; try with_reducible rfl
  try simp only [Act.put, List.setIfInBounds_toArray, List.set_cons_zero, List.set_cons_succ]
  refine' wpAnyH_take (i := 6) (oi := _) (v := _) ?hi31 ?hs31 ?hf31 ?hr31 ?hQ31 (Or.inl ⟨?hw31, ?hy31⟩) (by assumption) ?hrest31
  case hi31 => simp only [List.getElem?_toArray]; rfl
  case hs31 => kernel_rfl
  case hf31 => kernel_rfl
  case hr31 => kernel_rfl
  case hQ31 => exact fun _ _ _ h => h
  case hw31 => rfl
  case hy31 => intro w hSw; (try dsimp only at hSw); go_simp; try with_reducible rfl
  try simp only [Act.put, List.setIfInBounds_toArray, List.set_cons_zero, List.set_cons_succ]
  refine' wpAnyH_take (i := 7) (oi := _) (v := _) ?hi32 ?hs32 ?hf32 ?hr32 ?hQ32 (Or.inl ⟨?hw32, ?hy32⟩) (by assumption) ?hrest32
  case hi32 => simp only [List.getElem?_toArray]; rfl
  case hs32 => kernel_rfl
  case hf32 => kernel_rfl
  case hr32 => kernel_rfl
  case hQ32 => exact fun _ _ _ h => h
  case hw32 => rfl
  case hy32 => intro w hSw; (try dsimp only at hSw); go_simp; try with_reducible rfl
  try simp only [Act.put, List.setIfInBounds_toArray, List.set_cons_zero, List.set_cons_succ]
  refine' wpAnyH_take (i := 8) (oi := _) (v := _) ?hi33 ?hs33 ?hf33 ?hr33 ?hQ33 (Or.inl ⟨?hw33, ?hy33⟩) (by assumption) ?hrest33
  case hi33 => simp only [List.getElem?_toArray]; rfl
  case hs33 => kernel_rfl
  case hf33 => kernel_rfl
  case hr33 => kernel_rfl
  case hQ33 => exact fun _ _ _ h => h
  case hw33 => rfl
  case hy33 => intro w hSw; (try dsimp only at hSw); go_simp; try with_reducible rfl
  try simp only [Act.put, List.setIfInBounds_toArray, List.set_cons_zero, List.set_cons_succ]
  refine' wpAnyH_take (i := 9) (oi := _) (v := _) ?hi34 ?hs34 ?hf34 ?hr34 ?hQ34 (Or.inl ⟨?hw34, ?hy34⟩) (by assumption) ?hrest34
  case hi34 => simp only [List.getElem?_toArray]; rfl
  case hs34 => kernel_rfl
  case hf34 => kernel_rfl
  case hr34 => kernel_rfl
  case hQ34 => exact fun _ _ _ h => h
  case hw34 => rfl
  case hy34 => intro w hSw; (try dsimp only at hSw); go_simp; try with_reducible rfl
  try simp only [Act.put, List.setIfInBounds_toArray, List.set_cons_zero, List.set_cons_succ]
  refine wpAnyH_ready (rs := [10]) (by kernel_rfl) (by simp) ?_
  refine' AllReadyH.cons (o := _) ?ho35 (fun K hK => ?hstep35) AllReadyH.nil
  case ho35 => simp only [List.getElem?_toArray]; rfl
  go_simp
  refine (must_no 3 v1).mono ?_
  rintro e _ ⟨rfl, rfl⟩
  exact ⟨rfl, rfl, hxt⟩
def expP (x : UInt8) : List UInt8 → Pr Unit
  | [] => .er 3
  | c :: t => if c = x then .ok () t else .er 4
def unitV (_ : Unit) : Value := .tuple #[]
theorem byte_ne {c x : UInt8} (h : ¬ c = x) : ((c.toNat : Int) == (x.toNat : Int)) = false := by
  simp
  intro e
  exact h (UInt8.toNat_inj.1 (by omega))
theorem expect_any (r : Nat) (s : ByteArray) (l : List UInt8) (x : UInt8) (w : World) (h : Rdr w r s l) (hz : s.size ≤ 1000000000) :
    Calls Try.prog 45 #[.pointer (some ⟨r, 0, none⟩), .int .u8 (x.toNat : Int)] w (RdOut unitV r s w (expP x l)) := by
  obtain ⟨p, hr, hp, hd⟩ := h
  cases l with
  | nil =>
    have hl := congrArg List.length hd
    rw [List.length_drop, size_list, List.length_nil] at hl
    have HP := Lib.hid (peek_end r s p w hr (by omega) (by omega))
    have HH := Lib.hid hr
    clear hl hd hr
    go_enter Try.func45, Try.ntmps45
    go_wp2_with fail
    refine HP.out.mono ?_
    rintro e w1 ⟨rfl, hx⟩
    exact ⟨rfl, Kp.of_ext hx, rfl, p, HH.out.ext hx⟩
  | cons c t =>
    obtain ⟨hps, hsk⟩ := byte_of hd
    have hpk := peek_at r s p w hr hps hz
    rw [hsk] at hpk
    have HP := Lib.hid hpk
    have HH := Lib.hid hr
    have HD := Lib.hid (drop_next hd)
    clear hpk hsk hd hr
    by_cases hcx : c = x
    · subst hcx
      have hR : expP c (c :: t) = .ok () t := by unfold expP; simp
      rw [hR]
      clear hR
      go_enter Try.func45, Try.ntmps45
      go_wp2_with fail
      refine HP.out.mono ?_
      rintro e w1 ⟨rfl, hx⟩
      have HX := Lib.hid hx
      clear hx
      go_wp2_with fail
      refine (must_yes 4 w1).mono ?_
      rintro e _ ⟨rfl, rfl⟩
      have HH1 := Lib.hid (HH.out.ext HX.out)
      obtain ⟨c0, c1⟩ := HH1.out.cells
      have f1 := heap_frozen HH1.out 1
      go_wp2_with fail
      go_end0
      have hs := HH1.out.set (p + 1)
      exact ⟨(Kp.of_ext HX.out).and (Kp.store r 1 _ (by simp)), rfl, p + 1, hs, by omega, HD.out⟩
    · have hR : expP x (c :: t) = .er 4 := by unfold expP; simp [hcx]
      rw [hR]
      have hcB := byte_ne hcx
      clear hR
      go_enter Try.func45, Try.ntmps45
      go_wp2_with fail
      refine HP.out.mono ?_
      rintro e w1 ⟨rfl, hx⟩
      go_wp2_with fail
      refine (must_no 4 w1).mono ?_
      rintro e _ ⟨rfl, rfl⟩
      exact ⟨rfl, Kp.of_ext hx, rfl, p, HH.out.ext hx⟩
def Pr.bind {α β : Type} (x : Pr α) (f : α → List UInt8 → Pr β) : Pr β := match x with
  | .ok a l => f a l
  | .er c => .er c
def endP (l : List UInt8) : Pr Unit := match expP 13 l with
  | .er c => .er c
  | .ok _ t => expP 10 t
theorem end_any (r : Nat) (s : ByteArray) (l : List UInt8) (w : World) (h : Rdr w r s l) (hz : s.size ≤ 1000000000) :
    Calls Try.prog 47 #[.pointer (some ⟨r, 0, none⟩)] w (RdOut unitV r s w (endP l)) := by
  have h1 := expect_any r s l 13 w h hz
  unfold endP
  cases hc : expP 13 l with
  | er c =>
    have HP := Lib.hid (rd_er h1 hc)
    clear h1 hc h
    go_enter Try.func47, Try.ntmps47
    go_wp2_with fail
    refine HP.out.mono ?_
    rintro e w1 ⟨rfl, hk, q, hr⟩
    exact ⟨rfl, hk, rfl, q, hr⟩
  | ok a t =>
    have HP := Lib.hid (rd_ok h1 hc _ rfl)
    clear h1 hc h
    go_enter Try.func47, Try.ntmps47
    go_wp2_with fail
    refine HP.out.mono ?_
    rintro e w1 ⟨rfl, hk, hr⟩
    have h2 := expect_any r s t 10 w1 hr hz
    have HK := Lib.hid hk
    clear hk hr HP
    go_wp2_with fail
    cases hc2 : expP 10 t with
    | er c =>
      refine (rd_er h2 hc2).mono ?_
      rintro e w2 ⟨rfl, hk2, q, hr2⟩
      exact ⟨rfl, HK.out.and hk2, rfl, q, hr2⟩
    | ok b u =>
      refine (rd_ok h2 hc2 _ rfl).mono ?_
      rintro e w2 ⟨rfl, hk2, hr2⟩
      go_wp2_with fail
      go_end0
      refine ⟨HK.out.and hk2, ?_⟩
      rw [hc2]
      exact ⟨rfl, hr2⟩
end Go.Proofs.Ytdbboooblbdihaa
