/- Layer 10's known, walked. -/
import Derived.Test.YtccjbmmhdbainaaFltF
import Derived.Test.YtccjbmmhdbainaaFltO
namespace Go.Proofs.Ytccjbmmhdbainaa
open Go.RowKit Sets
set_option linter.unusedVariables false
set_option linter.unusedSectionVars false
set_option linter.unusedSimpArgs false
set_option maxRecDepth 100000

theorem parse_some {s : ByteArray} {t : Tm} (h : parseB s = some t) (w : World) (hs : s.size ≤ 100000) : Calls Try.prog 22 #[.string s] w fun e w' => ∃ u, e = .returned (.tuple #[tmV t u, .int .i64 0]) ∧ Vls w' u t.vals ∧ Ext w w' := by
  refine (parse_any s w hs).mono ?_
  rintro e w' ⟨hp | ⟨t', u, ht, rfl, hu⟩, hx⟩
  · rw [h] at hp
    cases hp.1
  · rw [h] at ht
    injection ht with ht
    subst ht
    exact ⟨u, rfl, hu, hx⟩
theorem parse_none {s : ByteArray} (h : parseB s = none) (w : World) (hs : s.size ≤ 100000) : Calls Try.prog 22 #[.string s] w fun e w' => e = .returned (.tuple #[.agg #[.string ⟨#[]⟩, .bool false, .slice none 0 0], .int .i64 4]) ∧ Ext w w' := by
  refine (parse_any s w hs).mono ?_
  rintro e w' ⟨⟨hp, rfl⟩ | ⟨t', u, ht, rfl, hu⟩, hx⟩
  · exact ⟨rfl, hx⟩
  · rw [h] at ht
    cases ht
theorem all_some {v : Value} {l : List ByteArray} {ts : List Tm} (h : allB l = some ts) (w : World) (hv : Txt w v l) (hl : l.length ≤ 1000) (hs : ∀ s ∈ l, s.size ≤ 100000) : Calls Try.prog 24 #[v] w fun e w' => ∃ u, e = .returned (.tuple #[u, .int .i64 0]) ∧ Tms w' u ts ∧ Ext w w' := by
  refine (all_any v l w hv hl hs).mono ?_
  rintro e w' ⟨hp | ⟨t', u, ht, rfl, hu⟩, hx⟩
  · rw [h] at hp
    cases hp.1
  · rw [h] at ht
    injection ht with ht
    subst ht
    exact ⟨u, rfl, hu, hx⟩
theorem all_none {v : Value} {l : List ByteArray} (h : allB l = none) (w : World) (hv : Txt w v l) (hl : l.length ≤ 1000) (hs : ∀ s ∈ l, s.size ≤ 100000) : Calls Try.prog 24 #[v] w fun e w' => e = .returned (.tuple #[.slice none 0 0, .int .i64 4]) ∧ Ext w w' := by
  refine (all_any v l w hv hl hs).mono ?_
  rintro e w' ⟨⟨hp, rfl⟩ | ⟨t', u, ht, rfl, hu⟩, hx⟩
  · exact ⟨rfl, hx⟩
  · rw [h] at ht
    cases ht
def sRoom : ByteArray := ⟨#[114, 111, 111, 109]⟩
def sKind : ByteArray := ⟨#[107, 105, 110, 100]⟩
def s1 : ByteArray := ⟨#[49]⟩
def s2 : ByteArray := ⟨#[50]⟩
def sA : ByteArray := ⟨#[97]⟩
def sB : ByteArray := ⟨#[98]⟩
def sC : ByteArray := ⟨#[99]⟩
def tRoom : Tm := ⟨sRoom, false, [s1, s2]⟩
def tNo : Tm := ⟨sKind, true, []⟩
def tYes : Tm := ⟨sKind, false, []⟩
def lA : List Lab := [(sRoom, s1)]
def lB : List Lab := [(sRoom, s2), (sKind, ⟨#[116]⟩)]
def nA : Mod := [(sA, lA)]
def nB : Mod := [(sA, lA), (sB, [(sKind, ⟨#[116]⟩), (sRoom, s2)])]
def nC : Mod := [(sA, lA), (sB, [(sKind, ⟨#[116]⟩), (sRoom, s2)]), (sC, [])]
theorem m1 : putM [] sA lA = nA := by decide +kernel
theorem m2 : putM nA sB lB = nB := by decide +kernel
theorem m3 : putM nB sC [] = nC := by decide +kernel
theorem m4 : (lkM nC sA).getD [] = lA := by decide +kernel
theorem p1 : parseB ⟨#[114, 111, 111, 109, 61, 40, 49, 44, 50, 41]⟩ = some tRoom := by kernel_rfl
theorem p2 : parseB ⟨#[107, 105, 110, 100, 33, 61]⟩ = some tNo := by kernel_rfl
theorem p3 : parseB ⟨#[114, 111, 111, 109]⟩ = none := by kernel_rfl
theorem a1 : allB [⟨#[114, 111, 111, 109, 61, 40, 49, 44, 50, 41]⟩, ⟨#[107, 105, 110, 100, 61]⟩] = some [tRoom, tYes] := by kernel_rfl
theorem a2 : allB [⟨#[107, 105, 110, 100, 61]⟩] = none := by kernel_rfl
theorem f1 : foundBy nC [tRoom, tYes] = [sA] := by decide +kernel
theorem f2 : foundBy nC [tNo] = [sB] := by decide +kernel
theorem f3 : foundBy nC [] = [sA, sB, sC] := by decide +kernel
theorem h1 : showL tRoom = [114, 111, 111, 109, 61, 40, 49, 44, 50, 41] := by decide +kernel
theorem q1 : matchT tRoom lA = true := by decide +kernel
theorem q2 : matchT tRoom [] = false := by decide +kernel
theorem q3 : rightT tRoom = true := by decide +kernel
theorem q4 : wordB sA = true := by decide +kernel
theorem q5 : wordB ⟨#[97, 61]⟩ = false := by decide +kernel
theorem q6 : sameT tRoom tRoom = true := by decide +kernel
theorem q7 : sameT tRoom tNo = false := by decide +kernel
theorem okRoom : TmOk tRoom := ⟨by unfold okS; decide, by intro v hv; simp [tRoom] at hv; rcases hv with rfl | rfl <;> (unfold okS; decide)⟩
theorem okNo : TmOk tNo := ⟨by unfold okS; decide, by intro v hv; simp [tNo] at hv⟩
theorem okYes : TmOk tYes := ⟨by unfold okS; decide, by intro v hv; simp [tYes] at hv⟩
theorem okLA : ∀ y ∈ lA, okL y := by
  intro y hy
  simp [lA] at hy
  subst hy
  exact ⟨by unfold okS; decide, by unfold okS; decide⟩
theorem okLB : ∀ y ∈ lB, okL y := by
  intro y hy
  simp [lB] at hy
  rcases hy with rfl | rfl <;> exact ⟨by unfold okS; decide, by unfold okS; decide⟩
theorem row_lit (w : World) (cs : Array Value) (t : TypeId) (l : List Lab) (n : Nat) (h : cs.toList = l.flatMap labC) (hm : n ≤ 100) (hn : l.length = n) : Row labC (w.alloc (.cells cs t)) (.slice (some ⟨w.heap.size, 0, none⟩) n n) l :=
  ⟨_, n, n, rfl, hn, Nat.le_refl _, by simp [maxLen]; omega, by rw [← h]; exact ap_new w cs t _ rfl⟩
theorem txt_lit (w : World) (cs : Array Value) (t : TypeId) (l : List ByteArray) (n : Nat) (h : cs.toList = l.map .string) (hm : n ≤ 100) (hn : l.length = n) : Txt (w.alloc (.cells cs t)) (.slice (some ⟨w.heap.size, 0, none⟩) n n) l :=
  ⟨_, n, n, rfl, hn, Nat.le_refl _, by omega, by rw [← h]; exact ap_new w cs t _ rfl⟩
/-- What the law holds. -/
structure Kn (w v : World) (x : Nat) (L : List Nat) (p q : Nat) (u1 u2 ul : Value) : Prop where
  gx : Gx w v x L nC
  bp : v.heap[p]? = some (.cells #[.string sRoom, .bool false, u1] 24 (0, 0))
  bq : v.heap[q]? = some (.cells #[.string sKind, .bool true, u2] 24 (0, 0))
  t1 : Txt v u1 [s1, s2]
  t2 : Txt v u2 []
  tl : Tms v ul [tRoom, tYes]
theorem Kn.later {w v v' : World} {x : Nat} {L : List Nat} {p q : Nat} {u1 u2 ul : Value} (h : Kn w v x L p q u1 u2 ul) (k : Ext v v') : Kn w v' x L p q u1 u2 ul :=
  ⟨h.gx.later k, (Cm.of_ext k).cells _ _ _ _ h.bp, (Cm.of_ext k).cells _ _ _ _ h.bq, h.t1.ext k, h.t2.ext k, h.tl.ext k⟩
theorem Kn.ix {w v : World} {x : Nat} {L : List Nat} {p q : Nat} {u1 u2 ul : Value} (h : Kn w v x L p q u1 u2 ul) : Ix v (.pointer (some ⟨x, 0, none⟩)) nC := .inr ⟨x, L, _, rfl, h.gx.at_⟩

theorem any_merge {P : Program} {md : Region.Mode} {ops : Array Oper} {Q : Exit → Act → World → Prop} {S : World → Prop} {F : World → Nat → Prop} {fuel : Nat} {listed : Array Bool} {act : Nat → Act} {fuel0 : Nat} {l0 : Array Bool} {a0 : Act} {w0 : World}
    (h1 : Hid (∀ v B, F v B → wpAnyH P md ops Q S fuel listed (act B) v) → wpAnyH P md ops Q S fuel0 l0 a0 w0) (h2 : ∀ v B, F v B → wpAnyH P md ops Q S fuel listed (act B) v) : wpAnyH P md ops Q S fuel0 l0 a0 w0 := h1 (Lib.hid h2)
theorem any_at {P : Program} {md : Region.Mode} {ops : Array Oper} {Q : Exit → Act → World → Prop} {S : World → Prop} {fuel : Nat} {l l' : Array Bool} {a : Act} {w : World} (h : l = l') (hh : wpAnyH P md ops Q S fuel l' a w) : wpAnyH P md ops Q S fuel l a w := h ▸ hh
theorem any_merge2 {P : Program} {md : Region.Mode} {ops : Array Oper} {Q : Exit → Act → World → Prop} {S : World → Prop} {F : World → Nat → Value → Prop} {fuel : Nat} {listed : Array Bool} {act : Nat → Value → Act} {fuel0 : Nat} {l0 : Array Bool} {a0 : Act} {w0 : World}
    (h1 : Hid (∀ v B r, F v B r → wpAnyH P md ops Q S fuel listed (act B r) v) → wpAnyH P md ops Q S fuel0 l0 a0 w0) (h2 : ∀ v B r, F v B r → wpAnyH P md ops Q S fuel listed (act B r) v) : wpAnyH P md ops Q S fuel0 l0 a0 w0 := h1 (Lib.hid h2)
theorem any_merge3 {P : Program} {md : Region.Mode} {ops : Array Oper} {Q : Exit → Act → World → Prop} {S : World → Prop} {F : World → Nat → Value → Nat → Prop} {fuel : Nat} {listed : Array Bool} {act : Nat → Value → Nat → Act} {fuel0 : Nat} {l0 : Array Bool} {a0 : Act} {w0 : World}
    (h1 : Hid (∀ v B r C, F v B r C → wpAnyH P md ops Q S fuel listed (act B r C) v) → wpAnyH P md ops Q S fuel0 l0 a0 w0) (h2 : ∀ v B r C, F v B r C → wpAnyH P md ops Q S fuel listed (act B r C) v) : wpAnyH P md ops Q S fuel0 l0 a0 w0 := h1 (Lib.hid h2)
theorem tms_one (w : World) (tt : TypeId) (A : Option Addr) (n c : Nat) (t : Tm) (h : Txt w (.slice A n c) t.vals) : Tms (w.alloc (.cells #[.string t.name, .bool t.not, .slice A n c] tt)) (.slice (some ⟨w.heap.size, 0, none⟩) 1 1) [t] := by
  refine ⟨[⟨t.name, t.not, A, n, c⟩], ⟨_, 1, 1, rfl, rfl, Nat.le_refl _, by simp [maxLen], by exact ap_new w _ tt _ rfl⟩, rfl, ?_⟩
  intro i e m h1 h2
  cases i with
  | zero =>
    simp at h1 h2
    subst h1 h2
    exact ⟨rfl, rfl, h.ext (Ext.alloc _ _)⟩
  | succ j => simp at h1
theorem okTs : ∀ t ∈ [tRoom, tYes], TmOk t ∧ t.vals.length ≤ 1000 := by
  intro t ht
  simp only [List.mem_cons, List.not_mem_nil, or_false] at ht
  rcases ht with rfl | rfl
  · exact ⟨okRoom, by decide⟩
  · exact ⟨okYes, by decide⟩
theorem tms_nil' (w : World) : Tms w (.slice none 0 0) [] := ⟨[], ⟨none, 0, 0, rfl, rfl, by omega, by simp [maxLen], Rd.nil _ _⟩, TmsT.nil w⟩
theorem m4' : (lkM nC ⟨#[97]⟩).getD [] = lA := m4
theorem q4' : wordB ⟨#[97]⟩ = true := q4
theorem okTn : ∀ t ∈ [tNo], TmOk t ∧ t.vals.length ≤ 1000 := by
  intro t ht
  simp only [List.mem_cons, List.not_mem_nil, or_false] at ht
  subst ht
  exact ⟨okNo, by decide⟩
def marks (n m : Nat) : Array Bool := (List.replicate n true ++ List.replicate m false).toArray
set_option maxHeartbeats 8000000 in
theorem known_any (w : World) : Calls Try.prog 10 #[] w fun e w' => e = .returned (.bool true) ∧ Ext w w' := by
  go_enter Try.func10, Try.ntmps10
  go_wp2_with fail
  refine (new_list w).mono ?_
  rintro e v0 ⟨x, L, rfl, hg, hx⟩
  have HG0 : Hid (Gx w v0 x L []) := Lib.hid ⟨hg, hx⟩
  clear hg hx
  go_wp2_with fail
  refine (set_list (HG0.out.at_.ext (Ext.alloc v0 (.cells #[.string ⟨#[114, 111, 111, 109]⟩, .string ⟨#[49]⟩] 69))) ⟨#[97]⟩ _ lA (by unfold okS; decide) (row_lit v0 _ _ lA 1 rfl (by decide) rfl) (by decide) okLA (by decide)).mono ?_
  rintro e v1 ⟨rfl, hi, hkp, hcm⟩
  have HG1 : Hid (Gx w v1 x L nA) := Lib.hid (m1 ▸ (HG0.out.later (Ext.alloc v0 _)).did hi hkp)
  clear hi hkp hcm HG0
  go_wp2_with fail
  refine (set_list (HG1.out.at_.ext (Ext.alloc v1 (.cells #[.string ⟨#[114, 111, 111, 109]⟩, .string ⟨#[50]⟩, .string ⟨#[107, 105, 110, 100]⟩, .string ⟨#[116]⟩] 69))) ⟨#[98]⟩ _ lB (by unfold okS; decide) (row_lit v1 _ _ lB 2 rfl (by decide) rfl) (by decide) okLB (by decide)).mono ?_
  rintro e v2 ⟨rfl, hi, hkp, hcm⟩
  have HG2 : Hid (Gx w v2 x L nB) := Lib.hid (m2 ▸ (HG1.out.later (Ext.alloc v1 _)).did hi hkp)
  clear hi hkp hcm HG1
  go_wp2_with fail
  refine (set_list HG2.out.at_ ⟨#[99]⟩ (.slice none 0 0) [] (by unfold okS; decide) (row_nil _) (by decide) (by simp) (by decide)).mono ?_
  rintro e v3 ⟨rfl, hi, hkp, hcm⟩
  have HG3 : Hid (Gx w v3 x L nC) := Lib.hid (m3 ▸ HG2.out.did hi hkp)
  clear hi hkp hcm HG2
  go_wp2_with fail
  refine (parse_some p1 v3 (by decide)).mono ?_
  rintro e v4 ⟨u1, rfl, hu, hx⟩
  have hp := heap_alloc_new v4 (.cells #[.string sRoom, .bool false, u1] 24 (0, 0))
  have hxa := hx.trans (Ext.alloc v4 (.cells #[.string sRoom, .bool false, u1] 24))
  have hu5 := hu.txt.ext (Ext.alloc v4 (.cells #[.string sRoom, .bool false, u1] 24))
  obtain ⟨A1, z1, z2, rfl, _⟩ := hu.txt
  simp only [tmV, tRoom]
  go_upto_region 8 with fail
  generalize v4.alloc (.cells #[.string sRoom, .bool false, .slice A1 z1 z2] 24) = v5 at hp hxa hu5 ⊢
  generalize v4.heap.size = p at hp ⊢
  have HG5 := Lib.hid (HG3.out.later hxa)
  have HP5 := Lib.hid hp
  have HU5 : Hid (Txt v5 (.slice A1 z1 z2) [s1, s2]) := Lib.hid hu5
  clear hp hxa hu5 hu hx HG3
  go_wp2_with fail
  refine (parse_some p2 v5 (by decide)).mono ?_
  rintro e v6 ⟨u2, rfl, hu, hx⟩
  have hq := heap_alloc_new v6 (.cells #[.string sKind, .bool true, u2] 24 (0, 0))
  have hxa := hx.trans (Ext.alloc v6 (.cells #[.string sKind, .bool true, u2] 24))
  have hu7 := hu.txt.ext (Ext.alloc v6 (.cells #[.string sKind, .bool true, u2] 24))
  have hu0 := hu.txt
  obtain ⟨A2, y1, y2, rfl, hy1, _⟩ := hu0
  obtain rfl : y1 = 0 := by
    have : tNo.vals.length = 0 := rfl
    omega
  simp only [tmV, tNo]
  go_upto_region 9 with fail
  generalize v6.alloc (.cells #[.string sKind, .bool true, .slice A2 0 y2] 24) = v7 at hq hxa hu7 ⊢
  generalize v6.heap.size = q at hq ⊢
  have HG7 := Lib.hid (HG5.out.later hxa)
  have HP7 := Lib.hid ((Cm.of_ext hxa).cells _ _ _ _ HP5.out)
  have HU7 := Lib.hid (HU5.out.ext hxa)
  have HQ7 := Lib.hid hq
  have HV7 : Hid (Txt v7 (.slice A2 0 y2) []) := Lib.hid hu7
  clear hq hxa hu7 hu hx HG5 HP5 HU5
  go_wp2_with fail
  refine (parse_none p3 v7 (by decide)).mono ?_
  rintro e v8 ⟨rfl, hx⟩
  have hxa := hx.trans (Ext.alloc v8 (.cells #[.string ⟨#[]⟩, .bool false, .slice none 0 0] 24))
  go_upto_region 10 with fail
  generalize v8.alloc (.cells #[.string ⟨#[]⟩, .bool false, .slice none 0 0] 24) = v9 at hxa ⊢
  have HX9 := Lib.hid hxa
  clear hx hxa
  go_wp2_with fail
  refine (all_some a1 _ (txt_lit v9 _ _ _ 2 rfl (by decide) rfl) (by decide) (by intro s hs; simp at hs; rcases hs with rfl | rfl <;> decide)).mono ?_
  rintro e v10 ⟨ul, rfl, htl, hx⟩
  have HXA := Lib.hid (HX9.out.trans ((Ext.alloc v9 _).trans hx))
  have HK10 : Hid (Kn w v10 x L p q (.slice A1 z1 z2) (.slice A2 0 y2) ul) := Lib.hid ⟨HG7.out.later HXA.out, (Cm.of_ext HXA.out).cells _ _ _ _ HP7.out, (Cm.of_ext HXA.out).cells _ _ _ _ HQ7.out, HU7.out.ext HXA.out, HV7.out.ext HXA.out, htl⟩
  obtain ⟨es, ⟨A5, n5, c5, rfl, hn5, _⟩, hes⟩ := htl
  obtain rfl : n5 = 2 := by
    have h1 := hes.1
    have : [tRoom, tYes].length = 2 := rfl
    omega
  clear hn5 hes hx HXA HX9 HG7 HP7 HQ7 HU7 HV7
  go_wp2_with fail
  refine (all_none a2 _ (txt_lit v10 _ _ _ 1 rfl (by decide) rfl) (by decide) (by intro s hs; simp at hs; subst hs; decide)).mono ?_
  rintro e v11 ⟨rfl, hx⟩
  have HK11 := Lib.hid (HK10.out.later ((Ext.alloc v10 _).trans hx))
  clear hx HK10
  have HS := Lib.hid (fun (wz : World) (hw : Ext v11 wz) => (And.intro (tm_cells HK11.out.bp hw) (tm_cells HK11.out.bq hw) : (wz.cell? ⟨p, 0, none⟩ = some (.string sRoom) ∧ wz.cell? ⟨p, 1, none⟩ = some (.bool false) ∧ wz.cell? ⟨p, 2, none⟩ = some (.slice A1 z1 z2)) ∧ (wz.cell? ⟨q, 0, none⟩ = some (.string sKind) ∧ wz.cell? ⟨q, 1, none⟩ = some (.bool true) ∧ wz.cell? ⟨q, 2, none⟩ = some (.slice A2 0 y2))))
  have HSH : Hid (∀ s : ByteArray, s.toList = showL tRoom → s = ⟨#[114, 111, 111, 109, 61, 40, 49, 44, 50, 41]⟩) := Lib.hid (fun s h => bytes_ext (by rw [h, h1]; exact (toList_mk [114, 111, 111, 109, 61, 40, 49, 44, 50, 41]).symm))
  go_upto_region 12 with fail
  simp only [List.append]
  refine wp_region_held_drew (S := fun wz => (wz.cell? ⟨p, 0, none⟩ = some (.string sRoom) ∧ wz.cell? ⟨p, 1, none⟩ = some (.bool false) ∧ wz.cell? ⟨p, 2, none⟩ = some (.slice A1 z1 z2)) ∧ (wz.cell? ⟨q, 0, none⟩ = some (.string sKind) ∧ wz.cell? ⟨q, 1, none⟩ = some (.bool true) ∧ wz.cell? ⟨q, 2, none⟩ = some (.slice A2 0 y2))) (by kernel_rfl) (HS.out _ (Ext.drew _)) (fun hHeld => ?_)
  have hxt : Ext v11 v11.drew := Ext.drew _
  generalize v11.drew = v12 at hxt hHeld ⊢
  refine' wpAnyH_take (i := 0) (oi := _) (v := _) ?hi1 ?hs1 ?hf1 ?hr1 ?hQ1 (Or.inl ⟨?hw1, ?hy1⟩) (by assumption) ?hrest1
  case hi1 => simp only [List.getElem?_toArray]; rfl
  case hs1 => kernel_rfl
  case hf1 => kernel_rfl
  case hr1 => kernel_rfl
  case hQ1 => exact fun _ _ _ h => h
  case hw1 => rfl
  case hy1 => intro w hSw; (try dsimp only at hSw); go_simp; try with_reducible rfl
  try simp only [Act.put, List.setIfInBounds_toArray, List.set_cons_zero, List.set_cons_succ]
  refine any_merge (F := fun v B => Ext v11 v ∧ Txt v (.slice (some ⟨B, 0, none⟩) 2 2) [s1, s2]) (fun H => by
    refine wpAnyH_ready (rs := [1, 2]) (by kernel_rfl) (by simp) ?_
    refine' AllReadyH.cons (o := _) ?ho1 (fun K hK => ?hs1) (AllReadyH.cons (o := _) ?ho2 (fun K hK => ?hs2) AllReadyH.nil)
    case ho1 => simp only [List.getElem?_toArray]; rfl
    case ho2 => simp only [List.getElem?_toArray]; rfl
    · go_simp
      refine (plain_any tRoom (.slice A1 z1 z2) _ (HK11.out.later hxt).t1).mono ?_
      rintro e v13 ⟨rfl, hx⟩
      simp only [tmV, tRoom]
      have hx2 := hxt.trans hx
      clear hx
      refine hK.out _ _ ((HS.out _ hx2)) (fun hHeld => ?_)
      clear hK K
      try simp only [Act.put, List.setIfInBounds_toArray, List.set_cons_zero, List.set_cons_succ]
      refine wpAnyH_ready (rs := [2]) (by kernel_rfl) (by simp) ?_
      refine' AllReadyH.cons (o := _) ?ho3 (fun K hK => ?hstep3) AllReadyH.nil
      case ho3 => simp only [List.getElem?_toArray]; rfl
      go_simp
      have htx := txt_lit v13 #[.string ⟨#[49]⟩, .string ⟨#[50]⟩] 9 [s1, s2] 2 rfl (by decide) rfl
      have hx3 := hx2.trans (Ext.alloc v13 (.cells #[.string ⟨#[49]⟩, .string ⟨#[50]⟩] 9))
      refine hK.out _ _ ((HS.out _ hx3)) (fun hHeld => ?_)
      clear hK K
      try simp only [Act.put, List.setIfInBounds_toArray, List.set_cons_zero, List.set_cons_succ]
      generalize v13.heap.size = B at htx ⊢
      refine' wpAnyH_take (i := 3) (oi := _) (v := _) ?hi5 ?hs5 ?hf5 ?hr5 ?hQ5 (Or.inl ⟨?hw5, ?hy5⟩) (by assumption) ?hrest5
      case hi5 => simp only [List.getElem?_toArray]; rfl
      case hs5 => kernel_rfl
      case hf5 => kernel_rfl
      case hr5 => kernel_rfl
      case hQ5 => exact fun _ _ _ h => h
      case hw5 => rfl
      case hy5 => intro w hSw; (try dsimp only at hSw); go_simp; try with_reducible rfl
      try simp only [Act.put, List.setIfInBounds_toArray, List.set_cons_zero, List.set_cons_succ]
      exact any_at (l' := marks 4 96) (by kernel_rfl) (H.out _ B ⟨hx3, htx⟩)
    · go_simp
      have htx := txt_lit v12 #[.string ⟨#[49]⟩, .string ⟨#[50]⟩] 9 [s1, s2] 2 rfl (by decide) rfl
      have hx3 := hxt.trans (Ext.alloc v12 (.cells #[.string ⟨#[49]⟩, .string ⟨#[50]⟩] 9))
      refine hK.out _ _ ((HS.out _ hx3)) (fun hHeld => ?_)
      clear hK K
      try simp only [Act.put, List.setIfInBounds_toArray, List.set_cons_zero, List.set_cons_succ]
      generalize v12.alloc (.cells #[.string ⟨#[49]⟩, .string ⟨#[50]⟩] 9) = v13 at htx hx3 hHeld ⊢
      generalize v12.heap.size = B at htx ⊢
      refine' wpAnyH_take (i := 3) (oi := _) (v := _) ?hi7 ?hs7 ?hf7 ?hr7 ?hQ7 (Or.inl ⟨?hw7, ?hy7⟩) (by assumption) ?hrest7
      case hi7 => simp only [List.getElem?_toArray]; rfl
      case hs7 => kernel_rfl
      case hf7 => kernel_rfl
      case hr7 => kernel_rfl
      case hQ7 => exact fun _ _ _ h => h
      case hw7 => rfl
      case hy7 => intro w hSw; (try dsimp only at hSw); go_simp; try with_reducible rfl
      try simp only [Act.put, List.setIfInBounds_toArray, List.set_cons_zero, List.set_cons_succ]
      refine wpAnyH_ready (rs := [1]) (by kernel_rfl) (by simp) ?_
      refine' AllReadyH.cons (o := _) ?ho8 (fun K hK => ?hstep8) AllReadyH.nil
      case ho8 => simp only [List.getElem?_toArray]; rfl
      go_simp
      refine (plain_any tRoom (.slice A1 z1 z2) _ (HK11.out.later hx3).t1).mono ?_
      rintro e v14 ⟨rfl, hx⟩
      simp only [tmV, tRoom]
      have hx4 := hx3.trans hx
      have htx4 := htx.ext hx
      refine hK.out _ _ ((HS.out _ hx4)) (fun hHeld => ?_)
      clear hK K
      try simp only [Act.put, List.setIfInBounds_toArray, List.set_cons_zero, List.set_cons_succ]
      exact any_at (l' := marks 4 96) (by kernel_rfl) (H.out _ B ⟨hx4, htx4⟩)) ?g2
  case g2 =>
    clear hxt hHeld
    rintro v13 B ⟨hxt, htx⟩
    have hHeld := HS.out _ hxt
    as_aux_lemma =>
      refine wpAnyH_ready (rs := [4]) (by kernel_rfl) (by simp) ?_
      refine' AllReadyH.cons (o := _) ?ho10 (fun K hK => ?hstep10) AllReadyH.nil
      case ho10 => simp only [List.getElem?_toArray]; rfl
      go_simp
      refine (rsame_any tRoom tRoom (.slice A1 z1 z2) _ _ (HK11.out.later hxt).t1 htx).mono ?_
      rintro e v14 ⟨rfl, hx⟩
      rw [q6]
      have hx2 := hxt.trans hx
      clear hxt htx hx
      refine hK.out _ _ ((HS.out _ hx2)) (fun hHeld => ?_)
      clear hK K
      try simp only [Act.put, List.setIfInBounds_toArray, List.set_cons_zero, List.set_cons_succ]
      clear hHeld
      have hxt := hx2
      have hHeld := HS.out _ hxt
      refine' wpAnyH_take (i := 5) (oi := _) (v := _) ?hi12 ?hs12 ?hf12 ?hr12 ?hQ12 (Or.inl ⟨?hw12, ?hy12⟩) (by assumption) ?hrest12
      case hi12 => simp only [List.getElem?_toArray]; rfl
      case hs12 => kernel_rfl
      case hf12 => kernel_rfl
      case hr12 => kernel_rfl
      case hQ12 => exact fun _ _ _ h => h
      case hw12 => rfl
      case hy12 => intro w hSw; (try dsimp only at hSw); go_simp; try with_reducible rfl
      try simp only [Act.put, List.setIfInBounds_toArray, List.set_cons_zero, List.set_cons_succ]
      refine' wpAnyH_take (i := 6) (oi := _) (v := _) ?hi13 ?hs13 ?hf13 ?hr13 ?hQ13 (Or.inl ⟨?hw13, ?hy13⟩) (by assumption) ?hrest13
      case hi13 => simp only [List.getElem?_toArray]; rfl
      case hs13 => kernel_rfl
      case hf13 => kernel_rfl
      case hr13 => kernel_rfl
      case hQ13 => exact fun _ _ _ h => h
      case hw13 => rfl
      case hy13 => intro w hSw; (try dsimp only at hSw); go_simp; try with_reducible rfl
      try simp only [Act.put, List.setIfInBounds_toArray, List.set_cons_zero, List.set_cons_succ]
      refine' wpAnyH_take (i := 7) (oi := _) (v := _) ?hi14 ?hs14 ?hf14 ?hr14 ?hQ14 (Or.inl ⟨?hw14, ?hy14⟩) (by assumption) ?hrest14
      case hi14 => simp only [List.getElem?_toArray]; rfl
      case hs14 => kernel_rfl
      case hf14 => kernel_rfl
      case hr14 => kernel_rfl
      case hQ14 => exact fun _ _ _ h => h
      case hw14 => rfl
      case hy14 => intro w hSw; (try dsimp only at hSw); go_simp; try with_reducible rfl
      try simp only [Act.put, List.setIfInBounds_toArray, List.set_cons_zero, List.set_cons_succ]
      refine' wpAnyH_take (i := 8) (oi := _) (v := _) ?hi15 ?hs15 ?hf15 ?hr15 ?hQ15 (Or.inl ⟨?hw15, ?hy15⟩) (by assumption) ?hrest15
      case hi15 => simp only [List.getElem?_toArray]; rfl
      case hs15 => kernel_rfl
      case hf15 => kernel_rfl
      case hr15 => kernel_rfl
      case hQ15 => exact fun _ _ _ h => h
      case hw15 => rfl
      case hy15 => intro w hSw; (try dsimp only at hSw); go_simp; try with_reducible rfl
      try simp only [Act.put, List.setIfInBounds_toArray, List.set_cons_zero, List.set_cons_succ]
      refine' wpAnyH_take (i := 9) (oi := _) (v := _) ?hi16 ?hs16 ?hf16 ?hr16 ?hQ16 (Or.inl ⟨?hw16, ?hy16⟩) (by assumption) ?hrest16
      case hi16 => simp only [List.getElem?_toArray]; rfl
      case hs16 => kernel_rfl
      case hf16 => kernel_rfl
      case hr16 => kernel_rfl
      case hQ16 => exact fun _ _ _ h => h
      case hw16 => rfl
      case hy16 => intro w hSw; (try dsimp only at hSw); go_simp; try with_reducible rfl
      try simp only [Act.put, List.setIfInBounds_toArray, List.set_cons_zero, List.set_cons_succ]
      refine' wpAnyH_take (i := 10) (oi := _) (v := _) ?hi17 ?hs17 ?hf17 ?hr17 ?hQ17 (Or.inl ⟨?hw17, ?hy17⟩) (by assumption) ?hrest17
      case hi17 => simp only [List.getElem?_toArray]; rfl
      case hs17 => kernel_rfl
      case hf17 => kernel_rfl
      case hr17 => kernel_rfl
      case hQ17 => exact fun _ _ _ h => h
      case hw17 => rfl
      case hy17 => intro w hSw; (try dsimp only at hSw); go_simp; try with_reducible rfl
      try simp only [Act.put, List.setIfInBounds_toArray, List.set_cons_zero, List.set_cons_succ]
      refine' wpAnyH_take (i := 11) (oi := _) (v := _) ?hi18 ?hs18 ?hf18 ?hr18 ?hQ18 (Or.inl ⟨?hw18, ?hy18⟩) (by assumption) ?hrest18
      case hi18 => simp only [List.getElem?_toArray]; rfl
      case hs18 => kernel_rfl
      case hf18 => kernel_rfl
      case hr18 => kernel_rfl
      case hQ18 => exact fun _ _ _ h => h
      case hw18 => rfl
      case hy18 => intro w hSw; (try dsimp only at hSw); go_simp; try with_reducible rfl
      try simp only [Act.put, List.setIfInBounds_toArray, List.set_cons_zero, List.set_cons_succ]
      refine' wpAnyH_take (i := 12) (oi := _) (v := _) ?hi19 ?hs19 ?hf19 ?hr19 ?hQ19 (Or.inl ⟨?hw19, ?hy19⟩) (by assumption) ?hrest19
      case hi19 => simp only [List.getElem?_toArray]; rfl
      case hs19 => kernel_rfl
      case hf19 => kernel_rfl
      case hr19 => kernel_rfl
      case hQ19 => exact fun _ _ _ h => h
      case hw19 => rfl
      case hy19 => intro w hSw; (try dsimp only at hSw); go_simp; try with_reducible rfl
      try simp only [Act.put, List.setIfInBounds_toArray, List.set_cons_zero, List.set_cons_succ]
      refine' wpAnyH_take (i := 13) (oi := _) (v := _) ?hi20 ?hs20 ?hf20 ?hr20 ?hQ20 (Or.inl ⟨?hw20, ?hy20⟩) (by assumption) ?hrest20
      case hi20 => simp only [List.getElem?_toArray]; rfl
      case hs20 => kernel_rfl
      case hf20 => kernel_rfl
      case hr20 => kernel_rfl
      case hQ20 => exact fun _ _ _ h => h
      case hw20 => rfl
      case hy20 => intro w hSw; (try dsimp only at hSw); go_simp; try with_reducible rfl
      try simp only [Act.put, List.setIfInBounds_toArray, List.set_cons_zero, List.set_cons_succ]
      refine' wpAnyH_take (i := 14) (oi := _) (v := _) ?hi21 ?hs21 ?hf21 ?hr21 ?hQ21 (Or.inl ⟨?hw21, ?hy21⟩) (by assumption) ?hrest21
      case hi21 => simp only [List.getElem?_toArray]; rfl
      case hs21 => kernel_rfl
      case hf21 => kernel_rfl
      case hr21 => kernel_rfl
      case hQ21 => exact fun _ _ _ h => h
      case hw21 => rfl
      case hy21 => intro w hSw; (try dsimp only at hSw); go_simp; try with_reducible rfl
      try simp only [Act.put, List.setIfInBounds_toArray, List.set_cons_zero, List.set_cons_succ]
      refine' wpAnyH_take (i := 15) (oi := _) (v := _) ?hi22 ?hs22 ?hf22 ?hr22 ?hQ22 (Or.inl ⟨?hw22, ?hy22⟩) (by assumption) ?hrest22
      case hi22 => simp only [List.getElem?_toArray]; rfl
      case hs22 => kernel_rfl
      case hf22 => kernel_rfl
      case hr22 => kernel_rfl
      case hQ22 => exact fun _ _ _ h => h
      case hw22 => rfl
      case hy22 => intro w hSw; (try dsimp only at hSw); go_simp; try with_reducible rfl
      try simp only [Act.put, List.setIfInBounds_toArray, List.set_cons_zero, List.set_cons_succ]
      refine' wpAnyH_take (i := 16) (oi := _) (v := _) ?hi23 ?hs23 ?hf23 ?hr23 ?hQ23 (Or.inl ⟨?hw23, ?hy23⟩) (by assumption) ?hrest23
      case hi23 => simp only [List.getElem?_toArray]; rfl
      case hs23 => kernel_rfl
      case hf23 => kernel_rfl
      case hr23 => kernel_rfl
      case hQ23 => exact fun _ _ _ h => h
      case hw23 => rfl
      case hy23 => intro w hSw; (try dsimp only at hSw); go_simp; try with_reducible rfl
      try simp only [Act.put, List.setIfInBounds_toArray, List.set_cons_zero, List.set_cons_succ]
      refine' wpAnyH_take (i := 17) (oi := _) (v := _) ?hi24 ?hs24 ?hf24 ?hr24 ?hQ24 (Or.inl ⟨?hw24, ?hy24⟩) (by assumption) ?hrest24
      case hi24 => simp only [List.getElem?_toArray]; rfl
      case hs24 => kernel_rfl
      case hf24 => kernel_rfl
      case hr24 => kernel_rfl
      case hQ24 => exact fun _ _ _ h => h
      case hw24 => rfl
      case hy24 => intro w hSw; (try dsimp only at hSw); go_simp; try with_reducible rfl
      try simp only [Act.put, List.setIfInBounds_toArray, List.set_cons_zero, List.set_cons_succ]
      refine' wpAnyH_take (i := 18) (oi := _) (v := _) ?hi25 ?hs25 ?hf25 ?hr25 ?hQ25 (Or.inl ⟨?hw25, ?hy25⟩) (by assumption) ?hrest25
      case hi25 => simp only [List.getElem?_toArray]; rfl
      case hs25 => kernel_rfl
      case hf25 => kernel_rfl
      case hr25 => kernel_rfl
      case hQ25 => exact fun _ _ _ h => h
      case hw25 => rfl
      case hy25 => intro w hSw; (try dsimp only at hSw); go_simp; try with_reducible rfl
      try simp only [Act.put, List.setIfInBounds_toArray, List.set_cons_zero, List.set_cons_succ]
      refine' wpAnyH_take (i := 19) (oi := _) (v := _) ?hi26 ?hs26 ?hf26 ?hr26 ?hQ26 (Or.inl ⟨?hw26, ?hy26⟩) (by assumption) ?hrest26
      case hi26 => simp only [List.getElem?_toArray]; rfl
      case hs26 => kernel_rfl
      case hf26 => kernel_rfl
      case hr26 => kernel_rfl
      case hQ26 => exact fun _ _ _ h => h
      case hw26 => rfl
      case hy26 => intro w hSw; (try dsimp only at hSw); go_simp; try with_reducible rfl
      try simp only [Act.put, List.setIfInBounds_toArray, List.set_cons_zero, List.set_cons_succ]
      refine' wpAnyH_take (i := 20) (oi := _) (v := _) ?hi27 ?hs27 ?hf27 ?hr27 ?hQ27 (Or.inl ⟨?hw27, ?hy27⟩) (by assumption) ?hrest27
      case hi27 => simp only [List.getElem?_toArray]; rfl
      case hs27 => kernel_rfl
      case hf27 => kernel_rfl
      case hr27 => kernel_rfl
      case hQ27 => exact fun _ _ _ h => h
      case hw27 => rfl
      case hy27 => intro w hSw; (try dsimp only at hSw); go_simp; try with_reducible rfl
      try simp only [Act.put, List.setIfInBounds_toArray, List.set_cons_zero, List.set_cons_succ]
      refine' wpAnyH_take (i := 21) (oi := _) (v := _) ?hi28 ?hs28 ?hf28 ?hr28 ?hQ28 (Or.inl ⟨?hw28, ?hy28⟩) (by assumption) ?hrest28
      case hi28 => simp only [List.getElem?_toArray]; rfl
      case hs28 => kernel_rfl
      case hf28 => kernel_rfl
      case hr28 => kernel_rfl
      case hQ28 => exact fun _ _ _ h => h
      case hw28 => rfl
      case hy28 => intro w hSw; (try dsimp only at hSw); go_simp; try with_reducible rfl
      try simp only [Act.put, List.setIfInBounds_toArray, List.set_cons_zero, List.set_cons_succ]
      refine' wpAnyH_take (i := 22) (oi := _) (v := _) ?hi29 ?hs29 ?hf29 ?hr29 ?hQ29 (Or.inl ⟨?hw29, ?hy29⟩) (by assumption) ?hrest29
      case hi29 => simp only [List.getElem?_toArray]; rfl
      case hs29 => kernel_rfl
      case hf29 => kernel_rfl
      case hr29 => kernel_rfl
      case hQ29 => exact fun _ _ _ h => h
      case hw29 => rfl
      case hy29 => intro w hSw; (try dsimp only at hSw); go_simp; try with_reducible rfl
      try simp only [Act.put, List.setIfInBounds_toArray, List.set_cons_zero, List.set_cons_succ]
      refine' wpAnyH_take (i := 23) (oi := _) (v := _) ?hi30 ?hs30 ?hf30 ?hr30 ?hQ30 (Or.inl ⟨?hw30, ?hy30⟩) (by assumption) ?hrest30
      case hi30 => simp only [List.getElem?_toArray]; rfl
      case hs30 => kernel_rfl
      case hf30 => kernel_rfl
      case hr30 => kernel_rfl
      case hQ30 => exact fun _ _ _ h => h
      case hw30 => rfl
      case hy30 => intro w hSw; (try dsimp only at hSw); go_simp; try with_reducible rfl
      try simp only [Act.put, List.setIfInBounds_toArray, List.set_cons_zero, List.set_cons_succ]
      refine' wpAnyH_take (i := 24) (oi := _) (v := _) ?hi31 ?hs31 ?hf31 ?hr31 ?hQ31 (Or.inl ⟨?hw31, ?hy31⟩) (by assumption) ?hrest31
      case hi31 => simp only [List.getElem?_toArray]; rfl
      case hs31 => kernel_rfl
      case hf31 => kernel_rfl
      case hr31 => kernel_rfl
      case hQ31 => exact fun _ _ _ h => h
      case hw31 => rfl
      case hy31 => intro w hSw; (try dsimp only at hSw); go_simp; try with_reducible rfl
      try simp only [Act.put, List.setIfInBounds_toArray, List.set_cons_zero, List.set_cons_succ]
      refine' wpAnyH_take (i := 25) (oi := _) (v := _) ?hi32 ?hs32 ?hf32 ?hr32 ?hQ32 (Or.inl ⟨?hw32, ?hy32⟩) (by assumption) ?hrest32
      case hi32 => simp only [List.getElem?_toArray]; rfl
      case hs32 => kernel_rfl
      case hf32 => kernel_rfl
      case hr32 => kernel_rfl
      case hQ32 => exact fun _ _ _ h => h
      case hw32 => rfl
      case hy32 => intro w hSw; (try dsimp only at hSw); go_simp; try with_reducible rfl
      try simp only [Act.put, List.setIfInBounds_toArray, List.set_cons_zero, List.set_cons_succ]
      refine' wpAnyH_take (i := 26) (oi := _) (v := _) ?hi33 ?hs33 ?hf33 ?hr33 ?hQ33 (Or.inl ⟨?hw33, ?hy33⟩) (by assumption) ?hrest33
      case hi33 => simp only [List.getElem?_toArray]; rfl
      case hs33 => kernel_rfl
      case hf33 => kernel_rfl
      case hr33 => kernel_rfl
      case hQ33 => exact fun _ _ _ h => h
      case hw33 => rfl
      case hy33 => intro w hSw; (try dsimp only at hSw); go_simp; try with_reducible rfl
      try simp only [Act.put, List.setIfInBounds_toArray, List.set_cons_zero, List.set_cons_succ]
      refine' wpAnyH_take (i := 27) (oi := _) (v := _) ?hi34 ?hs34 ?hf34 ?hr34 ?hQ34 (Or.inl ⟨?hw34, ?hy34⟩) (by assumption) ?hrest34
      case hi34 => simp only [List.getElem?_toArray]; rfl
      case hs34 => kernel_rfl
      case hf34 => kernel_rfl
      case hr34 => kernel_rfl
      case hQ34 => exact fun _ _ _ h => h
      case hw34 => rfl
      case hy34 => intro w hSw; (try dsimp only at hSw); go_simp; try with_reducible rfl
      try simp only [Act.put, List.setIfInBounds_toArray, List.set_cons_zero, List.set_cons_succ]
      refine' wpAnyH_take (i := 28) (oi := _) (v := _) ?hi35 ?hs35 ?hf35 ?hr35 ?hQ35 (Or.inl ⟨?hw35, ?hy35⟩) (by assumption) ?hrest35
      case hi35 => simp only [List.getElem?_toArray]; rfl
      case hs35 => kernel_rfl
      case hf35 => kernel_rfl
      case hr35 => kernel_rfl
      case hQ35 => exact fun _ _ _ h => h
      case hw35 => rfl
      case hy35 => intro w hSw; (try dsimp only at hSw); go_simp; try with_reducible rfl
      try simp only [Act.put, List.setIfInBounds_toArray, List.set_cons_zero, List.set_cons_succ]
      refine' wpAnyH_take (i := 29) (oi := _) (v := _) ?hi36 ?hs36 ?hf36 ?hr36 ?hQ36 (Or.inl ⟨?hw36, ?hy36⟩) (by assumption) ?hrest36
      case hi36 => simp only [List.getElem?_toArray]; rfl
      case hs36 => kernel_rfl
      case hf36 => kernel_rfl
      case hr36 => kernel_rfl
      case hQ36 => exact fun _ _ _ h => h
      case hw36 => rfl
      case hy36 => intro w hSw; (try dsimp only at hSw); go_simp; try with_reducible rfl
      try simp only [Act.put, List.setIfInBounds_toArray, List.set_cons_zero, List.set_cons_succ]
      refine' wpAnyH_take (i := 30) (oi := _) (v := _) ?hi37 ?hs37 ?hf37 ?hr37 ?hQ37 (Or.inl ⟨?hw37, ?hy37⟩) (by assumption) ?hrest37
      case hi37 => simp only [List.getElem?_toArray]; rfl
      case hs37 => kernel_rfl
      case hf37 => kernel_rfl
      case hr37 => kernel_rfl
      case hQ37 => exact fun _ _ _ h => h
      case hw37 => rfl
      case hy37 => intro w hSw; (try dsimp only at hSw); go_simp; try with_reducible rfl
      try simp only [Act.put, List.setIfInBounds_toArray, List.set_cons_zero, List.set_cons_succ]
      refine' wpAnyH_take (i := 31) (oi := _) (v := _) ?hi38 ?hs38 ?hf38 ?hr38 ?hQ38 (Or.inl ⟨?hw38, ?hy38⟩) (by assumption) ?hrest38
      case hi38 => simp only [List.getElem?_toArray]; rfl
      case hs38 => kernel_rfl
      case hf38 => kernel_rfl
      case hr38 => kernel_rfl
      case hQ38 => exact fun _ _ _ h => h
      case hw38 => rfl
      case hy38 => intro w hSw; (try dsimp only at hSw); go_simp; try with_reducible rfl
      try simp only [Act.put, List.setIfInBounds_toArray, List.set_cons_zero, List.set_cons_succ]
      refine' wpAnyH_take (i := 32) (oi := _) (v := _) ?hi39 ?hs39 ?hf39 ?hr39 ?hQ39 (Or.inl ⟨?hw39, ?hy39⟩) (by assumption) ?hrest39
      case hi39 => simp only [List.getElem?_toArray]; rfl
      case hs39 => kernel_rfl
      case hf39 => kernel_rfl
      case hr39 => kernel_rfl
      case hQ39 => exact fun _ _ _ h => h
      case hw39 => rfl
      case hy39 => intro w hSw; (try dsimp only at hSw); go_simp; try with_reducible rfl
      try simp only [Act.put, List.setIfInBounds_toArray, List.set_cons_zero, List.set_cons_succ]
      refine' wpAnyH_take (i := 33) (oi := _) (v := _) ?hi40 ?hs40 ?hf40 ?hr40 ?hQ40 (Or.inl ⟨?hw40, ?hy40⟩) (by assumption) ?hrest40
      case hi40 => simp only [List.getElem?_toArray]; rfl
      case hs40 => kernel_rfl
      case hf40 => kernel_rfl
      case hr40 => kernel_rfl
      case hQ40 => exact fun _ _ _ h => h
      case hw40 => rfl
      case hy40 => intro w hSw; (try dsimp only at hSw); go_simp; try with_reducible rfl
      try simp only [Act.put, List.setIfInBounds_toArray, List.set_cons_zero, List.set_cons_succ]
      refine' wpAnyH_take (i := 34) (oi := _) (v := _) ?hi41 ?hs41 ?hf41 ?hr41 ?hQ41 (Or.inl ⟨?hw41, ?hy41⟩) (by assumption) ?hrest41
      case hi41 => simp only [List.getElem?_toArray]; rfl
      case hs41 => kernel_rfl
      case hf41 => kernel_rfl
      case hr41 => kernel_rfl
      case hQ41 => exact fun _ _ _ h => h
      case hw41 => rfl
      case hy41 => intro w hSw; (try dsimp only at hSw); go_simp; try with_reducible rfl
      try simp only [Act.put, List.setIfInBounds_toArray, List.set_cons_zero, List.set_cons_succ]
      refine' wpAnyH_take (i := 35) (oi := _) (v := _) ?hi42 ?hs42 ?hf42 ?hr42 ?hQ42 (Or.inl ⟨?hw42, ?hy42⟩) (by assumption) ?hrest42
      case hi42 => simp only [List.getElem?_toArray]; rfl
      case hs42 => kernel_rfl
      case hf42 => kernel_rfl
      case hr42 => kernel_rfl
      case hQ42 => exact fun _ _ _ h => h
      case hw42 => rfl
      case hy42 => intro w hSw; (try dsimp only at hSw); go_simp; try with_reducible rfl
      try simp only [Act.put, List.setIfInBounds_toArray, List.set_cons_zero, List.set_cons_succ]
      refine' wpAnyH_take (i := 36) (oi := _) (v := _) ?hi43 ?hs43 ?hf43 ?hr43 ?hQ43 (Or.inl ⟨?hw43, ?hy43⟩) (by assumption) ?hrest43
      case hi43 => simp only [List.getElem?_toArray]; rfl
      case hs43 => kernel_rfl
      case hf43 => kernel_rfl
      case hr43 => kernel_rfl
      case hQ43 => exact fun _ _ _ h => h
      case hw43 => rfl
      case hy43 => intro w hSw; (try dsimp only at hSw); go_simp; try with_reducible rfl
      try simp only [Act.put, List.setIfInBounds_toArray, List.set_cons_zero, List.set_cons_succ]
      refine' wpAnyH_take (i := 37) (oi := _) (v := _) ?hi44 ?hs44 ?hf44 ?hr44 ?hQ44 (Or.inl ⟨?hw44, ?hy44⟩) (by assumption) ?hrest44
      case hi44 => simp only [List.getElem?_toArray]; rfl
      case hs44 => kernel_rfl
      case hf44 => kernel_rfl
      case hr44 => kernel_rfl
      case hQ44 => exact fun _ _ _ h => h
      case hw44 => rfl
      case hy44 => intro w hSw; (try dsimp only at hSw); go_simp; try with_reducible rfl
      try simp only [Act.put, List.setIfInBounds_toArray, List.set_cons_zero, List.set_cons_succ]
      refine' wpAnyH_take (i := 38) (oi := _) (v := _) ?hi45 ?hs45 ?hf45 ?hr45 ?hQ45 (Or.inl ⟨?hw45, ?hy45⟩) (by assumption) ?hrest45
      case hi45 => simp only [List.getElem?_toArray]; rfl
      case hs45 => kernel_rfl
      case hf45 => kernel_rfl
      case hr45 => kernel_rfl
      case hQ45 => exact fun _ _ _ h => h
      case hw45 => rfl
      case hy45 => intro w hSw; (try dsimp only at hSw); go_simp; try with_reducible rfl
      try simp only [Act.put, List.setIfInBounds_toArray, List.set_cons_zero, List.set_cons_succ]
      refine' wpAnyH_take (i := 39) (oi := _) (v := _) ?hi46 ?hs46 ?hf46 ?hr46 ?hQ46 (Or.inl ⟨?hw46, ?hy46⟩) (by assumption) ?hrest46
      case hi46 => simp only [List.getElem?_toArray]; rfl
      case hs46 => kernel_rfl
      case hf46 => kernel_rfl
      case hr46 => kernel_rfl
      case hQ46 => exact fun _ _ _ h => h
      case hw46 => rfl
      case hy46 => intro w hSw; (try dsimp only at hSw); go_simp; try with_reducible rfl
      try simp only [Act.put, List.setIfInBounds_toArray, List.set_cons_zero, List.set_cons_succ]
      refine' wpAnyH_take (i := 40) (oi := _) (v := _) ?hi47 ?hs47 ?hf47 ?hr47 ?hQ47 (Or.inl ⟨?hw47, ?hy47⟩) (by assumption) ?hrest47
      case hi47 => simp only [List.getElem?_toArray]; rfl
      case hs47 => kernel_rfl
      case hf47 => kernel_rfl
      case hr47 => kernel_rfl
      case hQ47 => exact fun _ _ _ h => h
      case hw47 => rfl
      case hy47 => intro w hSw; (try dsimp only at hSw); go_simp; try with_reducible rfl
      try simp only [Act.put, List.setIfInBounds_toArray, List.set_cons_zero, List.set_cons_succ]
      refine' wpAnyH_take (i := 41) (oi := _) (v := _) ?hi48 ?hs48 ?hf48 ?hr48 ?hQ48 (Or.inl ⟨?hw48, ?hy48⟩) (by assumption) ?hrest48
      case hi48 => simp only [List.getElem?_toArray]; rfl
      case hs48 => kernel_rfl
      case hf48 => kernel_rfl
      case hr48 => kernel_rfl
      case hQ48 => exact fun _ _ _ h => h
      case hw48 => rfl
      case hy48 => intro w hSw; (try dsimp only at hSw); go_simp; try with_reducible rfl
      try simp only [Act.put, List.setIfInBounds_toArray, List.set_cons_zero, List.set_cons_succ]
      as_aux_lemma =>
        refine wpAnyH_ready (rs := [42]) (by kernel_rfl) (by simp) ?_
        refine' AllReadyH.cons (o := _) ?ho49 (fun K hK => ?hstep49) AllReadyH.nil
        case ho49 => simp only [List.getElem?_toArray]; rfl
        go_simp
        refine (show_any tRoom (.slice A1 z1 z2) _ (HK11.out.later hxt).t1 okRoom).mono ?_
        rintro e v15 ⟨ss, rfl, hss, hx⟩
        obtain rfl := HSH.out ss hss
        have hx3 := hxt.trans hx
        refine hK.out _ _ ((HS.out _ hx3)) (fun hHeld => ?_)
        clear hK K
        try simp only [Act.put, List.setIfInBounds_toArray, List.set_cons_zero, List.set_cons_succ]
        clear hss hx
        refine' wpAnyH_take (i := 43) (oi := _) (v := _) ?hi51 ?hs51 ?hf51 ?hr51 ?hQ51 (Or.inl ⟨?hw51, ?hy51⟩) (by assumption) ?hrest51
        case hi51 => simp only [List.getElem?_toArray]; rfl
        case hs51 => kernel_rfl
        case hf51 => kernel_rfl
        case hr51 => kernel_rfl
        case hQ51 => exact fun _ _ _ h => h
        case hw51 => rfl
        case hy51 => intro w hSw; (try dsimp only at hSw); go_simp; try with_reducible rfl
        try simp only [Act.put, List.setIfInBounds_toArray, List.set_cons_zero, List.set_cons_succ]
        refine' wpAnyH_take (i := 44) (oi := _) (v := _) ?hi52 ?hs52 ?hf52 ?hr52 ?hQ52 (Or.inl ⟨?hw52, ?hy52⟩) (by assumption) ?hrest52
        case hi52 => simp only [List.getElem?_toArray]; rfl
        case hs52 => kernel_rfl
        case hf52 => kernel_rfl
        case hr52 => kernel_rfl
        case hQ52 => exact fun _ _ _ h => h
        case hw52 => rfl
        case hy52 => intro w hSw; (try dsimp only at hSw); go_simp; try with_reducible rfl
        try simp only [Act.put, List.setIfInBounds_toArray, List.set_cons_zero, List.set_cons_succ]
        refine' wpAnyH_take (i := 45) (oi := _) (v := _) ?hi53 ?hs53 ?hf53 ?hr53 ?hQ53 (Or.inl ⟨?hw53, ?hy53⟩) (by assumption) ?hrest53
        case hi53 => simp only [List.getElem?_toArray]; rfl
        case hs53 => kernel_rfl
        case hf53 => kernel_rfl
        case hr53 => kernel_rfl
        case hQ53 => exact fun _ _ _ h => h
        case hw53 => rfl
        case hy53 => intro w hSw; (try dsimp only at hSw); go_simp; try with_reducible rfl
        try simp only [Act.put, List.setIfInBounds_toArray, List.set_cons_zero, List.set_cons_succ]
        refine' wpAnyH_take (i := 46) (oi := _) (v := _) ?hi54 ?hs54 ?hf54 ?hr54 ?hQ54 (Or.inl ⟨?hw54, ?hy54⟩) (by assumption) ?hrest54
        case hi54 => simp only [List.getElem?_toArray]; rfl
        case hs54 => kernel_rfl
        case hf54 => kernel_rfl
        case hr54 => kernel_rfl
        case hQ54 => exact fun _ _ _ h => h
        case hw54 => rfl
        case hy54 => intro w hSw; (try dsimp only at hSw); go_simp; try with_reducible rfl
        try simp only [Act.put, List.setIfInBounds_toArray, List.set_cons_zero, List.set_cons_succ]
        refine' wpAnyH_take (i := 47) (oi := _) (v := _) ?hi55 ?hs55 ?hf55 ?hr55 ?hQ55 (Or.inl ⟨?hw55, ?hy55⟩) (by assumption) ?hrest55
        case hi55 => simp only [List.getElem?_toArray]; rfl
        case hs55 => kernel_rfl
        case hf55 => kernel_rfl
        case hr55 => kernel_rfl
        case hQ55 => exact fun _ _ _ h => h
        case hw55 => rfl
        case hy55 => intro w hSw; (try dsimp only at hSw); go_simp; try with_reducible rfl
        try simp only [Act.put, List.setIfInBounds_toArray, List.set_cons_zero, List.set_cons_succ]
        refine any_merge2 (F := fun v B r => Ext v11 v ∧ Txt v (.slice (some ⟨B, 0, none⟩) 1 1) [sA] ∧ Txt v r [sA]) (fun H101 => by
          refine wpAnyH_ready (rs := [48, 49]) (by kernel_rfl) (by simp) ?_
          refine' AllReadyH.cons (o := _) ?ho102 (fun K hK => ?hs104) (AllReadyH.cons (o := _) ?ho103 (fun K hK => ?hs105) AllReadyH.nil)
          case ho102 => simp only [List.getElem?_toArray]; rfl
          case ho103 => simp only [List.getElem?_toArray]; rfl
          · go_simp
            refine (findT_any (.pointer (some ⟨x, 0, none⟩)) nC [tRoom, tYes] (.slice A5 2 c5) _ (HK11.out.later hx3).ix (by decide) (HK11.out.later hx3).tl okTs).mono ?_
            rintro e v109 ⟨r110, rfl, ht106, hx107⟩
            rw [f1] at ht106
            have hx108 := hx3.trans hx107
            clear hx107
            refine hK.out _ _ ((HS.out _ hx108)) (fun hHeld => ?_)
            clear hK K
            try simp only [Act.put, List.setIfInBounds_toArray, List.set_cons_zero, List.set_cons_succ]
            refine wpAnyH_ready (rs := [49]) (by kernel_rfl) (by simp) ?_
            refine' AllReadyH.cons (o := _) ?ho57 (fun K hK => ?hstep57) AllReadyH.nil
            case ho57 => simp only [List.getElem?_toArray]; rfl
            go_simp
            have ht111 := txt_lit v109 #[.string ⟨#[97]⟩] 9 [sA] 1 rfl (by decide) rfl
            have hx112 := hx108.trans (Ext.alloc v109 (.cells #[.string ⟨#[97]⟩] 9))
            have ht115 := ht106.ext (Ext.alloc v109 (.cells #[.string ⟨#[97]⟩] 9))
            refine hK.out _ _ ((HS.out _ hx112)) (fun hHeld => ?_)
            clear hK K
            try simp only [Act.put, List.setIfInBounds_toArray, List.set_cons_zero, List.set_cons_succ]
            generalize v109.alloc (.cells #[.string ⟨#[97]⟩] 9) = v113 at ht111 hx112 ht115 hHeld ⊢
            generalize v109.heap.size = B114 at ht111 ⊢
            exact any_at (l' := marks 50 50) (by kernel_rfl) (H101.out _ B114 r110 ⟨hx112, ht111, ht115⟩)
          · go_simp
            have ht116 := txt_lit v15 #[.string ⟨#[97]⟩] 9 [sA] 1 rfl (by decide) rfl
            have hx117 := hx3.trans (Ext.alloc v15 (.cells #[.string ⟨#[97]⟩] 9))
            refine hK.out _ _ ((HS.out _ hx117)) (fun hHeld => ?_)
            clear hK K
            try simp only [Act.put, List.setIfInBounds_toArray, List.set_cons_zero, List.set_cons_succ]
            generalize v15.alloc (.cells #[.string ⟨#[97]⟩] 9) = v118 at ht116 hx117  hHeld ⊢
            generalize v15.heap.size = B119 at ht116 ⊢
            refine wpAnyH_ready (rs := [48]) (by kernel_rfl) (by simp) ?_
            refine' AllReadyH.cons (o := _) ?ho60 (fun K hK => ?hstep60) AllReadyH.nil
            case ho60 => simp only [List.getElem?_toArray]; rfl
            go_simp
            refine (findT_any (.pointer (some ⟨x, 0, none⟩)) nC [tRoom, tYes] (.slice A5 2 c5) _ (HK11.out.later hx117).ix (by decide) (HK11.out.later hx117).tl okTs).mono ?_
            rintro e v123 ⟨r124, rfl, ht120, hx121⟩
            rw [f1] at ht120
            have hx122 := hx117.trans hx121
            have ht125 := ht116.ext hx121
            clear hx121
            refine hK.out _ _ ((HS.out _ hx122)) (fun hHeld => ?_)
            clear hK K
            try simp only [Act.put, List.setIfInBounds_toArray, List.set_cons_zero, List.set_cons_succ]
            exact any_at (l' := marks 50 50) (by kernel_rfl) (H101.out _ B119 r124 ⟨hx122, ht125, ht120⟩)) ?_
        clear hHeld
        rintro v126 B127 r128 ⟨hx129, ht130, ht131⟩
        have hHeld := HS.out _ hx129
        as_aux_lemma =>
          as_aux_lemma =>
            refine wpAnyH_ready (rs := [50]) (by kernel_rfl) (by simp) ?_
            refine' AllReadyH.cons (o := _) ?ho62 (fun K hK => ?hstep62) AllReadyH.nil
            case ho62 => simp only [List.getElem?_toArray]; rfl
            go_simp
            refine (same_yes _ _ [sA] [sA] _ ht131 ht130 rfl).mono ?_
            rintro e v132 ⟨rfl, hx133⟩
            have hx134 := hx129.trans hx133
            clear hx133
            refine hK.out _ _ ((HS.out _ hx134)) (fun hHeld => ?_)
            clear hK K
            try simp only [Act.put, List.setIfInBounds_toArray, List.set_cons_zero, List.set_cons_succ]
            refine' wpAnyH_take (i := 51) (oi := _) (v := _) ?hi64 ?hs64 ?hf64 ?hr64 ?hQ64 (Or.inl ⟨?hw64, ?hy64⟩) (by assumption) ?hrest64
            case hi64 => simp only [List.getElem?_toArray]; rfl
            case hs64 => kernel_rfl
            case hf64 => kernel_rfl
            case hr64 => kernel_rfl
            case hQ64 => exact fun _ _ _ h => h
            case hw64 => rfl
            case hy64 => intro w hSw; (try dsimp only at hSw); go_simp; try with_reducible rfl
            try simp only [Act.put, List.setIfInBounds_toArray, List.set_cons_zero, List.set_cons_succ]
            refine' wpAnyH_take (i := 52) (oi := _) (v := _) ?hi65 ?hs65 ?hf65 ?hr65 ?hQ65 (Or.inl ⟨?hw65, ?hy65⟩) (by assumption) ?hrest65
            case hi65 => simp only [List.getElem?_toArray]; rfl
            case hs65 => kernel_rfl
            case hf65 => kernel_rfl
            case hr65 => kernel_rfl
            case hQ65 => exact fun _ _ _ h => h
            case hw65 => rfl
            case hy65 => intro w hSw; (try dsimp only at hSw); go_simp; try with_reducible rfl
            try simp only [Act.put, List.setIfInBounds_toArray, List.set_cons_zero, List.set_cons_succ]
            refine' wpAnyH_take (i := 53) (oi := _) (v := _) ?hi66 ?hs66 ?hf66 ?hr66 ?hQ66 (Or.inl ⟨?hw66, ?hy66⟩) (by assumption) ?hrest66
            case hi66 => simp only [List.getElem?_toArray]; rfl
            case hs66 => kernel_rfl
            case hf66 => kernel_rfl
            case hr66 => kernel_rfl
            case hQ66 => exact fun _ _ _ h => h
            case hw66 => rfl
            case hy66 => intro w hSw; (try dsimp only at hSw); go_simp; try with_reducible rfl
            try simp only [Act.put, List.setIfInBounds_toArray, List.set_cons_zero, List.set_cons_succ]
            refine' wpAnyH_take (i := 54) (oi := _) (v := _) ?hi67 ?hs67 ?hf67 ?hr67 ?hQ67 (Or.inl ⟨?hw67, ?hy67⟩) (by assumption) ?hrest67
            case hi67 => simp only [List.getElem?_toArray]; rfl
            case hs67 => kernel_rfl
            case hf67 => kernel_rfl
            case hr67 => kernel_rfl
            case hQ67 => exact fun _ _ _ h => h
            case hw67 => rfl
            case hy67 => intro w hSw; (try dsimp only at hSw); go_simp; try with_reducible rfl
            try simp only [Act.put, List.setIfInBounds_toArray, List.set_cons_zero, List.set_cons_succ]
            refine any_merge3 (F := fun v B r C => Ext v11 v ∧ Tms v (.slice (some ⟨B, 0, none⟩) 1 1) [tNo] ∧ Txt v r [sB] ∧ Txt v (.slice (some ⟨C, 0, none⟩) 1 1) [sB]) (fun H135 => by
              refine wpAnyH_ready (rs := [55, 57]) (by kernel_rfl) (by simp) ?_
              refine' AllReadyH.cons (o := _) ?ho136 (fun K hK => ?hs138) (AllReadyH.cons (o := _) ?ho137 (fun K hK => ?hs139) AllReadyH.nil)
              case ho136 => simp only [List.getElem?_toArray]; rfl
              case ho137 => simp only [List.getElem?_toArray]; rfl
              · go_simp
                have ht140 : Tms (v132.alloc (.cells #[.string sKind, .bool true, .slice A2 0 y2] 24)) (.slice (some ⟨v132.heap.size, 0, none⟩) 1 1) [tNo] := tms_one v132 24 A2 0 y2 tNo (HK11.out.later hx134).t2
                have hx141 := hx134.trans (Ext.alloc v132 (.cells #[.string sKind, .bool true, .slice A2 0 y2] 24))
                refine hK.out _ _ ((HS.out _ hx141)) (fun hHeld => ?_)
                clear hK K
                try simp only [Act.put, List.setIfInBounds_toArray, List.set_cons_zero, List.set_cons_succ]
                generalize v132.alloc (.cells #[.string sKind, .bool true, .slice A2 0 y2] 24) = v142 at ht140 hx141  hHeld ⊢
                generalize v132.heap.size = B143 at ht140 ⊢
                refine wpAnyH_ready (rs := [56, 57]) (by kernel_rfl) (by simp) ?_
                refine' AllReadyH.cons (o := _) ?ho144 (fun K hK => ?hs146) (AllReadyH.cons (o := _) ?ho145 (fun K hK => ?hs147) AllReadyH.nil)
                case ho144 => simp only [List.getElem?_toArray]; rfl
                case ho145 => simp only [List.getElem?_toArray]; rfl
                · go_simp
                  refine (findT_any (.pointer (some ⟨x, 0, none⟩)) nC [tNo] (.slice (some ⟨B143, 0, none⟩) 1 1) _ (HK11.out.later hx141).ix (by decide) ht140 okTn).mono ?_
                  rintro e v151 ⟨r152, rfl, ht148, hx149⟩
                  rw [f2] at ht148
                  have hx150 := hx141.trans hx149
                  have ht153 := ht140.ext hx149
                  clear hx149
                  refine hK.out _ _ ((HS.out _ hx150)) (fun hHeld => ?_)
                  clear hK K
                  try simp only [Act.put, List.setIfInBounds_toArray, List.set_cons_zero, List.set_cons_succ]
                  refine wpAnyH_ready (rs := [57]) (by kernel_rfl) (by simp) ?_
                  refine' AllReadyH.cons (o := _) ?ho70 (fun K hK => ?hstep70) AllReadyH.nil
                  case ho70 => simp only [List.getElem?_toArray]; rfl
                  go_simp
                  have ht154 := txt_lit v151 #[.string ⟨#[98]⟩] 9 [sB] 1 rfl (by decide) rfl
                  have hx155 := hx150.trans (Ext.alloc v151 (.cells #[.string ⟨#[98]⟩] 9))
                  have ht158 := ht153.ext (Ext.alloc v151 (.cells #[.string ⟨#[98]⟩] 9))
                  have ht159 := ht148.ext (Ext.alloc v151 (.cells #[.string ⟨#[98]⟩] 9))
                  refine hK.out _ _ ((HS.out _ hx155)) (fun hHeld => ?_)
                  clear hK K
                  try simp only [Act.put, List.setIfInBounds_toArray, List.set_cons_zero, List.set_cons_succ]
                  generalize v151.alloc (.cells #[.string ⟨#[98]⟩] 9) = v156 at ht154 hx155 ht158 ht159 hHeld ⊢
                  generalize v151.heap.size = B157 at ht154 ⊢
                  exact any_at (l' := marks 58 42) (by kernel_rfl) (H135.out _ B143 r152 B157 ⟨hx155, ht158, ht159, ht154⟩)
                · go_simp
                  have ht160 := txt_lit v142 #[.string ⟨#[98]⟩] 9 [sB] 1 rfl (by decide) rfl
                  have hx161 := hx141.trans (Ext.alloc v142 (.cells #[.string ⟨#[98]⟩] 9))
                  have ht164 := ht140.ext (Ext.alloc v142 (.cells #[.string ⟨#[98]⟩] 9))
                  refine hK.out _ _ ((HS.out _ hx161)) (fun hHeld => ?_)
                  clear hK K
                  try simp only [Act.put, List.setIfInBounds_toArray, List.set_cons_zero, List.set_cons_succ]
                  generalize v142.alloc (.cells #[.string ⟨#[98]⟩] 9) = v162 at ht160 hx161 ht164 hHeld ⊢
                  generalize v142.heap.size = B163 at ht160 ⊢
                  refine wpAnyH_ready (rs := [56]) (by kernel_rfl) (by simp) ?_
                  refine' AllReadyH.cons (o := _) ?ho73 (fun K hK => ?hstep73) AllReadyH.nil
                  case ho73 => simp only [List.getElem?_toArray]; rfl
                  go_simp
                  refine (findT_any (.pointer (some ⟨x, 0, none⟩)) nC [tNo] (.slice (some ⟨B143, 0, none⟩) 1 1) _ (HK11.out.later hx161).ix (by decide) ht164 okTn).mono ?_
                  rintro e v168 ⟨r169, rfl, ht165, hx166⟩
                  rw [f2] at ht165
                  have hx167 := hx161.trans hx166
                  have ht170 := ht164.ext hx166
                  have ht171 := ht160.ext hx166
                  clear hx166
                  refine hK.out _ _ ((HS.out _ hx167)) (fun hHeld => ?_)
                  clear hK K
                  try simp only [Act.put, List.setIfInBounds_toArray, List.set_cons_zero, List.set_cons_succ]
                  exact any_at (l' := marks 58 42) (by kernel_rfl) (H135.out _ B143 r169 B163 ⟨hx167, ht170, ht165, ht171⟩)
              · go_simp
                have ht172 := txt_lit v132 #[.string ⟨#[98]⟩] 9 [sB] 1 rfl (by decide) rfl
                have hx173 := hx134.trans (Ext.alloc v132 (.cells #[.string ⟨#[98]⟩] 9))
                refine hK.out _ _ ((HS.out _ hx173)) (fun hHeld => ?_)
                clear hK K
                try simp only [Act.put, List.setIfInBounds_toArray, List.set_cons_zero, List.set_cons_succ]
                generalize v132.alloc (.cells #[.string ⟨#[98]⟩] 9) = v174 at ht172 hx173  hHeld ⊢
                generalize v132.heap.size = B175 at ht172 ⊢
                refine wpAnyH_ready (rs := [55]) (by kernel_rfl) (by simp) ?_
                refine' AllReadyH.cons (o := _) ?ho76 (fun K hK => ?hstep76) AllReadyH.nil
                case ho76 => simp only [List.getElem?_toArray]; rfl
                go_simp
                have ht176 : Tms (v174.alloc (.cells #[.string sKind, .bool true, .slice A2 0 y2] 24)) (.slice (some ⟨v174.heap.size, 0, none⟩) 1 1) [tNo] := tms_one v174 24 A2 0 y2 tNo (HK11.out.later hx173).t2
                have hx177 := hx173.trans (Ext.alloc v174 (.cells #[.string sKind, .bool true, .slice A2 0 y2] 24))
                have ht180 := ht172.ext (Ext.alloc v174 (.cells #[.string sKind, .bool true, .slice A2 0 y2] 24))
                refine hK.out _ _ ((HS.out _ hx177)) (fun hHeld => ?_)
                clear hK K
                try simp only [Act.put, List.setIfInBounds_toArray, List.set_cons_zero, List.set_cons_succ]
                generalize v174.alloc (.cells #[.string sKind, .bool true, .slice A2 0 y2] 24) = v178 at ht176 hx177 ht180 hHeld ⊢
                generalize v174.heap.size = B179 at ht176 ⊢
                refine wpAnyH_ready (rs := [56]) (by kernel_rfl) (by simp) ?_
                refine' AllReadyH.cons (o := _) ?ho78 (fun K hK => ?hstep78) AllReadyH.nil
                case ho78 => simp only [List.getElem?_toArray]; rfl
                go_simp
                refine (findT_any (.pointer (some ⟨x, 0, none⟩)) nC [tNo] (.slice (some ⟨B179, 0, none⟩) 1 1) _ (HK11.out.later hx177).ix (by decide) ht176 okTn).mono ?_
                rintro e v184 ⟨r185, rfl, ht181, hx182⟩
                rw [f2] at ht181
                have hx183 := hx177.trans hx182
                have ht186 := ht180.ext hx182
                have ht187 := ht176.ext hx182
                clear hx182
                refine hK.out _ _ ((HS.out _ hx183)) (fun hHeld => ?_)
                clear hK K
                try simp only [Act.put, List.setIfInBounds_toArray, List.set_cons_zero, List.set_cons_succ]
                exact any_at (l' := marks 58 42) (by kernel_rfl) (H135.out _ B179 r185 B175 ⟨hx183, ht187, ht181, ht186⟩)) ?_
            clear hHeld
            rintro v188 B189 r190 C191 ⟨hx192, ht193, ht194, ht195⟩
            have hHeld := HS.out _ hx192
            as_aux_lemma =>
              as_aux_lemma =>
                refine wpAnyH_ready (rs := [58]) (by kernel_rfl) (by simp) ?_
                refine' AllReadyH.cons (o := _) ?ho80 (fun K hK => ?hstep80) AllReadyH.nil
                case ho80 => simp only [List.getElem?_toArray]; rfl
                go_simp
                refine (same_yes _ _ [sB] [sB] _ ht194 ht195 rfl).mono ?_
                rintro e v196 ⟨rfl, hx197⟩
                have hx198 := hx192.trans hx197
                clear hx197
                refine hK.out _ _ ((HS.out _ hx198)) (fun hHeld => ?_)
                clear hK K
                try simp only [Act.put, List.setIfInBounds_toArray, List.set_cons_zero, List.set_cons_succ]
                refine' wpAnyH_take (i := 59) (oi := _) (v := _) ?hi82 ?hs82 ?hf82 ?hr82 ?hQ82 (Or.inl ⟨?hw82, ?hy82⟩) (by assumption) ?hrest82
                case hi82 => simp only [List.getElem?_toArray]; rfl
                case hs82 => kernel_rfl
                case hf82 => kernel_rfl
                case hr82 => kernel_rfl
                case hQ82 => exact fun _ _ _ h => h
                case hw82 => rfl
                case hy82 => intro w hSw; (try dsimp only at hSw); go_simp; try with_reducible rfl
                try simp only [Act.put, List.setIfInBounds_toArray, List.set_cons_zero, List.set_cons_succ]
                refine' wpAnyH_take (i := 60) (oi := _) (v := _) ?hi83 ?hs83 ?hf83 ?hr83 ?hQ83 (Or.inl ⟨?hw83, ?hy83⟩) (by assumption) ?hrest83
                case hi83 => simp only [List.getElem?_toArray]; rfl
                case hs83 => kernel_rfl
                case hf83 => kernel_rfl
                case hr83 => kernel_rfl
                case hQ83 => exact fun _ _ _ h => h
                case hw83 => rfl
                case hy83 => intro w hSw; (try dsimp only at hSw); go_simp; try with_reducible rfl
                try simp only [Act.put, List.setIfInBounds_toArray, List.set_cons_zero, List.set_cons_succ]
                refine' wpAnyH_take (i := 61) (oi := _) (v := _) ?hi84 ?hs84 ?hf84 ?hr84 ?hQ84 (Or.inl ⟨?hw84, ?hy84⟩) (by assumption) ?hrest84
                case hi84 => simp only [List.getElem?_toArray]; rfl
                case hs84 => kernel_rfl
                case hf84 => kernel_rfl
                case hr84 => kernel_rfl
                case hQ84 => exact fun _ _ _ h => h
                case hw84 => rfl
                case hy84 => intro w hSw; (try dsimp only at hSw); go_simp; try with_reducible rfl
                try simp only [Act.put, List.setIfInBounds_toArray, List.set_cons_zero, List.set_cons_succ]
                refine any_merge2 (F := fun v B r => Ext v11 v ∧ Txt v (.slice (some ⟨B, 0, none⟩) 3 3) [sA, sB, sC] ∧ Txt v r [sA, sB, sC]) (fun H199 => by
                  refine wpAnyH_ready (rs := [62, 63]) (by kernel_rfl) (by simp) ?_
                  refine' AllReadyH.cons (o := _) ?ho200 (fun K hK => ?hs202) (AllReadyH.cons (o := _) ?ho201 (fun K hK => ?hs203) AllReadyH.nil)
                  case ho200 => simp only [List.getElem?_toArray]; rfl
                  case ho201 => simp only [List.getElem?_toArray]; rfl
                  · go_simp
                    refine (findT_any (.pointer (some ⟨x, 0, none⟩)) nC [] (.slice none 0 0) _ (HK11.out.later hx198).ix (by decide) (tms_nil' _) (by simp)).mono ?_
                    rintro e v207 ⟨r208, rfl, ht204, hx205⟩
                    rw [f3] at ht204
                    have hx206 := hx198.trans hx205
                    clear hx205
                    refine hK.out _ _ ((HS.out _ hx206)) (fun hHeld => ?_)
                    clear hK K
                    try simp only [Act.put, List.setIfInBounds_toArray, List.set_cons_zero, List.set_cons_succ]
                    refine wpAnyH_ready (rs := [63]) (by kernel_rfl) (by simp) ?_
                    refine' AllReadyH.cons (o := _) ?ho86 (fun K hK => ?hstep86) AllReadyH.nil
                    case ho86 => simp only [List.getElem?_toArray]; rfl
                    go_simp
                    have ht209 := txt_lit v207 #[.string ⟨#[97]⟩, .string ⟨#[98]⟩, .string ⟨#[99]⟩] 9 [sA, sB, sC] 3 rfl (by decide) rfl
                    have hx210 := hx206.trans (Ext.alloc v207 (.cells #[.string ⟨#[97]⟩, .string ⟨#[98]⟩, .string ⟨#[99]⟩] 9))
                    have ht213 := ht204.ext (Ext.alloc v207 (.cells #[.string ⟨#[97]⟩, .string ⟨#[98]⟩, .string ⟨#[99]⟩] 9))
                    refine hK.out _ _ ((HS.out _ hx210)) (fun hHeld => ?_)
                    clear hK K
                    try simp only [Act.put, List.setIfInBounds_toArray, List.set_cons_zero, List.set_cons_succ]
                    generalize v207.alloc (.cells #[.string ⟨#[97]⟩, .string ⟨#[98]⟩, .string ⟨#[99]⟩] 9) = v211 at ht209 hx210 ht213 hHeld ⊢
                    generalize v207.heap.size = B212 at ht209 ⊢
                    exact any_at (l' := marks 64 36) (by kernel_rfl) (H199.out _ B212 r208 ⟨hx210, ht209, ht213⟩)
                  · go_simp
                    have ht214 := txt_lit v196 #[.string ⟨#[97]⟩, .string ⟨#[98]⟩, .string ⟨#[99]⟩] 9 [sA, sB, sC] 3 rfl (by decide) rfl
                    have hx215 := hx198.trans (Ext.alloc v196 (.cells #[.string ⟨#[97]⟩, .string ⟨#[98]⟩, .string ⟨#[99]⟩] 9))
                    refine hK.out _ _ ((HS.out _ hx215)) (fun hHeld => ?_)
                    clear hK K
                    try simp only [Act.put, List.setIfInBounds_toArray, List.set_cons_zero, List.set_cons_succ]
                    generalize v196.alloc (.cells #[.string ⟨#[97]⟩, .string ⟨#[98]⟩, .string ⟨#[99]⟩] 9) = v216 at ht214 hx215  hHeld ⊢
                    generalize v196.heap.size = B217 at ht214 ⊢
                    refine wpAnyH_ready (rs := [62]) (by kernel_rfl) (by simp) ?_
                    refine' AllReadyH.cons (o := _) ?ho89 (fun K hK => ?hstep89) AllReadyH.nil
                    case ho89 => simp only [List.getElem?_toArray]; rfl
                    go_simp
                    refine (findT_any (.pointer (some ⟨x, 0, none⟩)) nC [] (.slice none 0 0) _ (HK11.out.later hx215).ix (by decide) (tms_nil' _) (by simp)).mono ?_
                    rintro e v221 ⟨r222, rfl, ht218, hx219⟩
                    rw [f3] at ht218
                    have hx220 := hx215.trans hx219
                    have ht223 := ht214.ext hx219
                    clear hx219
                    refine hK.out _ _ ((HS.out _ hx220)) (fun hHeld => ?_)
                    clear hK K
                    try simp only [Act.put, List.setIfInBounds_toArray, List.set_cons_zero, List.set_cons_succ]
                    exact any_at (l' := marks 64 36) (by kernel_rfl) (H199.out _ B217 r222 ⟨hx220, ht223, ht218⟩)) ?_
                clear hHeld
                rintro v224 B225 r226 ⟨hx227, ht228, ht229⟩
                have hHeld := HS.out _ hx227
                as_aux_lemma =>
                  as_aux_lemma =>
                    refine wpAnyH_ready (rs := [64]) (by kernel_rfl) (by simp) ?_
                    refine' AllReadyH.cons (o := _) ?ho91 (fun K hK => ?hstep91) AllReadyH.nil
                    case ho91 => simp only [List.getElem?_toArray]; rfl
                    go_simp
                    refine (same_yes _ _ [sA, sB, sC] [sA, sB, sC] _ ht229 ht228 rfl).mono ?_
                    rintro e v230 ⟨rfl, hx231⟩
                    have hx232 := hx227.trans hx231
                    clear hx231
                    refine hK.out _ _ ((HS.out _ hx232)) (fun hHeld => ?_)
                    clear hK K
                    try simp only [Act.put, List.setIfInBounds_toArray, List.set_cons_zero, List.set_cons_succ]
                    refine' wpAnyH_take (i := 65) (oi := _) (v := _) ?hi93 ?hs93 ?hf93 ?hr93 ?hQ93 (Or.inl ⟨?hw93, ?hy93⟩) (by assumption) ?hrest93
                    case hi93 => simp only [List.getElem?_toArray]; rfl
                    case hs93 => kernel_rfl
                    case hf93 => kernel_rfl
                    case hr93 => kernel_rfl
                    case hQ93 => exact fun _ _ _ h => h
                    case hw93 => rfl
                    case hy93 => intro w hSw; (try dsimp only at hSw); go_simp; try with_reducible rfl
                    try simp only [Act.put, List.setIfInBounds_toArray, List.set_cons_zero, List.set_cons_succ]
                    refine' wpAnyH_take (i := 66) (oi := _) (v := _) ?hi94 ?hs94 ?hf94 ?hr94 ?hQ94 (Or.inl ⟨?hw94, ?hy94⟩) (by assumption) ?hrest94
                    case hi94 => simp only [List.getElem?_toArray]; rfl
                    case hs94 => kernel_rfl
                    case hf94 => kernel_rfl
                    case hr94 => kernel_rfl
                    case hQ94 => exact fun _ _ _ h => h
                    case hw94 => rfl
                    case hy94 => intro w hSw; (try dsimp only at hSw); go_simp; try with_reducible rfl
                    try simp only [Act.put, List.setIfInBounds_toArray, List.set_cons_zero, List.set_cons_succ]
                    refine' wpAnyH_take (i := 67) (oi := _) (v := _) ?hi95 ?hs95 ?hf95 ?hr95 ?hQ95 (Or.inl ⟨?hw95, ?hy95⟩) (by assumption) ?hrest95
                    case hi95 => simp only [List.getElem?_toArray]; rfl
                    case hs95 => kernel_rfl
                    case hf95 => kernel_rfl
                    case hr95 => kernel_rfl
                    case hQ95 => exact fun _ _ _ h => h
                    case hw95 => rfl
                    case hy95 => intro w hSw; (try dsimp only at hSw); go_simp; try with_reducible rfl
                    try simp only [Act.put, List.setIfInBounds_toArray, List.set_cons_zero, List.set_cons_succ]
                    refine' wpAnyH_take (i := 68) (oi := _) (v := _) ?hi96 ?hs96 ?hf96 ?hr96 ?hQ96 (Or.inl ⟨?hw96, ?hy96⟩) (by assumption) ?hrest96
                    case hi96 => simp only [List.getElem?_toArray]; rfl
                    case hs96 => kernel_rfl
                    case hf96 => kernel_rfl
                    case hr96 => kernel_rfl
                    case hQ96 => exact fun _ _ _ h => h
                    case hw96 => rfl
                    case hy96 => intro w hSw; (try dsimp only at hSw); go_simp; try with_reducible rfl
                    try simp only [Act.put, List.setIfInBounds_toArray, List.set_cons_zero, List.set_cons_succ]
                    as_aux_lemma =>
                      refine wpAnyH_ready (rs := [69]) (by kernel_rfl) (by simp) ?_
                      refine' AllReadyH.cons (o := _) ?ho97 (fun K hK => ?hstep97) AllReadyH.nil
                      case ho97 => simp only [List.getElem?_toArray]; rfl
                      go_simp
                      refine (labels_list (HK11.out.later hx232).gx.at_ ⟨#[97]⟩ (by unfold okS; decide)).mono ?_
                      rintro e v233 ⟨r235, rfl, hl236, hx0⟩
                      rw [m4'] at hl236
                      have hx234 := hx232.trans hx0
                      clear hx0
                      refine hK.out _ _ ((HS.out _ hx234)) (fun hHeld => ?_)
                      clear hK K
                      try simp only [Act.put, List.setIfInBounds_toArray, List.set_cons_zero, List.set_cons_succ]
                      refine wpAnyH_ready (rs := [70]) (by kernel_rfl) (by simp) ?_
                      refine' AllReadyH.cons (o := _) ?ho99 (fun K hK => ?hstep99) AllReadyH.nil
                      case ho99 => simp only [List.getElem?_toArray]; rfl
                      go_simp
                      refine (match_any tRoom (.slice A1 z1 z2) r235 lA _ (HK11.out.later hx234).t1 hl236).mono ?_
                      rintro e v237 ⟨rfl, hx238⟩
                      rw [q1]
                      have hx239 := hx234.trans hx238
                      clear hx238
                      refine hK.out _ _ ((HS.out _ hx239)) (fun hHeld => ?_)
                      clear hK K
                      try simp only [Act.put, List.setIfInBounds_toArray, List.set_cons_zero, List.set_cons_succ]
                      refine' wpAnyH_take (i := 71) (oi := _) (v := _) ?hi101 ?hs101 ?hf101 ?hr101 ?hQ101 (Or.inl ⟨?hw101, ?hy101⟩) (by assumption) ?hrest101
                      case hi101 => simp only [List.getElem?_toArray]; rfl
                      case hs101 => kernel_rfl
                      case hf101 => kernel_rfl
                      case hr101 => kernel_rfl
                      case hQ101 => exact fun _ _ _ h => h
                      case hw101 => rfl
                      case hy101 => intro w hSw; (try dsimp only at hSw); go_simp; try with_reducible rfl
                      try simp only [Act.put, List.setIfInBounds_toArray, List.set_cons_zero, List.set_cons_succ]
                      refine' wpAnyH_take (i := 72) (oi := _) (v := _) ?hi102 ?hs102 ?hf102 ?hr102 ?hQ102 (Or.inl ⟨?hw102, ?hy102⟩) (by assumption) ?hrest102
                      case hi102 => simp only [List.getElem?_toArray]; rfl
                      case hs102 => kernel_rfl
                      case hf102 => kernel_rfl
                      case hr102 => kernel_rfl
                      case hQ102 => exact fun _ _ _ h => h
                      case hw102 => rfl
                      case hy102 => intro w hSw; (try dsimp only at hSw); go_simp; try with_reducible rfl
                      try simp only [Act.put, List.setIfInBounds_toArray, List.set_cons_zero, List.set_cons_succ]
                      refine' wpAnyH_take (i := 73) (oi := _) (v := _) ?hi103 ?hs103 ?hf103 ?hr103 ?hQ103 (Or.inl ⟨?hw103, ?hy103⟩) (by assumption) ?hrest103
                      case hi103 => simp only [List.getElem?_toArray]; rfl
                      case hs103 => kernel_rfl
                      case hf103 => kernel_rfl
                      case hr103 => kernel_rfl
                      case hQ103 => exact fun _ _ _ h => h
                      case hw103 => rfl
                      case hy103 => intro w hSw; (try dsimp only at hSw); go_simp; try with_reducible rfl
                      try simp only [Act.put, List.setIfInBounds_toArray, List.set_cons_zero, List.set_cons_succ]
                      as_aux_lemma =>
                        refine wpAnyH_ready (rs := [74]) (by kernel_rfl) (by simp) ?_
                        refine' AllReadyH.cons (o := _) ?ho104 (fun K hK => ?hstep104) AllReadyH.nil
                        case ho104 => simp only [List.getElem?_toArray]; rfl
                        go_simp
                        refine (match_any tRoom (.slice A1 z1 z2) (.slice none 0 0) [] _ (HK11.out.later hx239).t1 (row_nil _)).mono ?_
                        rintro e v240 ⟨rfl, hx241⟩
                        rw [q2]
                        have hx242 := hx239.trans hx241
                        clear hx241
                        refine hK.out _ _ ((HS.out _ hx242)) (fun hHeld => ?_)
                        clear hK K
                        try simp only [Act.put, List.setIfInBounds_toArray, List.set_cons_zero, List.set_cons_succ]
                        refine' wpAnyH_take (i := 75) (oi := _) (v := _) ?hi106 ?hs106 ?hf106 ?hr106 ?hQ106 (Or.inl ⟨?hw106, ?hy106⟩) (by assumption) ?hrest106
                        case hi106 => simp only [List.getElem?_toArray]; rfl
                        case hs106 => kernel_rfl
                        case hf106 => kernel_rfl
                        case hr106 => kernel_rfl
                        case hQ106 => exact fun _ _ _ h => h
                        case hw106 => rfl
                        case hy106 => intro w hSw; (try dsimp only at hSw); go_simp; try with_reducible rfl
                        try simp only [Act.put, List.setIfInBounds_toArray, List.set_cons_zero, List.set_cons_succ]
                        refine' wpAnyH_take (i := 76) (oi := _) (v := _) ?hi107 ?hs107 ?hf107 ?hr107 ?hQ107 (Or.inl ⟨?hw107, ?hy107⟩) (by assumption) ?hrest107
                        case hi107 => simp only [List.getElem?_toArray]; rfl
                        case hs107 => kernel_rfl
                        case hf107 => kernel_rfl
                        case hr107 => kernel_rfl
                        case hQ107 => exact fun _ _ _ h => h
                        case hw107 => rfl
                        case hy107 => intro w hSw; (try dsimp only at hSw); go_simp; try with_reducible rfl
                        try simp only [Act.put, List.setIfInBounds_toArray, List.set_cons_zero, List.set_cons_succ]
                        refine' wpAnyH_take (i := 77) (oi := _) (v := _) ?hi108 ?hs108 ?hf108 ?hr108 ?hQ108 (Or.inl ⟨?hw108, ?hy108⟩) (by assumption) ?hrest108
                        case hi108 => simp only [List.getElem?_toArray]; rfl
                        case hs108 => kernel_rfl
                        case hf108 => kernel_rfl
                        case hr108 => kernel_rfl
                        case hQ108 => exact fun _ _ _ h => h
                        case hw108 => rfl
                        case hy108 => intro w hSw; (try dsimp only at hSw); go_simp; try with_reducible rfl
                        try simp only [Act.put, List.setIfInBounds_toArray, List.set_cons_zero, List.set_cons_succ]
                        refine' wpAnyH_take (i := 78) (oi := _) (v := _) ?hi109 ?hs109 ?hf109 ?hr109 ?hQ109 (Or.inl ⟨?hw109, ?hy109⟩) (by assumption) ?hrest109
                        case hi109 => simp only [List.getElem?_toArray]; rfl
                        case hs109 => kernel_rfl
                        case hf109 => kernel_rfl
                        case hr109 => kernel_rfl
                        case hQ109 => exact fun _ _ _ h => h
                        case hw109 => rfl
                        case hy109 => intro w hSw; (try dsimp only at hSw); go_simp; try with_reducible rfl
                        try simp only [Act.put, List.setIfInBounds_toArray, List.set_cons_zero, List.set_cons_succ]
                        as_aux_lemma =>
                          refine wpAnyH_ready (rs := [79]) (by kernel_rfl) (by simp) ?_
                          refine' AllReadyH.cons (o := _) ?ho110 (fun K hK => ?hstep110) AllReadyH.nil
                          case ho110 => simp only [List.getElem?_toArray]; rfl
                          go_simp
                          refine (right_term tRoom (.slice A1 z1 z2) _ (HK11.out.later hx242).t1 okRoom).mono ?_
                          rintro e v243 ⟨rfl, hx244⟩
                          rw [q3]
                          have hx245 := hx242.trans hx244
                          clear hx244
                          refine hK.out _ _ ((HS.out _ hx245)) (fun hHeld => ?_)
                          clear hK K
                          try simp only [Act.put, List.setIfInBounds_toArray, List.set_cons_zero, List.set_cons_succ]
                          refine' wpAnyH_take (i := 80) (oi := _) (v := _) ?hi112 ?hs112 ?hf112 ?hr112 ?hQ112 (Or.inl ⟨?hw112, ?hy112⟩) (by assumption) ?hrest112
                          case hi112 => simp only [List.getElem?_toArray]; rfl
                          case hs112 => kernel_rfl
                          case hf112 => kernel_rfl
                          case hr112 => kernel_rfl
                          case hQ112 => exact fun _ _ _ h => h
                          case hw112 => rfl
                          case hy112 => intro w hSw; (try dsimp only at hSw); go_simp; try with_reducible rfl
                          try simp only [Act.put, List.setIfInBounds_toArray, List.set_cons_zero, List.set_cons_succ]
                          refine' wpAnyH_take (i := 81) (oi := _) (v := _) ?hi113 ?hs113 ?hf113 ?hr113 ?hQ113 (Or.inl ⟨?hw113, ?hy113⟩) (by assumption) ?hrest113
                          case hi113 => simp only [List.getElem?_toArray]; rfl
                          case hs113 => kernel_rfl
                          case hf113 => kernel_rfl
                          case hr113 => kernel_rfl
                          case hQ113 => exact fun _ _ _ h => h
                          case hw113 => rfl
                          case hy113 => intro w hSw; (try dsimp only at hSw); go_simp; try with_reducible rfl
                          try simp only [Act.put, List.setIfInBounds_toArray, List.set_cons_zero, List.set_cons_succ]
                          as_aux_lemma =>
                            refine wpAnyH_ready (rs := [82]) (by kernel_rfl) (by simp) ?_
                            refine' AllReadyH.cons (o := _) ?ho114 (fun K hK => ?hstep114) AllReadyH.nil
                            case ho114 => simp only [List.getElem?_toArray]; rfl
                            go_simp
                            refine (word_any ⟨#[97]⟩ _ (by decide)).mono ?_
                            rintro e v246 ⟨rfl, hx247⟩
                            rw [q4']
                            have hx248 := hx245.trans hx247
                            clear hx247
                            refine hK.out _ _ ((HS.out _ hx248)) (fun hHeld => ?_)
                            clear hK K
                            try simp only [Act.put, List.setIfInBounds_toArray, List.set_cons_zero, List.set_cons_succ]
                            refine' wpAnyH_take (i := 83) (oi := _) (v := _) ?hi116 ?hs116 ?hf116 ?hr116 ?hQ116 (Or.inl ⟨?hw116, ?hy116⟩) (by assumption) ?hrest116
                            case hi116 => simp only [List.getElem?_toArray]; rfl
                            case hs116 => kernel_rfl
                            case hf116 => kernel_rfl
                            case hr116 => kernel_rfl
                            case hQ116 => exact fun _ _ _ h => h
                            case hw116 => rfl
                            case hy116 => intro w hSw; (try dsimp only at hSw); go_simp; try with_reducible rfl
                            try simp only [Act.put, List.setIfInBounds_toArray, List.set_cons_zero, List.set_cons_succ]
                            refine' wpAnyH_take (i := 84) (oi := _) (v := _) ?hi117 ?hs117 ?hf117 ?hr117 ?hQ117 (Or.inl ⟨?hw117, ?hy117⟩) (by assumption) ?hrest117
                            case hi117 => simp only [List.getElem?_toArray]; rfl
                            case hs117 => kernel_rfl
                            case hf117 => kernel_rfl
                            case hr117 => kernel_rfl
                            case hQ117 => exact fun _ _ _ h => h
                            case hw117 => rfl
                            case hy117 => intro w hSw; (try dsimp only at hSw); go_simp; try with_reducible rfl
                            try simp only [Act.put, List.setIfInBounds_toArray, List.set_cons_zero, List.set_cons_succ]
                            as_aux_lemma =>
                              refine wpAnyH_ready (rs := [85]) (by kernel_rfl) (by simp) ?_
                              refine' AllReadyH.cons (o := _) ?ho118 (fun K hK => ?hstep118) AllReadyH.nil
                              case ho118 => simp only [List.getElem?_toArray]; rfl
                              go_simp
                              refine (word_any ⟨#[97, 61]⟩ _ (by decide)).mono ?_
                              rintro e v249 ⟨rfl, hx250⟩
                              rw [q5]
                              have hx251 := hx248.trans hx250
                              clear hx250
                              refine hK.out _ _ ((HS.out _ hx251)) (fun hHeld => ?_)
                              clear hK K
                              try simp only [Act.put, List.setIfInBounds_toArray, List.set_cons_zero, List.set_cons_succ]
                              refine' wpAnyH_take (i := 86) (oi := _) (v := _) ?hi120 ?hs120 ?hf120 ?hr120 ?hQ120 (Or.inl ⟨?hw120, ?hy120⟩) (by assumption) ?hrest120
                              case hi120 => simp only [List.getElem?_toArray]; rfl
                              case hs120 => kernel_rfl
                              case hf120 => kernel_rfl
                              case hr120 => kernel_rfl
                              case hQ120 => exact fun _ _ _ h => h
                              case hw120 => rfl
                              case hy120 => intro w hSw; (try dsimp only at hSw); go_simp; try with_reducible rfl
                              try simp only [Act.put, List.setIfInBounds_toArray, List.set_cons_zero, List.set_cons_succ]
                              refine' wpAnyH_take (i := 87) (oi := _) (v := _) ?hi121 ?hs121 ?hf121 ?hr121 ?hQ121 (Or.inl ⟨?hw121, ?hy121⟩) (by assumption) ?hrest121
                              case hi121 => simp only [List.getElem?_toArray]; rfl
                              case hs121 => kernel_rfl
                              case hf121 => kernel_rfl
                              case hr121 => kernel_rfl
                              case hQ121 => exact fun _ _ _ h => h
                              case hw121 => rfl
                              case hy121 => intro w hSw; (try dsimp only at hSw); go_simp; try with_reducible rfl
                              try simp only [Act.put, List.setIfInBounds_toArray, List.set_cons_zero, List.set_cons_succ]
                              refine' wpAnyH_take (i := 88) (oi := _) (v := _) ?hi122 ?hs122 ?hf122 ?hr122 ?hQ122 (Or.inl ⟨?hw122, ?hy122⟩) (by assumption) ?hrest122
                              case hi122 => simp only [List.getElem?_toArray]; rfl
                              case hs122 => kernel_rfl
                              case hf122 => kernel_rfl
                              case hr122 => kernel_rfl
                              case hQ122 => exact fun _ _ _ h => h
                              case hw122 => rfl
                              case hy122 => intro w hSw; (try dsimp only at hSw); go_simp; try with_reducible rfl
                              try simp only [Act.put, List.setIfInBounds_toArray, List.set_cons_zero, List.set_cons_succ]
                              refine' wpAnyH_take (i := 89) (oi := _) (v := _) ?hi123 ?hs123 ?hf123 ?hr123 ?hQ123 (Or.inl ⟨?hw123, ?hy123⟩) (by assumption) ?hrest123
                              case hi123 => simp only [List.getElem?_toArray]; rfl
                              case hs123 => kernel_rfl
                              case hf123 => kernel_rfl
                              case hr123 => kernel_rfl
                              case hQ123 => exact fun _ _ _ h => h
                              case hw123 => rfl
                              case hy123 => intro w hSw; (try dsimp only at hSw); go_simp; try with_reducible rfl
                              try simp only [Act.put, List.setIfInBounds_toArray, List.set_cons_zero, List.set_cons_succ]
                              refine' wpAnyH_take (i := 90) (oi := _) (v := _) ?hi124 ?hs124 ?hf124 ?hr124 ?hQ124 (Or.inl ⟨?hw124, ?hy124⟩) (by assumption) ?hrest124
                              case hi124 => simp only [List.getElem?_toArray]; rfl
                              case hs124 => kernel_rfl
                              case hf124 => kernel_rfl
                              case hr124 => kernel_rfl
                              case hQ124 => exact fun _ _ _ h => h
                              case hw124 => rfl
                              case hy124 => intro w hSw; (try dsimp only at hSw); go_simp; try with_reducible rfl
                              try simp only [Act.put, List.setIfInBounds_toArray, List.set_cons_zero, List.set_cons_succ]
                              as_aux_lemma =>
                                refine wpAnyH_ready (rs := [91]) (by kernel_rfl) (by simp) ?_
                                refine' AllReadyH.cons (o := _) ?ho125 (fun K hK => ?hstep125) AllReadyH.nil
                                case ho125 => simp only [List.getElem?_toArray]; rfl
                                go_simp
                                refine (tsame_any tRoom tRoom (.slice A1 z1 z2) (.slice A1 z1 z2) _ (HK11.out.later hx251).t1 (HK11.out.later hx251).t1).mono ?_
                                rintro e v252 ⟨rfl, hx253⟩
                                rw [q6]
                                have hx254 := hx251.trans hx253
                                clear hx253
                                refine hK.out _ _ ((HS.out _ hx254)) (fun hHeld => ?_)
                                clear hK K
                                try simp only [Act.put, List.setIfInBounds_toArray, List.set_cons_zero, List.set_cons_succ]
                                refine' wpAnyH_take (i := 92) (oi := _) (v := _) ?hi127 ?hs127 ?hf127 ?hr127 ?hQ127 (Or.inl ⟨?hw127, ?hy127⟩) (by assumption) ?hrest127
                                case hi127 => simp only [List.getElem?_toArray]; rfl
                                case hs127 => kernel_rfl
                                case hf127 => kernel_rfl
                                case hr127 => kernel_rfl
                                case hQ127 => exact fun _ _ _ h => h
                                case hw127 => rfl
                                case hy127 => intro w hSw; (try dsimp only at hSw); go_simp; try with_reducible rfl
                                try simp only [Act.put, List.setIfInBounds_toArray, List.set_cons_zero, List.set_cons_succ]
                                refine' wpAnyH_take (i := 93) (oi := _) (v := _) ?hi128 ?hs128 ?hf128 ?hr128 ?hQ128 (Or.inl ⟨?hw128, ?hy128⟩) (by assumption) ?hrest128
                                case hi128 => simp only [List.getElem?_toArray]; rfl
                                case hs128 => kernel_rfl
                                case hf128 => kernel_rfl
                                case hr128 => kernel_rfl
                                case hQ128 => exact fun _ _ _ h => h
                                case hw128 => rfl
                                case hy128 => intro w hSw; (try dsimp only at hSw); go_simp; try with_reducible rfl
                                try simp only [Act.put, List.setIfInBounds_toArray, List.set_cons_zero, List.set_cons_succ]
                                refine' wpAnyH_take (i := 94) (oi := _) (v := _) ?hi129 ?hs129 ?hf129 ?hr129 ?hQ129 (Or.inl ⟨?hw129, ?hy129⟩) (by assumption) ?hrest129
                                case hi129 => simp only [List.getElem?_toArray]; rfl
                                case hs129 => kernel_rfl
                                case hf129 => kernel_rfl
                                case hr129 => kernel_rfl
                                case hQ129 => exact fun _ _ _ h => h
                                case hw129 => rfl
                                case hy129 => intro w hSw; (try dsimp only at hSw); go_simp; try with_reducible rfl
                                try simp only [Act.put, List.setIfInBounds_toArray, List.set_cons_zero, List.set_cons_succ]
                                refine' wpAnyH_take (i := 95) (oi := _) (v := _) ?hi130 ?hs130 ?hf130 ?hr130 ?hQ130 (Or.inl ⟨?hw130, ?hy130⟩) (by assumption) ?hrest130
                                case hi130 => simp only [List.getElem?_toArray]; rfl
                                case hs130 => kernel_rfl
                                case hf130 => kernel_rfl
                                case hr130 => kernel_rfl
                                case hQ130 => exact fun _ _ _ h => h
                                case hw130 => rfl
                                case hy130 => intro w hSw; (try dsimp only at hSw); go_simp; try with_reducible rfl
                                try simp only [Act.put, List.setIfInBounds_toArray, List.set_cons_zero, List.set_cons_succ]
                                as_aux_lemma =>
                                  refine wpAnyH_ready (rs := [96]) (by kernel_rfl) (by simp) ?_
                                  refine' AllReadyH.cons (o := _) ?ho131 (fun K hK => ?hstep131) AllReadyH.nil
                                  case ho131 => simp only [List.getElem?_toArray]; rfl
                                  go_simp
                                  refine (tsame_any tRoom tNo (.slice A1 z1 z2) (.slice A2 0 y2) _ (HK11.out.later hx254).t1 (HK11.out.later hx254).t2).mono ?_
                                  rintro e v255 ⟨rfl, hx256⟩
                                  rw [q7]
                                  have hx257 := hx254.trans hx256
                                  clear hx256
                                  refine hK.out _ _ ((HS.out _ hx257)) (fun hHeld => ?_)
                                  clear hK K
                                  try simp only [Act.put, List.setIfInBounds_toArray, List.set_cons_zero, List.set_cons_succ]
                                  refine' wpAnyH_take (i := 97) (oi := _) (v := _) ?hi133 ?hs133 ?hf133 ?hr133 ?hQ133 (Or.inl ⟨?hw133, ?hy133⟩) (by assumption) ?hrest133
                                  case hi133 => simp only [List.getElem?_toArray]; rfl
                                  case hs133 => kernel_rfl
                                  case hf133 => kernel_rfl
                                  case hr133 => kernel_rfl
                                  case hQ133 => exact fun _ _ _ h => h
                                  case hw133 => rfl
                                  case hy133 => intro w hSw; (try dsimp only at hSw); go_simp; try with_reducible rfl
                                  try simp only [Act.put, List.setIfInBounds_toArray, List.set_cons_zero, List.set_cons_succ]
                                  refine' wpAnyH_take (i := 98) (oi := _) (v := _) ?hi134 ?hs134 ?hf134 ?hr134 ?hQ134 (Or.inl ⟨?hw134, ?hy134⟩) (by assumption) ?hrest134
                                  case hi134 => simp only [List.getElem?_toArray]; rfl
                                  case hs134 => kernel_rfl
                                  case hf134 => kernel_rfl
                                  case hr134 => kernel_rfl
                                  case hQ134 => exact fun _ _ _ h => h
                                  case hw134 => rfl
                                  case hy134 => intro w hSw; (try dsimp only at hSw); go_simp; try with_reducible rfl
                                  try simp only [Act.put, List.setIfInBounds_toArray, List.set_cons_zero, List.set_cons_succ]
                                  refine' wpAnyH_take (i := 99) (oi := _) (v := _) ?hi135 ?hs135 ?hf135 ?hr135 ?hQ135 (Or.inl ⟨?hw135, ?hy135⟩) (by assumption) ?hrest135
                                  case hi135 => simp only [List.getElem?_toArray]; rfl
                                  case hs135 => kernel_rfl
                                  case hf135 => kernel_rfl
                                  case hr135 => kernel_rfl
                                  case hQ135 => exact fun _ _ _ h => h
                                  case hw135 => rfl
                                  case hy135 => intro w hSw; (try dsimp only at hSw); go_simp; try with_reducible rfl
                                  try simp only [Act.put, List.setIfInBounds_toArray, List.set_cons_zero, List.set_cons_succ]
                                  refine wpAnyH_done (by kernel_rfl) ?_ _
                                  go_wp2_with fail
                                  go_ret
                                  exact ⟨rfl, HK11.out.gx.ext.trans hx257⟩
end Go.Proofs.Ytccjbmmhdbainaa
