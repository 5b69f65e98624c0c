/- The walks of delta's source: number, plain, coded. -/
import Derived.Test.YtpdebandcmhbcaaDelH
import Derived.Test.YtpdebandcmhbcaaDelQ
import Derived.Test.YtpdebandcmhbcaaKp
namespace Go.Proofs.Ytpdebandcmhbcaa
open Go.RowKit Bit
set_option linter.unusedVariables false

structure SV where
  t : Int
  v : Int
  step : Int
  e : Int
def Src (w : World) (p g : Nat) (x : SV) : Prop := w.heap[p]? = some (.cells #[.pointer (some ⟨g, 0, none⟩), .int .i64 x.t, .int .i64 x.v, .int .i64 x.step, .int .i64 x.e] 74 (0, 0))
theorem Src.ext {w w' : World} {p g : Nat} {x : SV} (h : Src w p g x) (hx : Ext w w') : Src w' p g x := (Chg.of_ext (B := 0) (S := []) hx).heap_type h (by simp)
theorem Src.chg {B : Nat} {S : List TypeId} {w w' : World} {p g : Nat} {x : SV} (h : Src w p g x) (hc : Chg B S w w') (hS : 74 ∉ S) : Src w' p g x := hc.heap_type h hS
theorem plainQ_call (a : Array Value) (w : World) : (callFunc 49 a).run Try.prog w = .ok (.enter 49 a) w := by kernel_rfl
theorem codedQ_call (a : Array Value) (w : World) : (callFunc 51 a).run Try.prog w = .ok (.enter 51 a) w := by kernel_rfl

/-- number, of any reading. -/
theorem number_any (kf : FuncId) (cap : Array Value) (hcf : ∀ (a : Array Value) (w : World), (callFunc kf a).run Try.prog w = .ok (.enter kf a) w) (p g : Nat) (x : SV) (w : World) (hs : Src w p g x) (he : x.e = 0) (Q : Nat → Int → World → Prop)
    (hq : Calls Try.prog kf cap w fun e w1 => ∃ (u : Nat) (y : Int), e = .returned (.tuple #[.int .u64 (u : Int), .int .i64 y]) ∧ Src w1 p g x ∧ Q u y w1) :
    Calls Try.prog 48 #[.pointer (some ⟨p, 0, none⟩), .func (.func kf) #[] cap] w fun e w' => ∃ (u : Nat) (y : Int) (w1 : World), e = .returned (.int .u64 (u : Int)) ∧ Src w1 p g x ∧ Q u y w1 ∧ w' = w1.setCell ⟨p, 4, none⟩ (.int .i64 y) := by
  obtain ⟨t, v, step, e⟩ := x
  simp only at he
  subst he
  have c4 : w.cell? ⟨p, 4, none⟩ = some (.int .i64 0) := heap_cell hs 4
  have HQ := Lib.hid hq
  clear hq hs
  go_enter Try.func48, Try.ntmps48
  go_wp2_with fail
  refine (HQ.out).mono ?_
  rintro e w1 ⟨u, y, rfl, hs1, hq1⟩
  have d4 : w1.cell? ⟨p, 4, none⟩ = some (.int .i64 0) := heap_cell hs1 4
  have f4 := heap_frozen hs1 4
  have HS1 := Lib.hid hs1
  have HQ1 := Lib.hid hq1
  clear hs1 hq1
  go_wp2_with fail
  go_ret
  exact ⟨u, y, w1, rfl, HS1.out, HQ1.out, rfl⟩
theorem number_err (v : Value) (p g : Nat) (x : SV) (w : World) (hs : Src w p g x) (he : x.e ≠ 0) :
    Calls Try.prog 48 #[.pointer (some ⟨p, 0, none⟩), v] w fun e w' => e = .returned (.int .u64 0) ∧ w = w' := by
  obtain ⟨t, v', step, e⟩ := x
  have c4 : w.cell? ⟨p, 4, none⟩ = some (.int .i64 e) := heap_cell hs 4
  have he1 : (e == 0) = false := by simpa using he
  have he2 : (e != 0) = true := by simpa using he
  clear hs he
  go_enter Try.func48, Try.ntmps48
  go_wp2_with fail
  go_ret
  exact ⟨rfl, rfl⟩
/-- What reading 64 bits tells. -/
def plainR (s : ByteArray) (n k : Nat) : Nat × Nat × Int := if k + 64 ≤ n then (num (bitsAt s k 64), 64, 0) else (0, 0, 3)
theorem plainQ_any (B p g b : Nat) (x : SV) (s : ByteArray) (n k : Nat) (w : World) (hb : w.cell? ⟨b, 0, none⟩ = some (.pointer (some ⟨p, 0, none⟩))) (hs : Src w p g x) (h : Rdr w g s n k) (hk : k ≤ n) (hn : n ≤ 34359738368) (hn8 : n ≤ 8 * s.size) (hsz : s.size ≤ 4294967296) (hB : B ≤ g) :
    Calls Try.prog 49 #[.pointer (some ⟨b, 0, none⟩)] w fun e w1 => ∃ (u : Nat) (y : Int), e = .returned (.tuple #[.int .u64 (u : Int), .int .i64 y]) ∧ Src w1 p g x ∧ (∃ m, plainR s n k = (u, m, y) ∧ Rdr w1 g s n (k + m) ∧ Chg B [77] w w1) := by
  have c0 : w.cell? ⟨p, 0, none⟩ = some (.pointer (some ⟨g, 0, none⟩)) := heap_cell hs 0
  have HS := Lib.hid hs
  have H := Lib.hid h
  clear hs h
  by_cases hl : k + 64 ≤ n
  · have HP : Hid (plainR s n k = (num (bitsAt s k 64), 64, 0)) := Lib.hid (by rw [plainR, if_pos hl])
    go_enter Try.func49, Try.ntmps49
    go_wp2_with fail
    refine (get_ok B g s n k 64 w H.out hn8 hsz (by decide) hl hB).mono ?_
    rintro e w1 ⟨rfl, hr1, hc1⟩
    have HR1 := Lib.hid hr1
    have HC1 := Lib.hid hc1
    clear hr1 hc1
    go_wp2_with fail
    go_ret2
    exact ⟨_, _, rfl, HS.out.chg HC1.out (by decide), _, HP.out, HR1.out, HC1.out⟩
  · have HP : Hid (plainR s n k = (0, 0, 3)) := Lib.hid (by rw [plainR, if_neg hl])
    go_enter Try.func49, Try.ntmps49
    go_wp2_with fail
    refine (get_short g s n k 64 w H.out hk hn (by decide) (by omega)).mono ?_
    rintro e w1 ⟨rfl, q, rfl⟩
    go_wp2_with fail
    go_ret2
    exact ⟨0, _, rfl, HS.out.ext (Ext.drewN _ _), _, HP.out, H.out.ext (Ext.drewN _ _), (Chg.refl _ _ _).drewN _⟩
theorem codedQ_any (B p g b : Nat) (x : SV) (s : ByteArray) (n k : Nat) (w : World) (hb : w.cell? ⟨b, 0, none⟩ = some (.pointer (some ⟨p, 0, none⟩))) (hs : Src w p g x) (h : Rdr w g s n k) (hk : k ≤ n) (hn : n ≤ 34359738368) (hn8 : n ≤ 8 * s.size) (hsz : s.size ≤ 4294967296) (hB : B ≤ g) :
    Calls Try.prog 51 #[.pointer (some ⟨b, 0, none⟩)] w fun e w1 => ∃ (u : Nat) (y : Int), e = .returned (.tuple #[.int .u64 (u : Int), .int .i64 y]) ∧ Src w1 p g x ∧ (∃ m, getB (bitsAt s k (n - k)) = (u, m, y) ∧ Rdr w1 g s n (k + m) ∧ Chg B [77] w w1) := by
  have c0 : w.cell? ⟨p, 0, none⟩ = some (.pointer (some ⟨g, 0, none⟩)) := heap_cell hs 0
  have HS := Lib.hid hs
  have H := Lib.hid h
  clear hs h
  go_enter Try.func51, Try.ntmps51
  go_wp2_with fail
  refine (dget_any B g s n k w H.out hk hn hn8 hsz hB).mono ?_
  rintro e w1 ⟨u, m, y, rfl, hg, hr1, hc1⟩
  have HR1 := Lib.hid hr1
  have HC1 := Lib.hid hc1
  have HG := Lib.hid hg
  clear hr1 hc1 hg
  go_wp2_with fail
  go_ret2
  exact ⟨_, _, rfl, HS.out.chg HC1.out (by decide), _, HG.out, HR1.out, HC1.out⟩
theorem hc_mono {B : Nat} {w w' : World} (h : Chg B [77] w w') : Chg B [77, 74] w w' := h.mono (by simp)
theorem plain_any (B p g : Nat) (x : SV) (s : ByteArray) (n k : Nat) (w : World) (hs : Src w p g x) (h : Rdr w g s n k) (hk : k ≤ n) (hn : n ≤ 34359738368) (hn8 : n ≤ 8 * s.size) (hsz : s.size ≤ 4294967296) (hB : B ≤ g) (hBp : B ≤ p) (he : x.e = 0) :
    Calls Try.prog 45 #[.pointer (some ⟨p, 0, none⟩)] w fun e w' => ∃ (u m : Nat) (y : Int), e = .returned (.int .i64 (wrap64 (u : Int))) ∧ plainR s n k = (u, m, y) ∧ Src w' p g { x with e := y } ∧ Rdr w' g s n (k + m) ∧ Chg B [77, 74] w w' := by
  have HS := Lib.hid hs
  have H := Lib.hid h
  have hpg : p ≠ g := by
    rintro rfl
    unfold Src at hs
    unfold Rdr at h
    rw [hs] at h
    cases h
  have HPG := Lib.hid hpg
  have hplt : p < w.heap.size := (Array.getElem?_eq_some_iff.1 hs).1
  have HPL := Lib.hid hplt
  clear hs h hpg hplt
  go_enter Try.func45, Try.ntmps45
  go_wp2_with fail
  have hb := heap_alloc_new w (.cells #[.pointer (some ⟨p, 0, none⟩)] 72 (0, 0))
  have hxa := Ext.alloc w (.cells #[.pointer (some ⟨p, 0, none⟩)] 72)
  generalize w.alloc (.cells #[.pointer (some ⟨p, 0, none⟩)] 72) = w1 at hb hxa ⊢
  generalize w.heap.size = b at hb ⊢
  have hc := heap_cell hb 0
  have HX := Lib.hid hxa
  clear hb hxa
  refine (number_any 49 #[.pointer (some ⟨b, 0, none⟩)] plainQ_call p g x w1 (HS.out.ext HX.out) he _ (plainQ_any B p g b x s n k w1 hc (HS.out.ext HX.out) (H.out.ext HX.out) hk hn hn8 hsz hB)).mono ?_
  rintro e w2 ⟨u, y, w3, rfl, hs3, ⟨m, hp, hr3, hc3⟩, rfl⟩
  have HP := Lib.hid hp
  have HS3 := Lib.hid hs3
  have HR3 := Lib.hid hr3
  have HC3 := Lib.hid hc3
  clear hp hs3 hr3 hc3 hc
  go_wp2_with fail
  go_ret
  refine ⟨u, m, y, rfl, HP.out, ?_, ?_, ?_⟩
  · exact heap_setCell_same _ p 4 _ _ _ HS3.out
  · exact (Kp.store (L := [p]) p 4 _ (by simp)).heap HR3.out (by simpa using HPG.out.symm)
  · exact (((Chg.of_ext HX.out).trans (hc_mono HC3.out)).trans (Chg.store _ HS3.out (by simp) hBp))
theorem plain_err (p g : Nat) (x : SV) (w : World) (hs : Src w p g x) (he : x.e ≠ 0) :
    Calls Try.prog 45 #[.pointer (some ⟨p, 0, none⟩)] w fun e w' => e = .returned (.int .i64 0) ∧ Ext w w' := by
  have HS := Lib.hid hs
  clear hs
  go_enter Try.func45, Try.ntmps45
  go_wp2_with fail
  have hxa := Ext.alloc w (.cells #[.pointer (some ⟨p, 0, none⟩)] 72)
  have hb := heap_alloc_new w (.cells #[.pointer (some ⟨p, 0, none⟩)] 72 (0, 0))
  generalize w.alloc (.cells #[.pointer (some ⟨p, 0, none⟩)] 72) = w1 at hxa hb ⊢
  generalize w.heap.size = b at hb ⊢
  have hc := heap_cell hb 0
  have HX := Lib.hid hxa
  clear hb hxa
  refine (number_err _ p g x w1 (HS.out.ext HX.out) he).mono ?_
  rintro e _ ⟨rfl, rfl⟩
  go_wp2_with fail
  go_ret
  exact ⟨rfl, HX.out⟩
theorem coded_any (B p g : Nat) (x : SV) (s : ByteArray) (n k : Nat) (w : World) (hs : Src w p g x) (h : Rdr w g s n k) (hk : k ≤ n) (hn : n ≤ 34359738368) (hn8 : n ≤ 8 * s.size) (hsz : s.size ≤ 4294967296) (hB : B ≤ g) (hBp : B ≤ p) (he : x.e = 0) :
    Calls Try.prog 46 #[.pointer (some ⟨p, 0, none⟩)] w fun e w' => ∃ (u m : Nat) (y : Int), e = .returned (.int .i64 (zagN u)) ∧ getB (bitsAt s k (n - k)) = (u, m, y) ∧ Src w' p g { x with e := y } ∧ Rdr w' g s n (k + m) ∧ Chg B [77, 74] w w' := by
  have HS := Lib.hid hs
  have H := Lib.hid h
  have hpg : p ≠ g := by
    rintro rfl
    unfold Src at hs
    unfold Rdr at h
    rw [hs] at h
    cases h
  have HPG := Lib.hid hpg
  have hplt : p < w.heap.size := (Array.getElem?_eq_some_iff.1 hs).1
  have HPL := Lib.hid hplt
  clear hs h hpg hplt
  go_enter Try.func46, Try.ntmps46
  go_wp2_with fail
  have hb := heap_alloc_new w (.cells #[.pointer (some ⟨p, 0, none⟩)] 72 (0, 0))
  have hxa := Ext.alloc w (.cells #[.pointer (some ⟨p, 0, none⟩)] 72)
  generalize w.alloc (.cells #[.pointer (some ⟨p, 0, none⟩)] 72) = w1 at hb hxa ⊢
  generalize w.heap.size = b at hb ⊢
  have hc := heap_cell hb 0
  have HX := Lib.hid hxa
  clear hb hxa
  refine (number_any 51 #[.pointer (some ⟨b, 0, none⟩)] codedQ_call p g x w1 (HS.out.ext HX.out) he _ (codedQ_any B p g b x s n k w1 hc (HS.out.ext HX.out) (H.out.ext HX.out) hk hn hn8 hsz hB)).mono ?_
  rintro e w2 ⟨u, y, w3, rfl, hs3, ⟨m, hp, hr3, hc3⟩, rfl⟩
  have HP := Lib.hid hp
  have HS3 := Lib.hid hs3
  have HR3 := Lib.hid hr3
  have HC3 := Lib.hid hc3
  clear hp hs3 hr3 hc3 hc
  have HU := Lib.hid (getB_lt HP.out)
  go_wp2_with fail
  refine (zag_any u _ HU.out).mono ?_
  rintro e _ ⟨rfl, rfl⟩
  go_wp2_with fail
  go_ret
  refine ⟨u, m, y, rfl, HP.out, ?_, ?_, ?_⟩
  · exact heap_setCell_same _ p 4 _ _ _ HS3.out
  · exact (Kp.store (L := [p]) p 4 _ (by simp)).heap HR3.out (by simpa using HPG.out.symm)
  · exact (((Chg.of_ext HX.out).trans (hc_mono HC3.out)).trans (Chg.store _ HS3.out (by simp) hBp))
theorem coded_err (p g : Nat) (x : SV) (w : World) (hs : Src w p g x) (he : x.e ≠ 0) :
    Calls Try.prog 46 #[.pointer (some ⟨p, 0, none⟩)] w fun e w' => e = .returned (.int .i64 0) ∧ Ext w w' := by
  have HS := Lib.hid hs
  clear hs
  go_enter Try.func46, Try.ntmps46
  go_wp2_with fail
  have hxa := Ext.alloc w (.cells #[.pointer (some ⟨p, 0, none⟩)] 72)
  have hb := heap_alloc_new w (.cells #[.pointer (some ⟨p, 0, none⟩)] 72 (0, 0))
  generalize w.alloc (.cells #[.pointer (some ⟨p, 0, none⟩)] 72) = w1 at hxa hb ⊢
  generalize w.heap.size = b at hb ⊢
  have hc := heap_cell hb 0
  have HX := Lib.hid hxa
  clear hb hxa
  refine (number_err _ p g x w1 (HS.out.ext HX.out) he).mono ?_
  rintro e _ ⟨rfl, rfl⟩
  go_wp2_with fail
  refine (zag_any 0 _ (by decide)).mono ?_
  rintro e _ ⟨rfl, rfl⟩
  rw [show zagN 0 = 0 from rfl]
  go_wp2_with fail
  go_ret
  exact ⟨rfl, HX.out⟩
end Go.Proofs.Ytpdebandcmhbcaa
