/- The walks of the statements of layer 8: what is asked of them at all (light), the fixed calls (known), and the six statements. -/
import Derived.Test.YtafnahmdjmobcaaSetsQ
namespace Go.Proofs.Ytafnahmdjmobcaa
open Go.RowKit Sets

def lightB (xs : List ByteArray) : Bool := decide (xs.length ≤ 40) && xs.all fun s => decide (s.size ≤ 100)
def lightTo (xs : List ByteArray) (k : Nat) : Prop := ∀ x ∈ xs.take k, x.size ≤ 100

set_option maxHeartbeats 400000 in
theorem light_txt (v : Value) (xs : List ByteArray) (w : World) (h : Txt w v xs) (hf : Fit xs) :
    Calls Try.prog 9 #[v] w fun e w' => e = .returned (.bool (lightB xs)) ∧ w = w' := by
  obtain ⟨A, n, c, rfl, h1, h2, h3, h4⟩ := h
  have HN := Lib.hid h1
  have HF := Lib.hid hf
  clear h1 hf
  by_cases h40 : n ≤ 40
  · go_enter Try.func9, Try.ntmps9
    go_wp2
    go_loop [3] (fun i => ∃ k : Nat, k ≤ n ∧ i = .int .i64 k ∧ Hid (lightTo xs k)) (fun i => n - (intOf i).toNat)
    case atStart => exact ⟨0, Nat.zero_le _, rfl, by intro x hx; simp at hx⟩
    case round =>
      obtain ⟨k, hk, rfl, HH⟩ := hrel
      by_cases hlt : k < n
      · obtain ⟨ad, rfl, hc⟩ := h4.some_ (by rw [List.length_map, HN.out]; omega)
        have hc1 := hc k _ (txt_get xs k (by rw [HN.out]; exact hlt))
        have hf1 := HF.out.at_ k (by rw [HN.out]; exact hlt)
        have hst := take_step xs k (by rw [HN.out]; exact hlt)
        have hmem := getD_mem xs k (by rw [HN.out]; exact hlt)
        generalize xs.getD k ByteArray.empty = x at hc1 hf1 hst hmem
        have HS := Lib.hid hst
        have HM := Lib.hid hmem
        clear hst hmem hc
        by_cases h100 : x.size ≤ 100
        · go_wp2
          go_round
          case rel =>
            refine ⟨k + 1, by omega, by go_num, ?_⟩
            intro y hy
            rw [HS.out, List.mem_append] at hy
            rcases hy with hy | hy
            · exact HH.out y hy
            · simp at hy; subst hy; exact h100
          case measure => simp [intOf]; omega
        · go_wp2
          go_ret
          refine ⟨ret_bool ?_, rfl⟩
          have : xs.all (fun s => decide (s.size ≤ 100)) = false := by
            rw [← Bool.not_eq_true, List.all_eq_true]
            intro h
            have := h x HM.out
            simp at this
            omega
          rw [lightB, this, Bool.and_false]
      · go_wp2
        go_ret
        refine ⟨ret_bool ?_, rfl⟩
        have h5 : xs.all (fun s => decide (s.size ≤ 100)) = true := by
          rw [List.all_eq_true]
          intro y hy
          have := HH.out y (by rw [List.take_of_length_le (by rw [HN.out]; omega)]; exact hy)
          simpa using this
        rw [lightB, h5, HN.out]
        simp [h40]
  · go_enter Try.func9, Try.ntmps9
    go_wp2
    go_ret
    refine ⟨ret_bool ?_, rfl⟩
    rw [lightB, HN.out]
    simp [h40]

theorem light_yes (v : Value) (xs : List ByteArray) (h : lightB xs = true) (w : World) (ht : Txt w v xs) (hf : Fit xs) :
    Calls Try.prog 9 #[v] w fun e w' => e = .returned (.bool true) ∧ w = w' := by
  rw [← h]; exact light_txt v xs w ht hf
theorem light_no (v : Value) (xs : List ByteArray) (h : lightB xs = false) (w : World) (ht : Txt w v xs) (hf : Fit xs) :
    Calls Try.prog 9 #[v] w fun e w' => e = .returned (.bool false) ∧ w = w' := by
  rw [← h]; exact light_txt v xs w ht hf
theorem light_len {xs : List ByteArray} (h : lightB xs = true) : xs.length ≤ 40 := by simp [lightB] at h; exact h.1

theorem right_ext (v : Value) (xs : List ByteArray) (p : Bool) (hp : rise xs = p) (w : World) (h : Txt w v xs) :
    Calls Try.prog 12 #[v] w fun e w' => e = .returned (.bool p) ∧ Ext w w' := by
  subst hp
  refine (right_txt v xs w h).mono ?_
  rintro e w' ⟨rfl, q, rfl⟩
  exact ⟨rfl, Ext.drewN _ _⟩
theorem has_ext (v : Value) (xs : List ByteArray) (s : ByteArray) (p : Bool) (hp : hasB xs s = p) (w : World) (h : Txt w v xs) :
    Calls Try.prog 16 #[v, .string s] w fun e w' => e = .returned (.bool p) ∧ Ext w w' := by
  subst hp
  refine (has_txt v xs s w h).mono ?_
  rintro e w' ⟨rfl, rfl⟩
  exact ⟨rfl, Ext.refl _⟩

def tA : ByteArray := ⟨#[97]⟩
def tB : ByteArray := ⟨#[98]⟩
def tC : ByteArray := ⟨#[99]⟩
theorem k1 : mk andK [tA, tB] [tB, tC] = [tB] := by decide +kernel
theorem k2 : mk orK [tA, tB] [tB, tC] = [tA, tB, tC] := by decide +kernel
theorem k3 : mk lessK [tA, tB] [tB, tC] = [tA] := by decide +kernel
theorem k4 : norm [tC, tA, tC] = [tA, tC] := by decide +kernel
theorem k5 : hasB [tA, tB] tB = true := by decide +kernel
theorem k6 : hasB [tA, tB] tC = false := by decide +kernel
theorem k7 : mk orK [tB, tC] [tA] = [tA, tB, tC] := by decide +kernel
theorem k8 : mk lessK [tB, tC] [tB] = [tC] := by decide +kernel
theorem k9 : rise [tA, tB] = true := by decide +kernel
theorem k10 : rise [tA, tA] = false := by decide +kernel

theorem txt_new (w : World) (xs : List ByteArray) (n : Nat) (hn : xs.length = n) (hb : n ≤ 1000) (t : TypeId) (cs : Array Value) (hcs : cs.toList = xs.map .string) (g : Nat) (hg : g = w.heap.size) :
    Txt (w.alloc (.cells cs t)) (.slice (some ⟨g, 0, none⟩) n n) xs := by
  subst hg
  refine ⟨_, n, n, rfl, hn, Nat.le_refl _, by omega, ?_⟩
  rw [← hcs]
  exact Rd.new w cs t


set_option maxRecDepth 100000 in
set_option maxHeartbeats 2000000 in
theorem known_any (w : World) : Calls Try.prog 10 #[] w fun e w' => e = .returned (.bool true) ∧ Ext w w' := by
  go_enter Try.func10, Try.ntmps10
  go_wp2_with fail
  have HA : Txt ((w.alloc (.cells #[.string tA, .string tB] 9)).alloc (.cells #[.string tB, .string tC] 9)) (.slice (some ⟨w.heap.size, 0, none⟩) 2 2) [tA, tB] :=
    (txt_new w [tA, tB] 2 rfl (by omega) 9 _ rfl _ rfl).ext (Ext.alloc _ _)
  have HB : Txt ((w.alloc (.cells #[.string tA, .string tB] 9)).alloc (.cells #[.string tB, .string tC] 9)) (.slice (some ⟨w.heap.size + 1, 0, none⟩) 2 2) [tB, tC] :=
    txt_new (w.alloc (.cells #[.string tA, .string tB] 9)) [tB, tC] 2 rfl (by omega) 9 _ rfl _ (by simp)
  have E0 : Ext w ((w.alloc (.cells #[.string tA, .string tB] 9)).alloc (.cells #[.string tB, .string tC] 9)) := (Ext.alloc _ _).alloc_ _
  have E := Ext.refl ((w.alloc (.cells #[.string tA, .string tB] 9)).alloc (.cells #[.string tB, .string tC] 9))
  refine (and_txt _ _ _ _ _ (HA.ext E) (HB.ext E) (by simp)).mono ?_
  rintro e w1 ⟨u1, rfl, hu1, ew1⟩
  replace E := E.trans ew1
  go_wp2_with fail
  refine (same_yes _ _ _ _ _ (hu1.ext (Ext.alloc _ _)) (txt_new _ [tB] 1 rfl (by omega) 9 _ rfl _ rfl) k1).mono ?_
  rintro e w2 ⟨rfl, ew2⟩
  replace E := (E.alloc_ _).trans ew2
  go_wp2_with fail
  refine (or_txt _ _ _ _ _ (HA.ext E) (HB.ext E) (by simp)).mono ?_
  rintro e w3 ⟨u3, rfl, hu3, ew3⟩
  replace E := E.trans ew3
  go_wp2_with fail
  refine (same_yes _ _ _ _ _ (hu3.ext (Ext.alloc _ _)) (txt_new _ [tA, tB, tC] 3 rfl (by omega) 9 _ rfl _ rfl) k2).mono ?_
  rintro e w4 ⟨rfl, ew4⟩
  replace E := (E.alloc_ _).trans ew4
  go_wp2_with fail
  refine (less_txt _ _ _ _ _ (HA.ext E) (HB.ext E) (by simp)).mono ?_
  rintro e w5 ⟨u5, rfl, hu5, ew5⟩
  replace E := E.trans ew5
  go_wp2_with fail
  refine (same_yes _ _ _ _ _ (hu5.ext (Ext.alloc _ _)) (txt_new _ [tA] 1 rfl (by omega) 9 _ rfl _ rfl) k3).mono ?_
  rintro e w6 ⟨rfl, ew6⟩
  replace E := (E.alloc_ _).trans ew6
  go_wp2_with fail
  refine (of_txt _ _ _ (txt_new _ [tC, tA, tC] 3 rfl (by omega) 9 _ rfl _ rfl) (by simp)).mono ?_
  rintro e w7 ⟨u7, rfl, hu7, ew7⟩
  replace E := (E.alloc_ _).trans ew7
  go_wp2_with fail
  refine (same_yes _ _ _ _ _ (hu7.ext (Ext.alloc _ _)) (txt_new _ [tA, tC] 2 rfl (by omega) 9 _ rfl _ rfl) k4).mono ?_
  rintro e w8 ⟨rfl, ew8⟩
  replace E := (E.alloc_ _).trans ew8
  go_wp2_with fail
  refine (has_ext _ _ tB true k5 _ (HA.ext E)).mono ?_
  rintro e w9 ⟨rfl, ew9⟩
  replace E := E.trans ew9
  go_wp2_with fail
  refine (has_ext _ _ tC false k6 _ (HA.ext E)).mono ?_
  rintro e w10 ⟨rfl, ew10⟩
  replace E := E.trans ew10
  go_wp2_with fail
  refine (add_txt _ tA _ _ (HB.ext E) (by simp)).mono ?_
  rintro e w11 ⟨u11, rfl, hu11, ew11⟩
  replace E := E.trans ew11
  go_wp2_with fail
  refine (same_yes _ _ _ _ _ (hu11.ext (Ext.alloc _ _)) (txt_new _ [tA, tB, tC] 3 rfl (by omega) 9 _ rfl _ rfl) k7).mono ?_
  rintro e w12 ⟨rfl, ew12⟩
  replace E := (E.alloc_ _).trans ew12
  go_wp2_with fail
  refine (del_txt _ tB _ _ (HB.ext E) (by simp)).mono ?_
  rintro e w13 ⟨u13, rfl, hu13, ew13⟩
  replace E := E.trans ew13
  go_wp2_with fail
  refine (same_yes _ _ _ _ _ (hu13.ext (Ext.alloc _ _)) (txt_new _ [tC] 1 rfl (by omega) 9 _ rfl _ rfl) k8).mono ?_
  rintro e w14 ⟨rfl, ew14⟩
  replace E := (E.alloc_ _).trans ew14
  go_wp2_with fail
  refine (right_ext _ _ true k9 _ (HA.ext E)).mono ?_
  rintro e w15 ⟨rfl, ew15⟩
  replace E := E.trans ew15
  go_wp2_with fail
  refine (right_ext _ _ false k10 _ (txt_new _ [tA, tA] 2 rfl (by omega) 9 _ rfl _ rfl)).mono ?_
  rintro e w16 ⟨rfl, ew16⟩
  replace E := (E.alloc_ _).trans ew16
  go_wp2_with fail
  go_ret
  exact ⟨rfl, E0.trans E⟩

end Go.Proofs.Ytafnahmdjmobcaa
