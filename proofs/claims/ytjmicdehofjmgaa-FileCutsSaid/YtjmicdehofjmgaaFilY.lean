/- The statements FileNil, FileCuts, walked. -/
import Derived.Test.YtjmicdehofjmgaaFilX
namespace Go.Proofs.Ytjmicdehofjmgaa
open Go.RowKit Go.Lib Fil
set_option linter.unusedVariables false

theorem nil_append (s : ByteArray) (w : World) : Calls Try.prog 11 #[.pointer none, .string s] w fun e w' => e = .returned (.int .i64 11) ∧ w = w' := by
  go_enter Try.func11, Try.ntmps11
  go_wp2_with fail
  go_ret
  exact ⟨rfl, rfl⟩
theorem nil_lay (s : ByteArray) (w : World) : Calls Try.prog 12 #[.pointer none, .string s] w fun e w' => e = .returned (.int .i64 11) ∧ w = w' := by
  go_enter Try.func12, Try.ntmps12
  go_wp2_with fail
  go_ret
  exact ⟨rfl, rfl⟩
theorem nil_cut (n : Int) (w : World) : Calls Try.prog 19 #[.pointer none, .int .i64 n] w fun e w' => e = .returned (.int .i64 11) ∧ w = w' := by
  go_enter Try.func19, Try.ntmps19
  go_wp2_with fail
  go_ret
  exact ⟨rfl, rfl⟩
theorem nil_sync (w : World) : Calls Try.prog 18 #[.pointer none] w fun e w' => e = .returned (.int .i64 11) ∧ w = w' := by
  go_enter Try.func18, Try.ntmps18
  go_wp2_with fail
  go_ret
  exact ⟨rfl, rfl⟩
theorem nil_state (w : World) : Calls Try.prog 31 #[.pointer none] w fun e w' => e = .returned (.int .i64 11) ∧ w = w' := by
  go_enter Try.func31, Try.ntmps31
  go_wp2_with fail
  go_ret
  exact ⟨rfl, rfl⟩
theorem nil_flush (w : World) : Calls Try.prog 21 #[.pointer none] w fun e w' => e = .returned (.int .i64 11) ∧ w = w' := by
  go_enter Try.func21, Try.ntmps21
  go_wp2_with fail
  refine (nil_state w).mono ?_
  rintro e _ ⟨rfl, rfl⟩
  go_wp2_with fail
  go_ret
  exact ⟨rfl, rfl⟩
theorem nil_rename (w : World) : Calls Try.prog 22 #[.pointer none] w fun e w' => e = .returned (.int .i64 11) ∧ w = w' := by
  go_enter Try.func22, Try.ntmps22
  go_wp2_with fail
  refine (nil_state w).mono ?_
  rintro e _ ⟨rfl, rfl⟩
  go_wp2_with fail
  go_ret
  exact ⟨rfl, rfl⟩
theorem nil_other (w : World) : Calls Try.prog 14 #[.pointer none] w fun e w' => e = .returned (.tuple #[.string ⟨#[]⟩, .int .i64 0, .bool false]) ∧ w = w' := by
  go_enter Try.func14, Try.ntmps14
  go_wp2_with fail
  refine (nil_state w).mono ?_
  rintro e _ ⟨rfl, rfl⟩
  go_wp2_with fail
  go_ret3
  exact ⟨rfl, rfl⟩
theorem nil_crash (n m : Int) (b : Bool) (w : World) : Calls Try.prog 20 #[.pointer none, .int .i64 n, .int .i64 m, .bool b] w fun e w' => e = .returned (.int .i64 11) ∧ w = w' := by
  go_enter Try.func20, Try.ntmps20
  go_wp2_with fail
  go_ret
  exact ⟨rfl, rfl⟩
theorem nil_text (w : World) : Calls Try.prog 15 #[.pointer none] w fun e w' => e = .returned (.string ⟨#[]⟩) ∧ w = w' := by
  go_enter Try.func15, Try.ntmps15
  go_wp2_with fail
  go_ret
  exact ⟨rfl, rfl⟩
theorem nil_sure (w : World) : Calls Try.prog 16 #[.pointer none] w fun e w' => e = .returned (.int .i64 0) ∧ w = w' := by
  go_enter Try.func16, Try.ntmps16
  go_wp2_with fail
  go_ret
  exact ⟨rfl, rfl⟩
theorem nil_copy (w : World) : Calls Try.prog 10 #[.pointer none] w fun e w' => e = .returned (.pointer none) ∧ w = w' := by
  go_enter Try.func10, Try.ntmps10
  go_wp2_with fail
  go_ret
  exact ⟨rfl, rfl⟩

set_option maxHeartbeats 4000000 in
set_option maxRecDepth 100000 in
theorem fileNil_any (o : Op) (w : World) : Calls Try.prog 6 #[.agg #[.int .i64 o.kind, .string o.s, .int .i64 o.n, .int .i64 o.m, .bool o.ren]] w fun e w' => e = .returned (.bool true) ∧ Ext w w' := by
  obtain ⟨kind, s, n, m, ren⟩ := o
  go_enter Try.func6, Try.ntmps6
  go_wp2_with (first
    | (go_at_call 11; refine (nil_append _ _).mono ?_; rintro e _ ⟨rfl, rfl⟩)
    | (go_at_call 12; refine (nil_lay _ _).mono ?_; rintro e _ ⟨rfl, rfl⟩)
    | (go_at_call 19; refine (nil_cut _ _).mono ?_; rintro e _ ⟨rfl, rfl⟩)
    | (go_at_call 18; refine (nil_sync _).mono ?_; rintro e _ ⟨rfl, rfl⟩)
    | (go_at_call 21; refine (nil_flush _).mono ?_; rintro e _ ⟨rfl, rfl⟩)
    | (go_at_call 22; refine (nil_rename _).mono ?_; rintro e _ ⟨rfl, rfl⟩)
    | (go_at_call 14; refine (nil_other _).mono ?_; rintro e _ ⟨rfl, rfl⟩)
    | (go_at_call 20; refine (nil_crash _ _ _ _).mono ?_; rintro e _ ⟨rfl, rfl⟩)
    | (go_at_call 15; refine (nil_text _).mono ?_; rintro e _ ⟨rfl, rfl⟩)
    | (go_at_call 16; refine (nil_sure _).mono ?_; rintro e _ ⟨rfl, rfl⟩)
    | (go_at_call 10; refine (nil_copy _).mono ?_; rintro e _ ⟨rfl, rfl⟩)
    | (go_at_call 17; refine (known_any _).mono ?_; rintro e v9 ⟨rfl, hx9⟩))
  go_ret
  exact ⟨rfl, (Ext.alloc w _).trans hx9⟩

theorem empty_app (a : ByteArray) : (⟨#[]⟩ : ByteArray) ++ a = a := by
  apply bytes_ext
  rw [toList_append2]
  simp
theorem append_first (a : ByteArray) (h : a.size ≤ 16777216) : appendR St.empty a = (0, ⟨a, 0, none, none⟩) := by
  unfold appendR
  rw [if_neg (by show ¬ (0 + a.size > 16777216); omega)]
  show (0, (⟨(⟨#[]⟩ : ByteArray) ++ a, 0, none, none⟩ : St)) = _
  rw [empty_app]
theorem append_mk {t : St} {s : ByteArray} (h : t.s.size + s.size ≤ 16777216) : appendR t s = (0, { t with s := t.s ++ s }) := if_neg (by omega)
theorem cut_mk {t : St} {n : Nat} (h : n ≤ t.s.size) : cutR t (n : Int) = (0, ⟨cutS t.s n, n, t.other, none⟩) := by
  unfold cutR
  rw [if_neg (by omega)]
  show (0, (⟨cutS t.s (n : Int).toNat, (cutS t.s (n : Int).toNat).size, t.other, none⟩ : St)) = _
  rw [Int.toNat_natCast, cutS_size _ _ h]
theorem cutS_app (a b : ByteArray) (n : Nat) (h : a.size = n) : cutS (a ++ b) n = a := by
  apply bytes_ext
  rw [cutS, toList_mk, toList_append2, List.take_append_of_le_length (by rw [size_list]; omega), List.take_of_length_le (by rw [size_list]; omega)]

set_option maxHeartbeats 4000000 in
set_option maxRecDepth 100000 in
theorem fileCuts_any (a b : ByteArray) (n : Int) (w : World) (h1 : a.size ≤ 9223372036854775807) (h2 : b.size ≤ 9223372036854775807) (n1 : -9223372036854775808 ≤ n) (n2 : n ≤ 9223372036854775807) :
    Calls Try.prog 7 #[.string a, .string b, .int .i64 n] w fun e w' => e = .returned (.bool true) ∧ Ext w w' := by
  by_cases ha : 300 < a.size
  · have haI : (300 : Int) < (a.size : Int) := by omega
    go_enter Try.func7, Try.ntmps7
    go_wp2_with fail
    refine (new_own w w (Ext.refl _)).mono ?_
    rintro e v0 ⟨g, rfl, h0, _⟩
    have H0 := Lib.hid h0
    clear h0
    go_wp2_with fail
    refine (known_any _).mono ?_
    rintro e v9 ⟨rfl, hx9⟩
    go_wp2_with fail
    go_ret
    exact ⟨rfl, (H0.out.ext).trans hx9⟩
  by_cases hb : 300 < b.size
  · have haI : (a.size : Int) ≤ 300 := by omega
    have hbI : (300 : Int) < (b.size : Int) := by omega
    go_enter Try.func7, Try.ntmps7
    go_wp2_with fail
    refine (new_own w w (Ext.refl _)).mono ?_
    rintro e v0 ⟨g, rfl, h0, _⟩
    have H0 := Lib.hid h0
    clear h0
    go_wp2_with fail
    refine (known_any _).mono ?_
    rintro e v9 ⟨rfl, hx9⟩
    go_wp2_with fail
    go_ret
    exact ⟨rfl, (H0.out.ext).trans hx9⟩
  have haI : (a.size : Int) ≤ 300 := by omega
  have hbI : (b.size : Int) ≤ 300 := by omega
  by_cases hn : n < 0 ∨ (a.size : Int) < n
  · have k1 := Lib.hid (append_first a (by omega))
    have k2 : cutR ⟨a, 0, none, none⟩ n = (1, ⟨a, 0, none, none⟩) := if_pos hn
    have K2 := Lib.hid k2
    clear k2
    rcases hn with hn | hn
    · go_enter Try.func7, Try.ntmps7
      go_wp2_with fail
      refine (new_own w w (Ext.refl _)).mono ?_
      rintro e v0 ⟨g, rfl, h0, _⟩
      have H0 := Lib.hid h0
      clear h0
      go_wp2_with fail
      refine (H0.out.did (fun L hf => append_did g L _ _ v0 hf H0.out.ok h1) k1.out (ok_of k1.out (H0.out.ok.append _))).mono ?_
      rintro e v1 ⟨rfl, h1⟩
      have H1 := Lib.hid h1
      clear h1
      go_wp2_with fail
      refine (H1.out.did (fun L hf => cut_any g L _ _ v1 hf n1 n2) K2.out (ok_of K2.out (H1.out.ok.cut _))).mono ?_
      rintro e v2 ⟨rfl, h2⟩
      have H2 := Lib.hid h2
      clear h2
      go_wp2_with fail
      refine (H2.out.text).mono ?_
      rintro e _ ⟨rfl, rfl⟩
      go_wp2_with fail
      refine (H2.out.sure).mono ?_
      rintro e _ ⟨rfl, rfl⟩
      go_wp2_with fail
      refine (known_any _).mono ?_
      rintro e v9 ⟨rfl, hx9⟩
      go_wp2_with fail
      go_ret
      exact ⟨rfl, (H2.out.ext).trans hx9⟩
    · have hn0 : 0 ≤ n := by omega
      go_enter Try.func7, Try.ntmps7
      go_wp2_with fail
      refine (new_own w w (Ext.refl _)).mono ?_
      rintro e v0 ⟨g, rfl, h0, _⟩
      have H0 := Lib.hid h0
      clear h0
      go_wp2_with fail
      refine (H0.out.did (fun L hf => append_did g L _ _ v0 hf H0.out.ok h1) k1.out (ok_of k1.out (H0.out.ok.append _))).mono ?_
      rintro e v1 ⟨rfl, h1⟩
      have H1 := Lib.hid h1
      clear h1
      go_wp2_with fail
      refine (H1.out.did (fun L hf => cut_any g L _ _ v1 hf n1 n2) K2.out (ok_of K2.out (H1.out.ok.cut _))).mono ?_
      rintro e v2 ⟨rfl, h2⟩
      have H2 := Lib.hid h2
      clear h2
      go_wp2_with fail
      refine (H2.out.text).mono ?_
      rintro e _ ⟨rfl, rfl⟩
      go_wp2_with fail
      refine (H2.out.sure).mono ?_
      rintro e _ ⟨rfl, rfl⟩
      go_wp2_with fail
      refine (known_any _).mono ?_
      rintro e v9 ⟨rfl, hx9⟩
      go_wp2_with fail
      go_ret
      exact ⟨rfl, (H2.out.ext).trans hx9⟩
  · obtain ⟨j, rfl⟩ : ∃ j : Nat, n = j := ⟨n.toNat, by omega⟩
    have hjI : (j : Int) ≤ (a.size : Int) := by omega
    have hj0 : (0 : Int) ≤ (j : Int) := by omega
    have hjn : j ≤ a.size := by omega
    have k1 := Lib.hid (append_first a (by omega))
    have K2 := Lib.hid (cut_mk (t := ⟨a, 0, none, none⟩) hjn)
    have hcs := cutS_size a j hjn
    have K3 := Lib.hid (append_mk (t := ⟨cutS a j, j, none, none⟩) (s := b) (by show (cutS a j).size + b.size ≤ _; omega))
    have k4 : crashR ⟨cutS a j ++ b, j, none, none⟩ 0 0 true = (0, ⟨cutS a j, j, none, none⟩) := by
      have hk : keptN (cutS a j ++ b) j 0 = j := by unfold keptN; simp
      show (0, (⟨cutS (cutS a j ++ b) (keptN (cutS a j ++ b) j 0), (cutS (cutS a j ++ b) (keptN (cutS a j ++ b) j 0)).size, none, none⟩ : St)) = _
      rw [hk, cutS_app _ _ _ hcs, hcs]
    have K4 := Lib.hid k4
    have hex := extract_cut a j
    have hcc : ¬ (9223372036854775807 < (cutS a j).size + b.size) := by omega
    clear k4 hn hcs
    go_enter Try.func7, Try.ntmps7
    go_wp2_with fail
    refine (new_own w w (Ext.refl _)).mono ?_
    rintro e v0 ⟨g, rfl, h0, _⟩
    have H0 := Lib.hid h0
    clear h0
    go_wp2_with fail
    refine (H0.out.did (fun L hf => append_did g L _ _ v0 hf H0.out.ok h1) k1.out (ok_of k1.out (H0.out.ok.append _))).mono ?_
    rintro e v1 ⟨rfl, h1⟩
    have H1 := Lib.hid h1
    clear h1
    go_wp2_with fail
    refine (H1.out.did (fun L hf => cut_any g L _ _ v1 hf n1 n2) K2.out (ok_of K2.out (H1.out.ok.cut _))).mono ?_
    rintro e v2 ⟨rfl, h2⟩
    have H2 := Lib.hid h2
    clear h2
    go_wp2_with fail
    refine (H2.out.sure).mono ?_
    rintro e _ ⟨rfl, rfl⟩
    go_wp2_with fail
    refine (H2.out.did (fun L hf => append_did g L _ _ v2 hf H2.out.ok h2) K3.out (ok_of K3.out (H2.out.ok.append _))).mono ?_
    rintro e v3 ⟨rfl, h3⟩
    have H3 := Lib.hid h3
    clear h3
    go_wp2_with fail
    refine (H3.out.copy).mono ?_
    rintro e v4 ⟨g2, rfl, h4⟩
    have H4 := Lib.hid h4
    clear h4
    go_wp2_with fail
    refine (H4.out.did (fun L hf => crash_any g L _ _ _ _ v4 hf H4.out.one.ok (by decide) (by decide) (by decide) (by decide)) K4.out (ok_of K4.out (H4.out.one.ok.crash _ _ _))).mono ?_
    rintro e v5 ⟨rfl, h5⟩
    have H5 := Lib.hid h5
    clear h5
    go_wp2_with fail
    go_still_tail 28, (by kernel_rfl)
    have h6 := H5.out.later (Ext.drew v5)
    have H6 := Lib.hid h6
    clear h6
    still_call ((H6.out.two.text).mono fun _ _ ⟨a, b⟩ => ⟨a, b.symm⟩)
    repeat still_step
    still_call ((H6.out.two.sure).mono fun _ _ ⟨a, b⟩ => ⟨a, b.symm⟩)
    repeat still_step
    still_call ((H6.out.one.text).mono fun _ _ ⟨a, b⟩ => ⟨a, b.symm⟩)
    repeat still_step
    refine wpStill_nil ?_
    go_wp2_with fail
    refine (known_any _).mono ?_
    rintro e v9 ⟨rfl, hx9⟩
    go_wp2_with fail
    go_ret
    exact ⟨rfl, (H6.out.ext).trans hx9⟩
end Go.Proofs.Ytjmicdehofjmgaa
