/- The statement FileStays, walked. -/
import Derived.Test.YtjmicdehofjmgaaFil1
namespace Go.Proofs.Ytjmicdehofjmgaa
open Go.RowKit Go.Lib Fil
set_option linter.unusedVariables false


/-- Blocks of other types are as they were. -/
def Keeps (w w' : World) : Prop := ∀ (k : Nat) (c : Array Value) (e : TypeId) (f : Nat × Nat), w.heap[k]? = some (.cells c e f) → e ≠ 56 → e ≠ 53 → w'.heap[k]? = some (.cells c e f)
theorem F1.didk {w0 w : World} {g : Nat} {t : St} (h : F1 w0 w g t) {P : Program} {f : FuncId} {args : Array Value} {r : Int × St} (hc : ∀ L, FileAt w g L t → Calls P f args w fun e w' => e = .returned (.int .i64 r.1) ∧ Did w w' g L r.2) (hok : r.2.Ok) :
    Calls P f args w fun e w' => e = .returned (.int .i64 r.1) ∧ F1 w0 w' g r.2 ∧ Keeps w w' := by
  obtain ⟨L, h1, h2, h3, h4⟩ := h
  refine (hc L h2).mono ?_
  rintro e w' ⟨rfl, hk, L', hf, hs⟩
  exact ⟨rfl, ⟨L', hk.to_ext h1 h3, hf, fun k hk => (hs k hk).elim (h3 k) (fun hh => Nat.le_trans h1.size hh), hok⟩, fun k c e f hh he1 he2 => hk.heap hh (h2.other hh he1 he2)⟩
/-- No other text. -/
def Bare (t : St) : Prop := t.other = none ∧ t.old = none
theorem Bare.append {t : St} (h : Bare t) (s : ByteArray) : Bare (appendR t s).2 := by
  unfold appendR
  split <;> exact h
theorem Bare.sync {t : St} (h : Bare t) : Bare (syncT t) := ⟨h.1, rfl⟩
theorem Bare.cut {t : St} (h : Bare t) (n : Int) : Bare (cutR t n).2 := by
  unfold cutR
  split
  · exact h
  · exact ⟨h.1, rfl⟩


set_option maxHeartbeats 8000000 in
set_option maxRecDepth 100000 in
theorem fileStays_any (v : Value) (xs : List Op) (keep : Int) (renamed : Bool) (w : World) (h : Row opCells w v xs) (hok : ∀ o ∈ xs, OpOk o) (hk1 : -9223372036854775808 ≤ keep) (hk2 : keep ≤ 9223372036854775807) :
    Calls Try.prog 4 #[v, .int .i64 keep, .bool renamed] w fun e w' => e = .returned (.bool true) ∧ Ext w w' := by
  obtain ⟨A, n, c, rfl, hn, hnc, hc, hr⟩ := h
  unfold maxLen at hc
  have HR := Lib.hid hr
  have HN := Lib.hid hn
  have HOK := Lib.hid hok
  clear hr hn hok
  by_cases hkp : keep < 0
  · have hd : decide (keep < 0) = true := by simpa using hkp
    go_enter Try.func4, Try.ntmps4
    go_wp2_with fail
    refine (new_own w w (Ext.refl _)).mono ?_
    rintro e v0 ⟨g, rfl, h0, _⟩
    have H0 := Lib.hid h0
    clear h0
    go_wp2_with fail
    refine (known_any _).mono ?_
    rintro e v9 ⟨rfl, hx9⟩
    go_wp2_with fail
    go_ret
    exact ⟨rfl, (H0.out.ext).trans hx9⟩
  have hkp0 : 0 ≤ keep := by omega
  clear hkp
  go_enter Try.func4, Try.ntmps4
  go_wp2_with fail
  refine (new_own w w (Ext.refl _)).mono ?_
  rintro e v0 ⟨g, rfl, h0, _⟩
  have H0 := Lib.hid h0
  clear h0
  go_wp2_with fail
  go_loopw [8] (fun i wr => ∃ (k : Nat) (t : St), k ≤ n ∧ k ≤ 60 ∧ i = .int .i64 (k : Int) ∧ F1 w wr g t ∧ Bare t) (fun i _ => n - (intOf i).toNat)
  case atStart => exact ⟨0, _, by omega, by omega, rfl, H0.out, rfl, rfl⟩
  case round =>
    obtain ⟨k, t, hk, hk80, rfl, hb, hba⟩ := hrel
    have HB := Lib.hid hb
    have HBA := Lib.hid hba
    clear hb hba
    by_cases hkn : k < n
    · by_cases hk8 : k < 60
      · obtain ⟨ad, rfl⟩ : ∃ ad, A = some ad := row_some HR.out opC_len (by decide) (by have := HN.out; omega)
        obtain ⟨o, hx⟩ : ∃ o, xs[k]? = some o := ⟨_, List.getElem?_eq_getElem (by have := HN.out; omega)⟩
        have hrw := HR.out.ext HB.out.ext
        have ho := HOK.out o (List.mem_of_getElem? hx)
        obtain ⟨kind, s, nn, mm, ren⟩ := o
        have c0 : wr.cell? (ad.add (k * 5)) = some (.int .i64 kind) := row_cell opC_len hrw k 0 hx rfl
        have c1 : wr.cell? ⟨(ad.add (k * 5)).block, (ad.add (k * 5)).off + 1, none⟩ = some (.string s) := row_field opC_len hrw k 1 (by decide) hx rfl
        have c2 : wr.cell? ⟨(ad.add (k * 5)).block, (ad.add (k * 5)).off + 2, none⟩ = some (.int .i64 nn) := row_field opC_len hrw k 2 (by decide) hx rfl
        have c3 : wr.cell? ⟨(ad.add (k * 5)).block, (ad.add (k * 5)).off + 3, none⟩ = some (.int .i64 mm) := row_field opC_len hrw k 3 (by decide) hx rfl
        have c4 : wr.cell? ⟨(ad.add (k * 5)).block, (ad.add (k * 5)).off + 4, none⟩ = some (.bool ren) := row_field opC_len hrw k 4 (by decide) hx rfl
        obtain ⟨k1, k2, n1, n2, m1, m2, s1⟩ := ho
        simp only at k1 k2 n1 n2 m1 m2 s1
        clear hrw hx
        by_cases q0 : kind = 0
        · subst q0
          by_cases hs : 200 < s.size
          · have hsI : (200 : Int) < (s.size : Int) := by omega
            go_wp2_with fail
            go_roundw
            case rel => exact ⟨k + 1, t, by omega, by omega, by go_num, HB.out.later (Ext.alloc _ _), HBA.out⟩
            case measure => simp [intOf]; omega
          · have hsI : (s.size : Int) ≤ 200 := by omega
            go_wp2_with fail
            refine ((HB.out.later (Ext.alloc _ _)).didk (fun L hf => append_did g L _ s _ hf HB.out.ok s1) (HB.out.ok.append _)).mono ?_
            rintro e v2 ⟨rfl, h2, hk2⟩
            have ho2 := hk2 _ _ _ _ (heap_alloc_new wr _) (by decide) (by decide)
            have d0 := heap_cell ho2 0
            have d1 := heap_cell ho2 1
            have d2 := heap_cell ho2 2
            have H2 := Lib.hid h2
            clear h2 hk2 ho2 c0 c1 c2 c3 c4
            go_wp2_with fail
            go_roundw
            case rel => exact ⟨k + 1, _, by omega, by omega, by go_num, H2.out, HBA.out.append _⟩
            case measure => simp [intOf]; omega
        by_cases q1 : kind = 1
        · subst q1
          go_wp2_with fail
          refine ((HB.out.later (Ext.alloc _ _)).didk (fun L hf => (show Calls _ _ _ _ fun e w' => e = .returned (.int .i64 (((0 : Int), syncT t)).1) ∧ Did _ w' g L ((0 : Int), syncT t).2 from sync_any g L _ _ hf)) HB.out.ok.sync).mono ?_
          rintro e v2 ⟨rfl, h2, hk2⟩
          have ho2 := hk2 _ _ _ _ (heap_alloc_new wr _) (by decide) (by decide)
          have d0 := heap_cell ho2 0
          have d1 := heap_cell ho2 1
          have d2 := heap_cell ho2 2
          have H2 := Lib.hid h2
          clear h2 hk2 ho2 c0 c1 c2 c3 c4
          go_wp2_with fail
          go_roundw
          case rel => exact ⟨k + 1, _, by omega, by omega, by go_num, H2.out, HBA.out.sync⟩
          case measure => simp [intOf]; omega
        by_cases q2 : kind = 2
        · subst q2
          go_wp2_with fail
          refine ((HB.out.later (Ext.alloc _ _)).didk (fun L hf => cut_any g L _ nn _ hf n1 n2) (HB.out.ok.cut _)).mono ?_
          rintro e v2 ⟨rfl, h2, hk2⟩
          have ho2 := hk2 _ _ _ _ (heap_alloc_new wr _) (by decide) (by decide)
          have d0 := heap_cell ho2 0
          have d1 := heap_cell ho2 1
          have d2 := heap_cell ho2 2
          have H2 := Lib.hid h2
          clear h2 hk2 ho2 c0 c1 c2 c3 c4
          go_wp2_with fail
          go_roundw
          case rel => exact ⟨k + 1, _, by omega, by omega, by go_num, H2.out, HBA.out.cut _⟩
          case measure => simp [intOf]; omega
        have e0 : (kind == 0) = false := by simpa using q0
        have e1 : (kind == 1) = false := by simpa using q1
        have e2 : (kind == 2) = false := by simpa using q2
        clear q0 q1 q2
        go_wp2_with fail
        go_roundw
        case rel => exact ⟨k + 1, t, by omega, by omega, by go_num, HB.out.later (Ext.alloc _ _), HBA.out⟩
        case measure => simp [intOf]; omega
      · have hk82 : 60 ≤ k := by omega
        go_wp2_with fail
        refine (HB.out.text).mono ?_
        rintro e _ ⟨rfl, rfl⟩
        go_wp2_with fail
        refine (HB.out.sure).mono ?_
        rintro e _ ⟨rfl, rfl⟩
        go_wp2_with fail
        have hok1 := HB.out.ok.text.1
        have hok2 := HB.out.ok.text.2
        simp only at hok1 hok2
        obtain ⟨s, sure, oth, old⟩ := t
        obtain ⟨rfl, rfl⟩ : oth = none ∧ old = none := HBA.out
        simp only at hok1 hok2
        obtain ⟨m, hm, hmin⟩ : ∃ m : Nat, keptN s sure keep = m ∧ (sure : Int) + (if (s.size : Int) - (sure : Int) < keep then (s.size : Int) - (sure : Int) else keep) = (m : Int) := ⟨_, rfl, by unfold keptN; split <;> omega⟩
        have hml : m ≤ s.size := by rw [← hm]; exact keptN_le _ _ _ hok2
        have hms : (cutS s m).size = m := cutS_size _ _ hml
        have k5 : crashR ⟨s, sure, none, none⟩ keep 0 renamed = (0, ⟨cutS s m, m, none, none⟩) := by
          unfold crashR
          rw [if_neg (by omega)]
          show (0, syncT ⟨cutS s (keptN s sure keep), _, none, none⟩) = _
          rw [hm]
          show (0, (⟨cutS s m, (cutS s m).size, none, none⟩ : St)) = _
          rw [hms]
        have K5 := Lib.hid k5
        have hex := extract_cut s m
        have hm0 : (0 : Int) ≤ (m : Int) := by omega
        have hmI : (m : Int) ≤ (s.size : Int) := by omega
        clear hm k5
        refine (HB.out.did (fun L hf => crash_any g L _ _ _ _ wr hf HB.out.ok (by omega) hk2 (by decide) (by decide)) K5.out (ok_of K5.out (HB.out.ok.crash _ _ _))).mono ?_
        rintro e v3 ⟨rfl, h3⟩
        have H3 := Lib.hid h3
        clear h3
        go_wp2_with fail
        refine (H3.out.text).mono ?_
        rintro e _ ⟨rfl, rfl⟩
        go_wp2_with fail
        all_goals
          refine (H3.out.sure).mono ?_
          rintro e _ ⟨rfl, rfl⟩
          go_wp2_with fail
          refine (known_any _).mono ?_
          rintro e v9 ⟨rfl, hx9⟩
          go_wp2_with fail
          go_ret
          exact ⟨rfl, (H3.out.ext).trans hx9⟩
    · go_wp2_with fail
      refine (HB.out.text).mono ?_
      rintro e _ ⟨rfl, rfl⟩
      go_wp2_with fail
      refine (HB.out.sure).mono ?_
      rintro e _ ⟨rfl, rfl⟩
      go_wp2_with fail
      have hok1 := HB.out.ok.text.1
      have hok2 := HB.out.ok.text.2
      simp only at hok1 hok2
      obtain ⟨s, sure, oth, old⟩ := t
      obtain ⟨rfl, rfl⟩ : oth = none ∧ old = none := HBA.out
      simp only at hok1 hok2
      obtain ⟨m, hm, hmin⟩ : ∃ m : Nat, keptN s sure keep = m ∧ (sure : Int) + (if (s.size : Int) - (sure : Int) < keep then (s.size : Int) - (sure : Int) else keep) = (m : Int) := ⟨_, rfl, by unfold keptN; split <;> omega⟩
      have hml : m ≤ s.size := by rw [← hm]; exact keptN_le _ _ _ hok2
      have hms : (cutS s m).size = m := cutS_size _ _ hml
      have k5 : crashR ⟨s, sure, none, none⟩ keep 0 renamed = (0, ⟨cutS s m, m, none, none⟩) := by
        unfold crashR
        rw [if_neg (by omega)]
        show (0, syncT ⟨cutS s (keptN s sure keep), _, none, none⟩) = _
        rw [hm]
        show (0, (⟨cutS s m, (cutS s m).size, none, none⟩ : St)) = _
        rw [hms]
      have K5 := Lib.hid k5
      have hex := extract_cut s m
      have hm0 : (0 : Int) ≤ (m : Int) := by omega
      have hmI : (m : Int) ≤ (s.size : Int) := by omega
      clear hm k5
      refine (HB.out.did (fun L hf => crash_any g L _ _ _ _ wr hf HB.out.ok (by omega) hk2 (by decide) (by decide)) K5.out (ok_of K5.out (HB.out.ok.crash _ _ _))).mono ?_
      rintro e v3 ⟨rfl, h3⟩
      have H3 := Lib.hid h3
      clear h3
      go_wp2_with fail
      refine (H3.out.text).mono ?_
      rintro e _ ⟨rfl, rfl⟩
      go_wp2_with fail
      all_goals
        refine (H3.out.sure).mono ?_
        rintro e _ ⟨rfl, rfl⟩
        go_wp2_with fail
        refine (known_any _).mono ?_
        rintro e v9 ⟨rfl, hx9⟩
        go_wp2_with fail
        go_ret
        exact ⟨rfl, (H3.out.ext).trans hx9⟩
end Go.Proofs.Ytjmicdehofjmgaa
