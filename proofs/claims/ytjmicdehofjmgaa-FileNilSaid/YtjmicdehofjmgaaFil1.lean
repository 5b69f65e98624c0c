/- The statement FilePlays, walked. -/
import Derived.Test.YtjmicdehofjmgaaFilZ
import Derived.Test.YtjmicdehofjmgaaRow
namespace Go.Proofs.Ytjmicdehofjmgaa
open Go.RowKit Go.Lib Fil
set_option linter.unusedVariables false


/-- A file and the document's file, alike, of the call's own. -/
def BothI (w0 w : World) (rg g : Nat) (t : St) : Prop := F1 w0 w g t ∧ RefAt w rg t ∧ w0.heap.size ≤ rg
/-- A file that is lost, its copy, the document's file. -/
def BothC (w0 w : World) (rg g : Nat) (t : St) (g2 : Nat) (t2 : St) : Prop := F2 w0 w g t g2 t2 ∧ RefAt w rg t2 ∧ w0.heap.size ≤ rg
theorem BothI.later {w0 w w' : World} {rg g : Nat} {t : St} (h : BothI w0 w rg g t) (hx : Ext w w') : BothI w0 w' rg g t := ⟨h.1.later hx, h.2.1.ext hx, h.2.2⟩
theorem BothC.later {w0 w w' : World} {rg g g2 : Nat} {t t2 : St} (h : BothC w0 w rg g t g2 t2) (hx : Ext w w') : BothC w0 w' rg g t g2 t2 := ⟨h.1.later hx, h.2.1.ext hx, h.2.2⟩
theorem BothC.second {w0 w : World} {rg g g2 : Nat} {t t2 : St} (h : BothC w0 w rg g t g2 t2) : BothI w0 w rg g2 t2 := ⟨h.1.two, h.2.1, h.2.2⟩
theorem BothC.did {w0 w : World} {rg g g2 : Nat} {t t2 : St} (h : BothC w0 w rg g t g2 t2) {P : Program} {f : FuncId} {args : Array Value} {r : Int × St} (hc : ∀ L, FileAt w g L t → Calls P f args w fun e w' => e = .returned (.int .i64 r.1) ∧ Did w w' g L r.2) (hok : r.2.Ok) :
    Calls P f args w fun e w' => e = .returned (.int .i64 r.1) ∧ BothC w0 w' rg g r.2 g2 t2 := by
  obtain ⟨⟨L, L2, h1, ⟨h2, h3, h4⟩, ⟨h5, h6, h7⟩, hd⟩, hr, hrg⟩ := h
  refine (hc L h2).mono ?_
  rintro e w' ⟨rfl, hk, L', hf, hs⟩
  exact ⟨rfl, ⟨L', L2, hk.to_ext h1 h3, ⟨hf, fun k hk => (hs k hk).elim (h3 k) (fun hh => Nat.le_trans h1.size hh), hok⟩, ⟨h5.kp hk h2.nob hd, h6, h7⟩, fun k hk hk2 => (hs k hk2).elim (hd k hk) (fun hh => by have := h5.lt k hk; omega)⟩,
    hr.kp hk (h2.other hr (by decide) (by decide)), hrg⟩
theorem BothI.copy {w0 w : World} {rg g : Nat} {t : St} (h : BothI w0 w rg g t) : Calls Try.prog 10 #[.pointer (some ⟨g, 0, none⟩)] w fun e w' => ∃ g', e = .returned (.pointer (some ⟨g', 0, none⟩)) ∧ BothC w0 w' rg g t g' t := by
  obtain ⟨⟨L, h1, h2, h3, h4⟩, hr, hrg⟩ := h
  refine (copy_any g L t w h2 h4).mono ?_
  rintro e w' ⟨g', L', rfl, hx, hf, hL⟩
  refine ⟨g', rfl, ⟨L, L', h1.trans hx, ⟨h2.ext hx, h3, h4⟩, ⟨hf, fun k hk => Nat.le_trans h1.size (hL k hk), h4⟩, fun k hk hk2 => ?_⟩, hr.ext hx, hrg⟩
  have := hL k hk
  have := h2.lt k hk2
  omega
theorem BothI.do {w0 w : World} {rg g : Nat} {t : St} (h : BothI w0 w rg g t) (o : Op) (ho : OpOk o) (hs : o.s.size ≤ 200) (hk0 : 0 ≤ o.kind) (hk6 : o.kind ≤ 6) :
    Calls Try.prog 13 #[.pointer (some ⟨g, 0, none⟩), .pointer (some ⟨rg, 0, none⟩), .agg #[.int .i64 o.kind, .string o.s, .int .i64 o.n, .int .i64 o.m, .bool o.ren]] w fun e w' => e = .returned (.bool true) ∧ BothI w0 w' rg g (stepR t o).2 := by
  obtain ⟨⟨L, h1, h2, h3, h4⟩, hr, hrg⟩ := h
  refine (do_any g rg L t o w h2 hr h4 ho hs hk0 hk6).mono ?_
  rintro e w' ⟨rfl, L', hf, hr', hk, hsb⟩
  refine ⟨rfl, ⟨L', hk.to_ext h1 (fun k hk => ?_), hf, fun k hk => (hsb k hk).elim (h3 k) (fun hh => Nat.le_trans h1.size hh), St.Ok.step h4 o⟩, hr', hrg⟩
  simp only [List.mem_cons] at hk
  rcases hk with rfl | hk
  · exact hrg
  · exact h3 k hk

theorem opC_len (o : Op) : (opCells o).length = 5 := rfl

set_option maxHeartbeats 8000000 in
set_option maxRecDepth 100000 in
theorem filePlays_any (v : Value) (xs : List Op) (w : World) (h : Row opCells w v xs) (hok : ∀ o ∈ xs, OpOk o) :
    Calls Try.prog 3 #[v] w fun e w' => e = .returned (.bool true) ∧ Ext w w' := by
  obtain ⟨A, n, c, rfl, hn, hnc, hc, hr⟩ := h
  unfold maxLen at hc
  have HR := Lib.hid hr
  have HN := Lib.hid hn
  have HOK := Lib.hid hok
  clear hr hn hok
  go_enter Try.func3, Try.ntmps3
  go_wp2_with fail
  refine (new_own w w (Ext.refl _)).mono ?_
  rintro e v0 ⟨g0, rfl, h0, hx0⟩
  have H0 := Lib.hid h0
  have HX0 := Lib.hid hx0
  clear h0 hx0
  go_wp2_with fail
  have hb0 : BothI w (v0.alloc (.cells #[.string ⟨#[]⟩, .int .i64 0, .string ⟨#[]⟩, .int .i64 0, .bool false, .string ⟨#[]⟩, .int .i64 0, .bool false] 27)) v0.heap.size g0 St.empty :=
    ⟨H0.out.later (Ext.alloc v0 _), heap_alloc_new v0 _, HX0.out.size⟩
  generalize v0.alloc (.cells #[.string ⟨#[]⟩, .int .i64 0, .string ⟨#[]⟩, .int .i64 0, .bool false, .string ⟨#[]⟩, .int .i64 0, .bool false] 27) = v1 at hb0 ⊢
  generalize v0.heap.size = rg at hb0 ⊢
  have HB0 := Lib.hid hb0
  clear hb0
  go_loopw [3, 5] (fun f i wr => ∃ (k g : Nat) (t : St), k ≤ n ∧ k ≤ 80 ∧ i = .int .i64 (k : Int) ∧ f = .pointer (some ⟨g, 0, none⟩) ∧ BothI w wr rg g t) (fun _ i _ => n - (intOf i).toNat)
  case atStart => exact ⟨0, g0, _, by omega, by omega, rfl, rfl, HB0.out⟩
  case round =>
    obtain ⟨k, g, t, hk, hk80, rfl, rfl, hb⟩ := hrel
    have HB := Lib.hid hb
    clear hb
    by_cases hkn : k < n
    · by_cases hk8 : k < 80
      · obtain ⟨ad, rfl⟩ : ∃ ad, A = some ad := row_some HR.out opC_len (by decide) (by have := HN.out; omega)
        obtain ⟨o, hx⟩ : ∃ o, xs[k]? = some o := ⟨_, List.getElem?_eq_getElem (by have := HN.out; omega)⟩
        have hrw := HR.out.ext HB.out.1.ext
        have ho := HOK.out o (List.mem_of_getElem? hx)
        obtain ⟨kind, s, nn, mm, ren⟩ := o
        have c0 : wr.cell? (ad.add (k * 5)) = some (.int .i64 kind) := row_cell opC_len hrw k 0 hx rfl
        have c1 : wr.cell? ⟨(ad.add (k * 5)).block, (ad.add (k * 5)).off + 1, none⟩ = some (.string s) := row_field opC_len hrw k 1 (by decide) hx rfl
        have c2 : wr.cell? ⟨(ad.add (k * 5)).block, (ad.add (k * 5)).off + 2, none⟩ = some (.int .i64 nn) := row_field opC_len hrw k 2 (by decide) hx rfl
        have c3 : wr.cell? ⟨(ad.add (k * 5)).block, (ad.add (k * 5)).off + 3, none⟩ = some (.int .i64 mm) := row_field opC_len hrw k 3 (by decide) hx rfl
        have c4 : wr.cell? ⟨(ad.add (k * 5)).block, (ad.add (k * 5)).off + 4, none⟩ = some (.bool ren) := row_field opC_len hrw k 4 (by decide) hx rfl
        have HO := Lib.hid ho
        obtain ⟨k1, k2, n1, n2, m1, m2, s1⟩ := ho
        simp only at k1 k2 n1 n2 m1 m2 s1
        clear hrw hx
        by_cases hs : 200 < s.size
        · have hsI : (200 : Int) < (s.size : Int) := by omega
          go_wp2_with fail
          go_roundw
          case rel => exact ⟨k + 1, g, t, by omega, by omega, by go_num, rfl, HB.out.later (Ext.alloc _ _)⟩
          case measure => simp [intOf]; omega
        · have hsI : (s.size : Int) ≤ 200 := by omega
          by_cases hkind : 0 ≤ kind ∧ kind ≤ 6
          · obtain ⟨hk0, hk6⟩ := hkind
            have hd1 : decide (kind < 0) = false := by simpa using hk0
            have hd2 : decide (6 < kind) = false := by simpa using hk6
            go_wp2_with fail
            refine ((HB.out.later (Ext.alloc _ _)).do ⟨kind, s, nn, mm, ren⟩ HO.out (by show s.size ≤ 200; omega) hk0 hk6).mono ?_
            rintro e v5 ⟨rfl, h5⟩
            have H5 := Lib.hid h5
            clear h5 c0 c1 c2 c3 c4
            go_wp2_with fail
            refine ((H5).out.1.other).mono ?_
            rintro e v6 ⟨rfl, hx6⟩
            have hb6 := (H5).out.later hx6
            have HB6 := Lib.hid hb6
            have r0 := heap_cell hb6.2.1 0
            have r1 := heap_cell hb6.2.1 1
            have r2 := heap_cell hb6.2.1 2
            have r3 := heap_cell hb6.2.1 3
            have r4 := heap_cell hb6.2.1 4
            clear hx6 hb6
            go_wp2_with fail
            go_quiet ((first
              | (go_at_call 15; exact quiet_same (F1.text (HB6.out.1.later (Ext.drewN _ v6))))
              | (go_at_call 16; exact quiet_same (F1.sure (HB6.out.1.later (Ext.drewN _ v6))))))
            go_wp2_with fail
            go_roundw
            case rel => exact ⟨k + 1, g, _, by omega, by omega, by go_num, rfl, HB6.out.later (Ext.drewN _ v6)⟩
            case measure => simp [intOf]; omega
          · by_cases hk0 : kind < 0
            · have hd1 : decide (kind < 0) = true := by simpa using hk0
              go_wp2_with fail
              refine ((HB.out.later (Ext.alloc _ _)).copy).mono ?_
              rintro e v2 ⟨g2, rfl, h2⟩
              have H2 := Lib.hid h2
              clear h2 c0 c1 c2 c3 c4
              go_wp2_with fail
              refine (H2.out.did (fun L hf => append_did g L _ _ v2 hf H2.out.1.one.ok (by decide)) (H2.out.1.one.ok.append _)).mono ?_
              rintro e v3 ⟨rfl, h3⟩
              have H3 := Lib.hid h3
              clear h3
              go_wp2_with fail
              refine (H3.out.did (fun L hf => lay_did g L _ _ v3 hf (by decide)) (H3.out.1.one.ok.lay _)).mono ?_
              rintro e v4 ⟨rfl, h4⟩
              have H5 := Lib.hid h4.second
              clear h4
              go_wp2_with fail
              refine ((H5).out.1.other).mono ?_
              rintro e v6 ⟨rfl, hx6⟩
              have hb6 := (H5).out.later hx6
              have HB6 := Lib.hid hb6
              have r0 := heap_cell hb6.2.1 0
              have r1 := heap_cell hb6.2.1 1
              have r2 := heap_cell hb6.2.1 2
              have r3 := heap_cell hb6.2.1 3
              have r4 := heap_cell hb6.2.1 4
              clear hx6 hb6
              go_wp2_with fail
              go_quiet ((first
                | (go_at_call 15; exact quiet_same (F1.text (HB6.out.1.later (Ext.drewN _ v6))))
                | (go_at_call 16; exact quiet_same (F1.sure (HB6.out.1.later (Ext.drewN _ v6))))))
              go_wp2_with fail
              go_roundw
              case rel => exact ⟨k + 1, g2, _, by omega, by omega, by go_num, rfl, HB6.out.later (Ext.drewN _ v6)⟩
              case measure => simp [intOf]; omega
            · have hk1 : 0 ≤ kind := by omega
              have hk6 : 6 < kind := by omega
              have hd1 : decide (kind < 0) = false := by simpa using hk1
              have hd2 : decide (6 < kind) = true := by simpa using hk6
              go_wp2_with fail
              refine ((HB.out.later (Ext.alloc _ _)).copy).mono ?_
              rintro e v2 ⟨g2, rfl, h2⟩
              have H2 := Lib.hid h2
              clear h2 c0 c1 c2 c3 c4
              go_wp2_with fail
              refine (H2.out.did (fun L hf => append_did g L _ _ v2 hf H2.out.1.one.ok (by decide)) (H2.out.1.one.ok.append _)).mono ?_
              rintro e v3 ⟨rfl, h3⟩
              have H3 := Lib.hid h3
              clear h3
              go_wp2_with fail
              refine (H3.out.did (fun L hf => lay_did g L _ _ v3 hf (by decide)) (H3.out.1.one.ok.lay _)).mono ?_
              rintro e v4 ⟨rfl, h4⟩
              have H5 := Lib.hid h4.second
              clear h4
              go_wp2_with fail
              refine ((H5).out.1.other).mono ?_
              rintro e v6 ⟨rfl, hx6⟩
              have hb6 := (H5).out.later hx6
              have HB6 := Lib.hid hb6
              have r0 := heap_cell hb6.2.1 0
              have r1 := heap_cell hb6.2.1 1
              have r2 := heap_cell hb6.2.1 2
              have r3 := heap_cell hb6.2.1 3
              have r4 := heap_cell hb6.2.1 4
              clear hx6 hb6
              go_wp2_with fail
              go_quiet ((first
                | (go_at_call 15; exact quiet_same (F1.text (HB6.out.1.later (Ext.drewN _ v6))))
                | (go_at_call 16; exact quiet_same (F1.sure (HB6.out.1.later (Ext.drewN _ v6))))))
              go_wp2_with fail
              go_roundw
              case rel => exact ⟨k + 1, g2, _, by omega, by omega, by go_num, rfl, HB6.out.later (Ext.drewN _ v6)⟩
              case measure => simp [intOf]; omega
      · have hk82 : 80 ≤ k := by omega
        go_wp2_with fail
        refine (known_any _).mono ?_
        rintro e v9 ⟨rfl, hx9⟩
        go_wp2_with fail
        go_ret
        exact ⟨rfl, (HB.out.1.ext).trans hx9⟩
    · go_wp2_with fail
      refine (known_any _).mono ?_
      rintro e v9 ⟨rfl, hx9⟩
      go_wp2_with fail
      go_ret
      exact ⟨rfl, (HB.out.1.ext).trans hx9⟩
end Go.Proofs.Ytjmicdehofjmgaa
