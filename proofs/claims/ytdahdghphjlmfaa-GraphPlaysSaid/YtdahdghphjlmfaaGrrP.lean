/- GraphPlays walked. -/
import Derived.Test.YtdahdghphjlmfaaGrrE
import Derived.Test.YtdahdghphjlmfaaGraX
import Derived.Deep.CutRange
import Derived.Deep.RegionHeld3
namespace Go.Proofs.Ytdahdghphjlmfaa
open Go.RowKit Sets Gra
set_option linter.unusedVariables false

theorem gx_ref {w v v' : World} {g r : Nat} {L L' : List Rule} (h : Gx w v g L) (hr : RefAt v r L') (hB : w.heap.size ≤ r) (hk : Kp [r] v v') : Gx w v' g L := by
  obtain ⟨A, n, c, h1, _⟩ := hr
  obtain ⟨b, l, k1, k2, k3, k4, k5, k6⟩ := h.at_
  exact ⟨⟨b, l, hk.heap k1 (by simpa using blocks_ne k1 h1 (by decide)), k2.kp hk (by simpa using (k2.ne h1).symm), k3, k4, k5, k6⟩, hk.to_ext h.ext (by simpa using hB)⟩
theorem RefAt.new (w : World) : RefAt (w.alloc (.cells #[.slice none 0 0] 28)) w.heap.size [] :=
  ⟨none, 0, 0, heap_alloc_new w _, rfl, by omega, by simp [maxLen], Rd.nil _ _, by simp⟩
/-- What the law holds. -/
structure Gp (w v : World) (g r : Nat) (L : List Rule) : Prop where
  gx : Gx w v g L
  ref : RefAt v r L
theorem Gp.later {w v v' : World} {g r : Nat} {L : List Rule} (h : Gp w v g r L) (k : Ext v v') : Gp w v' g r L := ⟨h.gx.later k, h.ref.ext k⟩
theorem Gp.rules {w v : World} {g r : Nat} {L : List Rule} (h : Gp w v g r L) : ∀ x ∈ L, RuleOk x := fun x hx => ok_ruleOk h.gx.at_.ok hx
theorem five {w : World} {p : Nat} {kd : Int} {rs rd : ByteArray} {rk rz ra : Int} {t : TypeId} (h : w.heap[p]? = some (.cells #[.int .i64 kd, .string rs, .string rd, .int .i64 rk, .int .i64 rz, .int .i64 ra] t (0, 0))) :
    w.cell? ⟨p, 1, none⟩ = some (.string rs) ∧ w.cell? ⟨p, 2, none⟩ = some (.string rd) ∧ w.cell? ⟨p, 3, none⟩ = some (.int .i64 rk) ∧ w.cell? ⟨p, 4, none⟩ = some (.int .i64 rz) ∧ w.cell? ⟨p, 5, none⟩ = some (.int .i64 ra) :=
  ⟨heap_cell h 1, heap_cell h 2, heap_cell h 3, heap_cell h 4, heap_cell h 5⟩
set_option maxRecDepth 100000 in
set_option maxHeartbeats 60000000 in
theorem graphPlays_any (v : Value) (xs : List GOp) (key : ByteArray) (w : World) (h : Row opC w v xs) (hok : ∀ o ∈ xs, GOpOk o) (hkey : key.size ≤ 9223372036854775807) :
    Calls Try.prog 3 #[v, .string key] w fun e w' => e = .returned (.bool true) ∧ Ext w w' := by
  obtain ⟨A, n, c, rfl, hn, hnc, hc, hr⟩ := h
  have hc' : c ≤ 9223372036854775807 := by simpa [maxLen] using hc
  have HR := Lib.hid hr
  have HN := Lib.hid hn
  have HOK := Lib.hid hok
  clear hr hn hok hc
  go_enter Try.func3, Try.ntmps3
  go_wp2_with fail
  refine (new_any w).mono ?_
  rintro e v0 ⟨g, rfl, hg, hx⟩
  have hg1 : Gx w v0 g [] := ⟨hg, hx⟩
  have HP0 := Lib.hid (⟨hg1.later (Ext.alloc v0 _), RefAt.new v0⟩ : Gp w (v0.alloc (.cells #[.slice none 0 0] 28)) g v0.heap.size [])
  have HRB := Lib.hid hx.size
  clear hg hx hg1
  by_cases hk100 : key.size ≤ 100
  · have hkI : (key.size : Int) ≤ 100 := by omega
    go_upto_block 0 with fail
    generalize v0.alloc (.cells #[.slice none 0 0] 28) = v1 at HP0 ⊢
    generalize v0.heap.size = r at HP0 HRB ⊢
    go_wp2_with fail
    go_loopw [5, 7] (fun gp i wr => ∃ (g k : Nat) (L : List Rule), gp = .pointer (some ⟨g, 0, none⟩) ∧ k ≤ n ∧ k ≤ 60 ∧ i = .int .i64 (k : Int) ∧ Gp w wr g r L ∧ L.length ≤ k) (fun _ i _ => n - (intOf i).toNat)
    case atStart => exact ⟨g, 0, [], rfl, by omega, by omega, rfl, HP0.out, by simp⟩
    case round =>
      obtain ⟨g, k, L, rfl, hk, hk60, rfl, hgp, hlen⟩ := hrel
      have HG := Lib.hid hgp
      clear hgp
      by_cases hkn : k < n
      · by_cases hk6 : k < 60
        · obtain ⟨ad, rfl⟩ : ∃ ad, A = some ad := row_some HR.out opC_len (by decide) (by have := HN.out; omega)
          obtain ⟨o, hx⟩ : ∃ o, xs[k]? = some o := ⟨_, List.getElem?_eq_getElem (by have := HN.out; omega)⟩
          obtain ⟨c0, c1, c2, c3, c4, c5⟩ := gop_cells (HR.out.ext HG.out.gx.ext) hx
          have hro := (HOK.out o (List.mem_of_getElem? hx)).r
          have HRO := Lib.hid hro
          obtain ⟨kd, q⟩ := o
          obtain ⟨rs, rd, rk, rz, ra⟩ := q
          dsimp only at c0 c1 c2 c3 c4 c5
          clear hro hx
          go_upto_region 9 with fail
          clear c0 c1 c2 c3 c4 c5
          have hb := heap_alloc_new wr (.cells #[.int .i64 kd, .string rs, .string rd, .int .i64 rk, .int .i64 rz, .int .i64 ra] 33 (0, 0))
          have HG1 := Lib.hid (HG.out.later (Ext.alloc wr (.cells #[.int .i64 kd, .string rs, .string rd, .int .i64 rk, .int .i64 rz, .int .i64 ra] 33)))
          have HPR : Hid (r < wr.heap.size) := Lib.hid (ref_lt HG.out.ref)
          clear HG
          generalize wr.alloc (.cells #[.int .i64 kd, .string rs, .string rd, .int .i64 rk, .int .i64 rz, .int .i64 ra] 33) = v1 at hb HG1 ⊢
          generalize wr.heap.size = p at hb HPR ⊢
          have HB := Lib.hid hb
          clear hb
          have hB0 := heap_cell HB.out 0
          have hB1 := heap_cell HB.out 1
          have hB2 := heap_cell HB.out 2
          have hB3 := heap_cell HB.out 3
          have hB4 := heap_cell HB.out 4
          have hB5 := heap_cell HB.out 5
          go_wp2_with fail
          clear hB0 hB1 hB2 hB3 hB4 hB5
          refine (light_any ⟨rs, rd, rk, rz, ra⟩ v1 HRO.out).mono ?_
          rintro e v2 ⟨rfl, hx⟩
          have HB2 := Lib.hid ((Cm.of_ext hx).cells _ _ _ _ HB.out)
          have HG2 := Lib.hid (HG1.out.later hx)
          clear HB HG1 hx
          cases hlt : lightR ⟨rs, rd, rk, rz, ra⟩ with
          | false =>
            clear hlt
            go_wp2_with fail
            go_roundw
            case rel => exact ⟨g, k + 1, L, rfl, by omega, by omega, by go_num, HG2.out, by omega⟩
            case measure => simp [intOf]; omega
          | true =>
            clear hlt
            have hB0 := heap_cell HB2.out 0
            have hB1 := heap_cell HB2.out 1
            have hB2 := heap_cell HB2.out 2
            have hB3 := heap_cell HB2.out 3
            have hB4 := heap_cell HB2.out 4
            have hB5 := heap_cell HB2.out 5
            go_upto_block 2 with fail
            go_cut [5] from 33 to 173 (fun s5 wx => ∃ (g' : Nat) (L' : List Rule), s5 = .pointer (some ⟨g', 0, none⟩) ∧ Gp w wx g' r L' ∧ L'.length ≤ k + 1 ∧ wx.heap[p]? = some (.cells #[.int .i64 kd, .string rs, .string rd, .int .i64 rk, .int .i64 rz, .int .i64 ra] 33 (0, 0)))
            case first =>
              by_cases h0 : kd = 0
              · subst h0
                have hgx := HG2.out.gx
                have hrf := HG2.out.ref
                have hbx := HB2.out
                have hs0 := five HB2.out
                have hpr : p ≠ r := by have := HPR.out; omega
                clear hB1 hB2 hB3 hB4 hB5
                have HL0 := Lib.hid (by omega : L.length ≤ 100000)
                go_upto_region 17 with fail
                go_region_held3 (fun wz => wz.cell? ⟨p, 1, none⟩ = some (.string rs) ∧ wz.cell? ⟨p, 2, none⟩ = some (.string rd) ∧ wz.cell? ⟨p, 3, none⟩ = some (.int .i64 rk) ∧ wz.cell? ⟨p, 4, none⟩ = some (.int .i64 rz) ∧ wz.cell? ⟨p, 5, none⟩ = some (.int .i64 ra)) (first | assumption | exact five hbx) (first
                  | (go_at_call 12
                     refine (add_any w.heap.size g L ⟨rs, rd, rk, rz, ra⟩ v2.drew (hgx.later (Ext.drew v2)).at_ HL0.out HRO.out (hgx.later (Ext.drew v2)).ext.size).mono ?_
                     rintro e v3 ⟨rfl, hd⟩
                     have hgx2 := (hgx.later (Ext.drew v2)).did hd
                     have hrf2 := (hrf.ext (Ext.drew v2)).cm hd.cm
                     have hbx2 := hd.cm.cells _ _ _ _ ((Kp.of_ext (L := []) (Ext.drew v2)).heap hbx (by simp))
                     clear hd hgx hrf hbx
                     have hgx := hgx2
                     have hrf := hrf2
                     have hbx := hbx2)
                  | (go_at_call 12
                     refine (add_any w.heap.size g L ⟨rs, rd, rk, rz, ra⟩ _ hgx.at_ HL0.out HRO.out hgx.ext.size).mono ?_
                     rintro e v3 ⟨rfl, hd⟩
                     have hgx2 := hgx.did hd
                     have hrf2 := hrf.cm hd.cm
                     have hbx2 := hd.cm.cells _ _ _ _ hbx
                     clear hd hgx hrf hbx
                     have hgx := hgx2
                     have hrf := hrf2
                     have hbx := hbx2)
                  | (go_at_call 14
                     refine (one_any ⟨rs, rd, rk, rz, ra⟩ v2.drew).mono ?_
                     rintro e v3 ⟨rfl, hx⟩
                     have hgx2 := (hgx.later (Ext.drew v2)).later hx
                     have hrf2 := (hrf.ext (Ext.drew v2)).ext hx
                     have hbx2 := (Kp.of_ext (L := []) hx).heap ((Kp.of_ext (L := []) (Ext.drew v2)).heap hbx (by simp)) (by simp)
                     clear hx hgx hrf hbx
                     have hgx := hgx2
                     have hrf := hrf2
                     have hbx := hbx2)
                  | (go_at_call 14
                     refine (one_any ⟨rs, rd, rk, rz, ra⟩ _).mono ?_
                     rintro e v3 ⟨rfl, hx⟩
                     have hgx2 := hgx.later hx
                     have hrf2 := hrf.ext hx
                     have hbx2 := (Kp.of_ext (L := []) hx).heap hbx (by simp)
                     clear hx hgx hrf hbx
                     have hgx := hgx2
                     have hrf := hrf2
                     have hbx := hbx2)
                  | (go_at_call 13
                     refine (rAdd_any r L ⟨rs, rd, rk, rz, ra⟩ _ hrf HL0.out HRO.out HG2.out.rules).mono ?_
                     rintro e v3 ⟨rfl, hd⟩
                     have hgx2 := gx_ref hgx hrf HRB.out hd.kp
                     have hbx2 := hd.kp.heap hbx (by simpa using hpr)
                     have hrf2 := hd.at_
                     clear hd hgx hrf hbx
                     have hgx := hgx2
                     have hrf := hrf2
                     have hbx := hbx2))
                all_goals
                  go_wp2_with fail
                  go_meet
                  exact ⟨g, _, rfl, ⟨hgx, hrf⟩, by have := len_addR L ⟨rs, rd, rk, rz, ra⟩; omega, hbx⟩
              · have h0' : (kd == 0) = false := by simpa using h0
                clear h0
                by_cases h1 : kd = 1
                · subst h1
                  have hpr : p ≠ r := by have := HPR.out; omega
                  have HL0 := Lib.hid (by omega : L.length ≤ 100000)
                  obtain ⟨⟨is, id, ik, iz, ia⟩, hiv⟩ : ∃ iv, (dropR L rs rd).1.1 = iv := ⟨_, rfl⟩
                  obtain ⟨de, hde⟩ : ∃ de, (dropR L rs rd).1.2 = de := ⟨_, rfl⟩
                  have HIV := Lib.hid hiv
                  have HDE := Lib.hid hde
                  clear hiv hde
                  go_wp2_with fail
                  clear hB0 hB1 hB2 hB3 hB4 hB5
                  refine (drop_any w.heap.size g L rs rd v2 HG2.out.gx.at_ HRO.out.s HRO.out.d HG2.out.gx.ext.size).mono ?_
                  rintro e v3 ⟨rfl, hd⟩
                  rw [HIV.out, HDE.out]
                  simp only [ruleV]
                  have hx4 := Ext.alloc v3 (.cells #[.string is, .string id, .int .i64 ik, .int .i64 iz, .int .i64 ia] 31)
                  have ha4 := heap_alloc_new v3 (.cells #[.string is, .string id, .int .i64 ik, .int .i64 iz, .int .i64 ia] 31 (0, 0))
                  have HX4 := Lib.hid ((HG2.out.gx.did hd).later hx4)
                  have HR4 := Lib.hid ((HG2.out.ref.cm hd.cm).ext hx4)
                  have HB4 := Lib.hid ((Kp.of_ext (L := []) hx4).heap (hd.cm.cells _ _ _ _ HB2.out) (by simp))
                  obtain ⟨a, hae⟩ : ∃ a, a = v3.heap.size := ⟨_, rfl⟩
                  have HAR : Hid (a ≠ r) := Lib.hid (by have := ref_lt (HG2.out.ref.cm hd.cm); omega)
                  have hB1 := (five HB4.out).1
                  have hB2 := (five HB4.out).2.1
                  clear hd hx4
                  go_wp2_with fail
                  clear hB1 hB2
                  rw [← hae] at ha4
                  rw [← hae]
                  have HA4 := Lib.hid ha4
                  clear ha4 hae
                  generalize v3.alloc (.cells #[.string is, .string id, .int .i64 ik, .int .i64 iz, .int .i64 ia] 31) = v4 at HX4 HR4 HB4 HA4 ⊢
                  refine (rDrop_any r L rs rd v4 HR4.out HL0.out HG2.out.gx.at_.ok).mono ?_
                  rintro e v5 ⟨rfl, hd⟩
                  rw [HIV.out, HDE.out]
                  simp only [ruleV]
                  have hx6 := Ext.alloc v5 (.cells #[.string is, .string id, .int .i64 ik, .int .i64 iz, .int .i64 ia] 38)
                  have hb6 := heap_alloc_new v5 (.cells #[.string is, .string id, .int .i64 ik, .int .i64 iz, .int .i64 ia] 38 (0, 0))
                  have HX6 := Lib.hid ((gx_ref HX4.out HR4.out HRB.out hd.kp).later hx6)
                  have HR6 := Lib.hid (hd.at_.ext hx6)
                  have HB6 := Lib.hid ((Kp.of_ext (L := []) hx6).heap (hd.kp.heap HB4.out (by simpa using hpr)) (by simp))
                  have HA6 := Lib.hid ((Kp.of_ext (L := []) hx6).heap (hd.kp.heap HA4.out (by simpa using HAR.out)) (by simp))
                  obtain ⟨b, hbe⟩ : ∃ b, b = v5.heap.size := ⟨_, rfl⟩
                  clear hd hx6
                  go_upto_region 22 with fail
                  rw [← hbe] at hb6
                  rw [← hbe]
                  clear hbe
                  have HBB := Lib.hid hb6
                  clear hb6
                  generalize v5.alloc (.cells #[.string is, .string id, .int .i64 ik, .int .i64 iz, .int .i64 ia] 38) = v6 at HX6 HR6 HB6 HA6 HBB ⊢
                  have HS := Lib.hid (fun (wz : World) (hw : Ext v6 wz) => And.intro (rbox_cells (r := ⟨is, id, ik, iz, ia⟩) HA6.out hw) (rbox_cells (r := ⟨is, id, ik, iz, ia⟩) HBB.out hw))
                  have hs0 := HS.out v6 (Ext.refl _)
                  try dsimp only at hs0
                  go_region_held3 (fun wz => (wz.cell? ⟨a, 0, none⟩ = some (.string is) ∧ wz.cell? ⟨a, 1, none⟩ = some (.string id) ∧ wz.cell? ⟨a, 2, none⟩ = some (.int .i64 ik) ∧ wz.cell? ⟨a, 3, none⟩ = some (.int .i64 iz) ∧ wz.cell? ⟨a, 4, none⟩ = some (.int .i64 ia)) ∧ (wz.cell? ⟨b, 0, none⟩ = some (.string is) ∧ wz.cell? ⟨b, 1, none⟩ = some (.string id) ∧ wz.cell? ⟨b, 2, none⟩ = some (.int .i64 ik) ∧ wz.cell? ⟨b, 3, none⟩ = some (.int .i64 iz) ∧ wz.cell? ⟨b, 4, none⟩ = some (.int .i64 ia))) (first | assumption | exact HS.out _ hxt) (first
                    | (go_at_call 14
                       refine (one_any ⟨is, id, ik, iz, ia⟩ _).mono ?_
                       rintro e v7 ⟨rfl, hx⟩
                       simp only [ruleV]
                       have hxt : Ext v6 v7 := by first | exact (Ext.drewN _ _).trans hx | exact (Ext.drew _).trans hx
                       clear hx))
                  all_goals
                    go_wp2_with fail
                    go_meet
                    exact ⟨g, _, rfl, ⟨HX6.out.later hxt, HR6.out.ext hxt⟩, by have := len_dropR L rs rd; omega, (Kp.of_ext (L := []) hxt).heap HB6.out (by simp)⟩
                · have h1' : (kd == 1) = false := by simpa using h1
                  clear h1
                  by_cases h2 : kd = 2
                  · subst h2
                    have hgx := HG2.out.gx
                    have hrf := HG2.out.ref
                    have hbx := HB2.out
                    have hs0 := five HB2.out
                    have hpr : p ≠ r := by have := HPR.out; omega
                    clear hB1 hB2 hB3 hB4 hB5
                    have HL0 := Lib.hid (by omega : L.length ≤ 100000)
                    go_upto_region 25 with fail
                    go_region_held3 (fun wz => wz.cell? ⟨p, 1, none⟩ = some (.string rs) ∧ wz.cell? ⟨p, 2, none⟩ = some (.string rd) ∧ wz.cell? ⟨p, 3, none⟩ = some (.int .i64 rk) ∧ wz.cell? ⟨p, 4, none⟩ = some (.int .i64 rz) ∧ wz.cell? ⟨p, 5, none⟩ = some (.int .i64 ra)) (first | assumption | exact five hbx) (first
                      | (go_at_call 17
                         refine (gone_any w.heap.size g L rs v2.drew (hgx.later (Ext.drew v2)).at_ HL0.out (hgx.later (Ext.drew v2)).ext.size).mono ?_
                         rintro e v3 ⟨rfl, hd⟩
                         have hgx2 := (hgx.later (Ext.drew v2)).did hd
                         have hrf2 := (hrf.ext (Ext.drew v2)).cm hd.cm
                         have hbx2 := hd.cm.cells _ _ _ _ ((Kp.of_ext (L := []) (Ext.drew v2)).heap hbx (by simp))
                         clear hd hgx hrf hbx
                         have hgx := hgx2
                         have hrf := hrf2
                         have hbx := hbx2)
                      | (go_at_call 17
                         refine (gone_any w.heap.size g L rs _ hgx.at_ HL0.out hgx.ext.size).mono ?_
                         rintro e v3 ⟨rfl, hd⟩
                         have hgx2 := hgx.did hd
                         have hrf2 := hrf.cm hd.cm
                         have hbx2 := hd.cm.cells _ _ _ _ hbx
                         clear hd hgx hrf hbx
                         have hgx := hgx2
                         have hrf := hrf2
                         have hbx := hbx2)
                      | (go_at_call 18
                         refine (rGone_any r L rs v2.drew (hrf.ext (Ext.drew v2)) HL0.out).mono ?_
                         rintro e v3 ⟨rfl, hd⟩
                         have hgx2 := gx_ref (hgx.later (Ext.drew v2)) (hrf.ext (Ext.drew v2)) HRB.out hd.kp
                         have hbx2 := hd.kp.heap ((Kp.of_ext (L := []) (Ext.drew v2)).heap hbx (by simp)) (by simpa using hpr)
                         have hrf2 := hd.at_
                         clear hd hgx hrf hbx
                         have hgx := hgx2
                         have hrf := hrf2
                         have hbx := hbx2)
                      | (go_at_call 18
                         refine (rGone_any r L rs _ hrf HL0.out).mono ?_
                         rintro e v3 ⟨rfl, hd⟩
                         have hgx2 := gx_ref hgx hrf HRB.out hd.kp
                         have hbx2 := hd.kp.heap hbx (by simpa using hpr)
                         have hrf2 := hd.at_
                         clear hd hgx hrf hbx
                         have hgx := hgx2
                         have hrf := hrf2
                         have hbx := hbx2))
                    all_goals
                      go_wp2_with fail
                      go_meet
                      exact ⟨g, _, rfl, ⟨hgx, hrf⟩, by have := len_goneL L rs; omega, hbx⟩
                  · have h2' : (kd == 2) = false := by simpa using h2
                    clear h2
                    go_wp2_with fail
                    clear hB0 hB1 hB2 hB3 hB4 hB5
                    refine (copy_any w.heap.size g L v2 HG2.out.gx.at_ (by omega)).mono ?_
                    rintro e v3 ⟨c2, rfl, hc2, hx⟩
                    have HC3 := Lib.hid hc2
                    have HX3 := Lib.hid hx
                    have HB3 := Lib.hid ((Cm.of_ext hx).cells _ _ _ _ HB2.out)
                    have hB1 := (five HB3.out).1
                    clear hc2 hx
                    go_wp2_with fail
                    clear hB1
                    refine (gone_any w.heap.size g L rs v3 (HG2.out.gx.later HX3.out).at_ (by omega) (HG2.out.gx.later HX3.out).ext.size).mono ?_
                    rintro e v4 ⟨rfl, hd⟩
                    have HC4 := Lib.hid (other_graph HG2.out.gx.at_ HC3.out HX3.out hd)
                    have HG4 := Lib.hid ((HG2.out.gx.later HX3.out).did hd)
                    have HR4 := Lib.hid ((HG2.out.ref.ext HX3.out).cm hd.cm)
                    have HB4 := Lib.hid (hd.cm.cells _ _ _ _ HB3.out)
                    clear hd
                    go_wp2_with fail
                    go_meet
                    exact ⟨c2, L, rfl, ⟨⟨HC4.out.base HG2.out.gx.ext.size, HG4.out.ext⟩, HR4.out⟩, by omega, HB4.out⟩
            case rest =>
              obtain ⟨g', L', rfl, hgp, hl', hb⟩ := hcut
              have HG3 := Lib.hid hgp
              have HB3 := Lib.hid hb
              clear hgp hb HG2 HB2 hB0 hB1 hB2 hB3 hB4 hB5
              obtain ⟨⟨is, id, ik, iz, ia⟩, hiv⟩ : ∃ iv, intoV L' key = iv := ⟨_, rfl⟩
              obtain ⟨ib, hib⟩ : ∃ b, (intoL L' key).isSome = b := ⟨_, rfl⟩
              have HIV := Lib.hid hiv
              have HIB := Lib.hid hib
              have HL0 := Lib.hid (by omega : L'.length ≤ 100000)
              clear hiv hib
              go_wp2_with fail
              refine (into_any w.heap.size g' L' key wc HG3.out.gx.at_ hkey).mono ?_
              rintro e v4 ⟨rfl, hx⟩
              rw [HIV.out, HIB.out]
              simp only [ruleV]
              have hx5 := Ext.alloc v4 (.cells #[.string is, .string id, .int .i64 ik, .int .i64 iz, .int .i64 ia] 31)
              have ha5 := heap_alloc_new v4 (.cells #[.string is, .string id, .int .i64 ik, .int .i64 iz, .int .i64 ia] 31 (0, 0))
              have HX5 := Lib.hid (hx.trans hx5)
              obtain ⟨a, hae⟩ : ∃ a, a = v4.heap.size := ⟨_, rfl⟩
              clear hx hx5
              go_wp2_with fail
              rw [← hae] at ha5
              rw [← hae]
              have HA5 := Lib.hid ha5
              clear ha5 hae
              generalize v4.alloc (.cells #[.string is, .string id, .int .i64 ik, .int .i64 iz, .int .i64 ia] 31) = v5 at HX5 HA5 ⊢
              refine (rInto_any r L' key v5 (HG3.out.ref.ext HX5.out)).mono ?_
              rintro e v6 ⟨rfl, hx⟩
              rw [HIV.out, HIB.out]
              simp only [ruleV]
              have hx7 := Ext.alloc v6 (.cells #[.string is, .string id, .int .i64 ik, .int .i64 iz, .int .i64 ia] 38)
              have hb7 := heap_alloc_new v6 (.cells #[.string is, .string id, .int .i64 ik, .int .i64 iz, .int .i64 ia] 38 (0, 0))
              have HX7 := Lib.hid (HX5.out.trans (hx.trans hx7))
              have HA7 := Lib.hid ((Kp.of_ext (L := []) (hx.trans hx7)).heap HA5.out (by simp))
              obtain ⟨b, hbe⟩ : ∃ b, b = v6.heap.size := ⟨_, rfl⟩
              clear hx hx7
              go_upto_region 29 with fail
              rw [← hbe] at hb7
              rw [← hbe]
              clear hbe
              have HB7 := Lib.hid hb7
              clear hb7
              generalize v6.alloc (.cells #[.string is, .string id, .int .i64 ik, .int .i64 iz, .int .i64 ia] 38) = v7 at HX7 HA7 HB7 ⊢
              have HG7 := Lib.hid (HG3.out.later HX7.out)
              have HP7 := Lib.hid ((Kp.of_ext (L := []) HX7.out).heap HB3.out (by simp))
              obtain ⟨A6, n6, c6, hn6, hnc6, hcm6, hr6, hfld⟩ := ref_cells HG7.out.ref
              have HRW := Lib.hid (⟨A6, n6, c6, rfl, hn6, hnc6, hcm6, hr6⟩ : Row ruleC v7 (.slice A6 n6 c6) L')
              have HS := Lib.hid (fun (wz : World) (hw : Ext v7 wz) => (And.intro (heap_cell (hfld wz hw) 0) (And.intro (rbox_cells (r := ⟨is, id, ik, iz, ia⟩) HA7.out hw) (And.intro (rbox_cells (r := ⟨is, id, ik, iz, ia⟩) HB7.out hw) (five ((Kp.of_ext (L := []) hw).heap HP7.out (by simp))))) : wz.cell? ⟨r, 0, none⟩ = some (.slice A6 n6 c6) ∧ (wz.cell? ⟨a, 0, none⟩ = some (.string is) ∧ wz.cell? ⟨a, 1, none⟩ = some (.string id) ∧ wz.cell? ⟨a, 2, none⟩ = some (.int .i64 ik) ∧ wz.cell? ⟨a, 3, none⟩ = some (.int .i64 iz) ∧ wz.cell? ⟨a, 4, none⟩ = some (.int .i64 ia)) ∧ (wz.cell? ⟨b, 0, none⟩ = some (.string is) ∧ wz.cell? ⟨b, 1, none⟩ = some (.string id) ∧ wz.cell? ⟨b, 2, none⟩ = some (.int .i64 ik) ∧ wz.cell? ⟨b, 3, none⟩ = some (.int .i64 iz) ∧ wz.cell? ⟨b, 4, none⟩ = some (.int .i64 ia)) ∧ (wz.cell? ⟨p, 1, none⟩ = some (.string rs) ∧ wz.cell? ⟨p, 2, none⟩ = some (.string rd) ∧ wz.cell? ⟨p, 3, none⟩ = some (.int .i64 rk) ∧ wz.cell? ⟨p, 4, none⟩ = some (.int .i64 rz) ∧ wz.cell? ⟨p, 5, none⟩ = some (.int .i64 ra))))
              have hs0 := HS.out v7 (Ext.refl _)
              clear hr6 hfld hn6 hcm6
              go_region_held3 (fun wz => wz.cell? ⟨r, 0, none⟩ = some (.slice A6 n6 c6) ∧ (wz.cell? ⟨a, 0, none⟩ = some (.string is) ∧ wz.cell? ⟨a, 1, none⟩ = some (.string id) ∧ wz.cell? ⟨a, 2, none⟩ = some (.int .i64 ik) ∧ wz.cell? ⟨a, 3, none⟩ = some (.int .i64 iz) ∧ wz.cell? ⟨a, 4, none⟩ = some (.int .i64 ia)) ∧ (wz.cell? ⟨b, 0, none⟩ = some (.string is) ∧ wz.cell? ⟨b, 1, none⟩ = some (.string id) ∧ wz.cell? ⟨b, 2, none⟩ = some (.int .i64 ik) ∧ wz.cell? ⟨b, 3, none⟩ = some (.int .i64 iz) ∧ wz.cell? ⟨b, 4, none⟩ = some (.int .i64 ia)) ∧ (wz.cell? ⟨p, 1, none⟩ = some (.string rs) ∧ wz.cell? ⟨p, 2, none⟩ = some (.string rd) ∧ wz.cell? ⟨p, 3, none⟩ = some (.int .i64 rk) ∧ wz.cell? ⟨p, 4, none⟩ = some (.int .i64 rz) ∧ wz.cell? ⟨p, 5, none⟩ = some (.int .i64 ra))) (first | assumption | exact HS.out _ hxt) (first
                | (go_at_call 24
                   refine (all_any w.heap.size g' L' _ (HG7.out.later (Ext.drew v7)).gx.at_ HL0.out).mono ?_
                   rintro e v8 ⟨u8, rfl, hU8, hx⟩
                   have hxt := (Ext.drew v7).trans hx
                   clear hx)
                | (go_at_call_of 23 u8
                   refine (plain_any u8 L' _ hU8 HL0.out).mono ?_
                   rintro e v9 ⟨u9, rfl, hU9, hx⟩
                   have hxt := hxt.trans hx
                   clear hx)
                | (go_at_call_of 22 u9
                   refine (same_any u9 (.slice A6 n6 c6) L' L' _ hU9 (Row.ext HRW.out hxt)).mono ?_
                   rintro e v10 ⟨rfl, hx⟩
                   rw [decide_eq_true rfl]
                   have hxt := hxt.trans hx
                   clear hx)
                | (go_at_call 25
                   refine (of_graph w.heap.size g' L' key _ (HG7.out.later hxt).gx.at_ HL0.out).mono ?_
                   rintro e v11 ⟨ua, rfl, hUA, hx⟩
                   have hxt := hxt.trans hx
                   (try replace hUC := Row.ext hUC hx)
                   clear hx)
                | (go_at_call_of 23 ua
                   refine (plain_any ua (ofL L' key) _ hUA (by have := List.length_filter_le (fun q : Rule => decide (q.src = key)) L'; have := HL0.out; simp only [ofL]; omega)).mono ?_
                   rintro e v12 ⟨ub, rfl, hUB, hx⟩
                   have hxt := hxt.trans hx
                   (try replace hUC := Row.ext hUC hx)
                   clear hx)
                | (go_at_call 26
                   refine (rOf_any r L' key _ (HG7.out.ref.ext hxt) HL0.out).mono ?_
                   rintro e v13 ⟨uc, rfl, hUC, hx⟩
                   have hxt := hxt.trans hx
                   (try replace hUA := Row.ext hUA hx)
                   (try replace hUB := Row.ext hUB hx)
                   clear hx)
                | (go_at_call_of 22 ub
                   refine (same_any ub uc (ofL L' key) (ofL L' key) _ hUB hUC).mono ?_
                   rintro e v14 ⟨rfl, hx⟩
                   rw [decide_eq_true rfl]
                   have hxt := hxt.trans hx
                   clear hx)
                | (go_at_call_of 14 is
                   refine (one_any ⟨is, id, ik, iz, ia⟩ _).mono ?_
                   rintro e v15 ⟨rfl, hx⟩
                   simp only [ruleV]
                   have hxt := hxt.trans hx
                   clear hx)
                | (go_at_call_of 14 rs
                   refine (one_any ⟨rs, rd, rk, rz, ra⟩ _).mono ?_
                   rintro e v16 ⟨rfl, hx⟩
                   simp only [ruleV]
                   have hxt := hxt.trans hx
                   clear hx)
                | (go_at_call 27
                   refine (right_any ⟨rs, rd, rk, rz, ra⟩ _ HRO.out).mono ?_
                   rintro e v17 ⟨rfl, hx⟩
                   have hxt := hxt.trans hx
                   clear hx)
                | (go_at_call 28
                   refine (rRight_any ⟨rs, rd, rk, rz, ra⟩ _ HRO.out).mono ?_
                   rintro e v18 ⟨rfl, hx⟩
                   have hxt := hxt.trans hx
                   clear hx))
              all_goals
                go_wp2_with fail
                go_roundw
                case rel => exact ⟨g', k + 1, L', rfl, by omega, by omega, by go_num, HG7.out.later hxt, hl'⟩
                case measure => simp [intOf]; omega
        · have hk62 : 60 ≤ k := by omega
          go_wp2_with fail
          refine (known_any _).mono ?_
          rintro e v9 ⟨rfl, hx⟩
          go_wp2_with fail
          go_ret
          exact ⟨rfl, HG.out.gx.ext.trans hx⟩
      · go_wp2_with fail
        refine (known_any _).mono ?_
        rintro e v9 ⟨rfl, hx⟩
        go_wp2_with fail
        go_ret
        exact ⟨rfl, HG.out.gx.ext.trans hx⟩
  · have hkI : (100 : Int) < (key.size : Int) := by omega
    go_wp2_with fail
    refine (known_any _).mono ?_
    rintro e v9 ⟨rfl, hx⟩
    go_wp2_with fail
    go_ret
    exact ⟨rfl, HP0.out.gx.ext.trans hx⟩
end Go.Proofs.Ytdahdghphjlmfaa
