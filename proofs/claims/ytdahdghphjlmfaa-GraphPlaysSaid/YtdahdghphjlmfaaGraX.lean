/- GraphRefuses walked. -/
import Derived.Test.YtdahdghphjlmfaaGraH
import Derived.Deep.CutRange
import Derived.Deep.RegionHeld3
namespace Go.Proofs.Ytdahdghphjlmfaa
open Go.RowKit Sets Gra
set_option linter.unusedVariables false


/-- A graph that was made later stays as it is. -/
theorem other_graph {B B' g c : Nat} {w0 w1 w2 : World} {L L' Lc : List Rule} (hg : GraphAt B w0 g L) (hc : GraphAt w0.heap.size w1 c Lc) (hx : Ext w0 w1) (hd : GDid B' w1 w2 g L') : GraphAt w0.heap.size w2 c Lc := by
  obtain ⟨b, l, h1, h2, h3, h4, h5, h6⟩ := hg
  obtain ⟨b', hb', hk⟩ := hd.kp
  have := hx.cell (heap_cell h1 0)
  rw [hb'] at this
  injection this with e; injection e with e; injection e with e
  subst e
  have hlt := h2.lt
  obtain ⟨d, m, k1, k2, k3, k4, k5, k6⟩ := hc
  exact ⟨d, m, hk.heap k1 (by simp; omega), k2.kp hk (by simp; omega), k3, k4, k5, k6⟩
theorem below_kp {N : Nat} {w w' : World} (h : Below N w w') : Kp ((List.range w.heap.size).filter fun k => decide (N ≤ k)) w w' :=
  ⟨h.os, h.tape, h.output, h.size, fun k hk hn => h.block k (by
    simp at hn
    exact hn hk)⟩
/-- A graph that was there before. -/
theorem old_graph {B g : Nat} {w0 w1 w2 : World} {L L' : List Rule} (hg : GraphAt B w0 g L) (h1 : GraphAt B w1 g L') (hc : Cm w0 w1) (hb : Below w0.heap.size w1 w2) : GraphAt B w2 g L' := by
  obtain ⟨b, l, g1, g2, _⟩ := hg
  obtain ⟨b', l', k1, k2, k3, k4, k5, k6⟩ := h1
  have := hc.cells _ _ _ _ g1
  rw [k1] at this
  injection this with e; injection e with e; injection e with e; injection e with e; injection e with e; injection e with e
  subst e
  have hk := below_kp hb
  have hlt := g2.lt
  have hgl : g < w0.heap.size := (Array.getElem?_eq_some_iff.1 g1).1
  exact ⟨b', l', hk.heap k1 (by simp; omega), k2.kp hk (by simp; omega), k3, k4, k5, k6⟩
theorem add_twice {L : List Rule} {r : Rule} (ho : Ok L) (h : (addR L r).1 = 0) : (addR (addR L r).2 r).1 = 6 := by
  have hr := (add_ok h).2.2
  have hi := (add_into ho h).2
  generalize (addR L r).2 = M at hi ⊢
  unfold addR
  rw [if_neg (by simp [hr]), if_pos hi]
theorem len_add_ok {L : List Rule} {r : Rule} (h : (addR L r).1 = 0) : (addR L r).2.length = L.length + 1 := by
  rw [(add_ok h).1, len_insR]
set_option maxRecDepth 100000 in
set_option maxHeartbeats 60000000 in
theorem graphRefuses_any (v : Value) (xs : List GOp) (r : Rule) (w : World) (h : Row opC w v xs) (hok : ∀ o ∈ xs, GOpOk o) (hr0 : RuleOk r) :
    Calls Try.prog 8 #[v, ruleV r] w fun e w' => e = .returned (.bool true) ∧ Ext w w' := by
  obtain ⟨rs, rd, rk, rz, ra⟩ := r
  obtain ⟨A, n, c, rfl, hn, hnc, hc, hr⟩ := h
  have hc' : c ≤ 9223372036854775807 := by simpa [maxLen] using hc
  have HR := Lib.hid hr
  have HN := Lib.hid hn
  have HOK := Lib.hid hok
  have HRO := Lib.hid hr0
  clear hr hn hok hc hr0
  simp only [ruleV]
  go_enter Try.func8, Try.ntmps8
  go_wp2_with fail
  have hb := heap_alloc_new w (.cells #[.string rs, .string rd, .int .i64 rk, .int .i64 rz, .int .i64 ra] 31 (0, 0))
  have hx1 := Ext.alloc w (.cells #[.string rs, .string rd, .int .i64 rk, .int .i64 rz, .int .i64 ra] 31)
  generalize w.alloc (.cells #[.string rs, .string rd, .int .i64 rk, .int .i64 rz, .int .i64 ra] 31) = w1 at hb hx1 ⊢
  obtain ⟨p, hp⟩ : ∃ p, p = w.heap.size := ⟨_, rfl⟩
  rw [← hp] at hb
  rw [← hp]
  clear hp
  refine (new_any w1).mono ?_
  rintro e v1 ⟨g, rfl, hg, hx⟩
  have hgb : GraphAt w.heap.size v1 g [] := hg.base hx1.size
  have HG1 := Lib.hid (⟨hgb, hx1.trans hx⟩ : Gx w v1 g [])
  have HB := Lib.hid ((Cm.of_ext hx).cells _ _ _ _ hb)
  have hB0 := heap_cell HB.out 0
  have hB1 := heap_cell HB.out 1
  have hB2 := heap_cell HB.out 2
  have hB3 := heap_cell HB.out 3
  have hB4 := heap_cell HB.out 4
  clear hg hgb hx hb
  go_wp2_with fail
  refine (light_any ⟨rs, rd, rk, rz, ra⟩ v1 HRO.out).mono ?_
  rintro e v2 ⟨rfl, hx⟩
  have HB2 := Lib.hid ((Cm.of_ext hx).cells _ _ _ _ HB.out)
  have HG2 := Lib.hid (HG1.out.later hx)
  clear HB HG1 hx
  cases hlt : lightR ⟨rs, rd, rk, rz, ra⟩ with
  | false =>
    clear hlt
    go_wp2_with fail
    refine (known_any _).mono ?_
    rintro e v9 ⟨rfl, hx⟩
    go_wp2_with fail
    go_ret
    exact ⟨rfl, HG2.out.ext.trans hx⟩
  | true =>
    clear hlt
    go_wp2_with fail
    go_loopw [6] (fun i wr => ∃ (k : Nat) (L : List Rule), k ≤ n ∧ k ≤ 40 ∧ i = .int .i64 (k : Int) ∧ Gx w wr g L ∧ L.length ≤ k ∧ Cm v2 wr) (fun i _ => n - (intOf i).toNat)
    case atStart => exact ⟨0, [], by omega, by omega, rfl, HG2.out, by simp, Cm.refl _⟩
    case round =>
      obtain ⟨k, L, hk, hk40, rfl, hgx, hlen, hcm⟩ := hrel
      have HG := Lib.hid hgx
      have HCM := Lib.hid hcm
      clear hgx hcm
      by_cases hkn : k < n
      · by_cases hk4 : k < 40
        · obtain ⟨ad, rfl⟩ : ∃ ad, A = some ad := row_some HR.out opC_len (by decide) (by have := HN.out; omega)
          obtain ⟨o, hx⟩ : ∃ o, xs[k]? = some o := ⟨_, List.getElem?_eq_getElem (by have := HN.out; omega)⟩
          have HC := Lib.hid (fun wz (hw : Ext w wz) => gop_cells (HR.out.ext hw) hx)
          obtain ⟨c0, c1, c2, c3, c4, c5⟩ := HC.out wr HG.out.ext
          have hro := (HOK.out o (List.mem_of_getElem? hx)).r
          have HRQ := Lib.hid hro
          obtain ⟨kd, q⟩ := o
          obtain ⟨qs, qd, qk, qz, qa⟩ := q
          clear hro hx
          go_wp2_with fail
          clear c0 c1 c2 c3 c4 c5
          refine (light_any ⟨qs, qd, qk, qz, qa⟩ wr HRQ.out).mono ?_
          rintro e v3 ⟨rfl, hx⟩
          have HCM3 := Lib.hid (HCM.out.trans (Cm.of_ext hx))
          have HG3 := Lib.hid (HG.out.later hx)
          clear HG hx HCM
          cases hlt : lightR ⟨qs, qd, qk, qz, qa⟩ with
          | false =>
            clear hlt
            go_wp2_with fail
            go_roundw
            case rel => exact ⟨k + 1, L, by omega, by omega, by go_num, HG3.out, by omega, HCM3.out⟩
            case measure => simp [intOf]; omega
          | true =>
            clear hlt
            obtain ⟨c0, c1, c2, c3, c4, c5⟩ := HC.out v3 HG3.out.ext
            go_wp2_with fail
            clear c0 c1 c2 c3 c4 c5
            refine (add_any w.heap.size g L ⟨qs, qd, qk, qz, qa⟩ v3 HG3.out.at_ (by omega) HRQ.out HG3.out.ext.size).mono ?_
            rintro e v4 ⟨rfl, hd⟩
            have HCM4 := Lib.hid (HCM3.out.trans hd.cm)
            have HG4 := Lib.hid (HG3.out.did hd)
            clear HG3 HCM3 hd
            go_wp2_with fail
            go_roundw
            case rel => exact ⟨k + 1, (addR L ⟨qs, qd, qk, qz, qa⟩).2, by omega, by omega, by go_num, HG4.out, by have := len_addR L ⟨qs, qd, qk, qz, qa⟩; omega, HCM4.out⟩
            case measure => simp [intOf]; omega
        · have hk42 : 40 ≤ k := by omega
          go_wp2_with fail
          refine (all_any w.heap.size g L wr HG.out.at_ (by omega)).mono ?_
          rintro e v4 ⟨u, rfl, hrow, hx⟩
          have HRW := Lib.hid hrow
          obtain ⟨A4, n4, c4, rfl, hn4, hnc4, hc4, hr4⟩ := hrow
          have HN4 := Lib.hid hn4
          have HB4 := Lib.hid ((HCM.out.trans (Cm.of_ext hx)).cells _ _ _ _ HB2.out)
          have HG4 := Lib.hid (HG.out.later hx)
          clear hr4 hn4 hc4 hx HG HCM hnc4
          go_wp2_with fail
          refine (copy_any w.heap.size g L v4 HG4.out.at_ (by omega)).mono ?_
          rintro e v5 ⟨c2, rfl, hc2, hx⟩
          have HX5 := Lib.hid hx
          have HC5 := Lib.hid hc2
          have HB5 := Lib.hid ((Cm.of_ext hx).cells _ _ _ _ HB4.out)
          have HRW5 := Lib.hid ((Cm.of_ext hx).row HRW.out)
          have HG5 := Lib.hid (HG4.out.later hx)
          clear hx hc2 HB4 HRW
          have hB0 := heap_cell HB5.out 0
          have hB1 := heap_cell HB5.out 1
          have hB2 := heap_cell HB5.out 2
          have hB3 := heap_cell HB5.out 3
          have hB4 := heap_cell HB5.out 4
          go_wp2_with fail
          clear hB0 hB1 hB2 hB3 hB4
          refine (add_any w.heap.size g L ⟨rs, rd, rk, rz, ra⟩ v5 HG5.out.at_ (by omega) HRO.out HG5.out.ext.size).mono ?_
          rintro e v6 ⟨rfl, hd⟩
          have HC6 := Lib.hid (other_graph HG4.out.at_ HC5.out HX5.out hd)
          have HB6 := Lib.hid (hd.cm.cells _ _ _ _ HB5.out)
          have HRW6 := Lib.hid (hd.cm.row HRW5.out)
          have HG6 := Lib.hid (HG5.out.did hd)
          have HCM6 := Lib.hid ((Cm.of_ext HX5.out).trans hd.cm)
          have HS6 := Lib.hid (Nat.le_trans HX5.out.size hd.cm.size)
          have HX6 := Lib.hid HG4.out.ext.size
          clear hd HC5 HB5 HRW5 HG5 HX5
          have hB0 := heap_cell HB6.out 0
          have hB1 := heap_cell HB6.out 1
          have hB2 := heap_cell HB6.out 2
          have hB3 := heap_cell HB6.out 3
          have hB4 := heap_cell HB6.out 4
          go_wp2_with fail
          clear hB0 hB1 hB2 hB3 hB4
          refine (add_any v4.heap.size c2 L ⟨rs, rd, rk, rz, ra⟩ v6 HC6.out (by omega) HRO.out HS6.out).mono ?_
          rintro e v7 ⟨rfl, hd⟩
          have HG7 := Lib.hid (⟨old_graph HG4.out.at_ HG6.out.at_ HCM6.out hd.below, Below.trans HG6.out.ext (Below.mono hd.below HX6.out)⟩ : Gx w v7 g _)
          have HC7 := Lib.hid hd.at_
          have HB7 := Lib.hid (hd.cm.cells _ _ _ _ HB6.out)
          have HRW7 := Lib.hid (hd.cm.row HRW6.out)
          have HLL := Lib.hid (len_addR L ⟨rs, rd, rk, rz, ra⟩)
          clear hd HG6 HC6 HB6 HRW6 HS6 HX6 HCM6
          go_wp2_with fail
          refine (all_any w.heap.size g _ v7 HG7.out.at_ (by have := HLL.out; omega)).mono ?_
          rintro e v8 ⟨u8, rfl, hrow, hx⟩
          have HR8 := Lib.hid hrow
          have HX8 := Lib.hid hx
          clear hrow hx
          go_wp2_with fail
          refine (plain_any u8 _ v8 HR8.out (by have := HLL.out; omega)).mono ?_
          rintro e v9 ⟨u9, rfl, hrow, hx⟩
          have HR9 := Lib.hid hrow
          have HX9 := Lib.hid (HX8.out.trans hx)
          clear hrow hx HR8 HX8
          go_wp2_with fail
          refine (all_any v4.heap.size c2 _ v9 (HC7.out.ext HX9.out) (by have := HLL.out; omega)).mono ?_
          rintro e v10 ⟨u10, rfl, hrow, hx⟩
          have HR10 := Lib.hid hrow
          have HR10b := Lib.hid (HR9.out.ext hx)
          have HX10 := Lib.hid (HX9.out.trans hx)
          clear hrow hx HR9 HX9
          go_wp2_with fail
          refine (plain_any u10 _ v10 HR10.out (by have := HLL.out; omega)).mono ?_
          rintro e v11 ⟨u11, rfl, hrow, hx⟩
          have HR11 := Lib.hid hrow
          have HR11b := Lib.hid (HR10b.out.ext hx)
          have HX11 := Lib.hid (HX10.out.trans hx)
          clear hrow hx HR10 HR10b HX10
          go_wp2_with fail
          refine (same_any u9 u11 _ _ v11 HR11b.out HR11.out).mono ?_
          rintro e v12 ⟨rfl, hx⟩
          rw [decide_eq_true rfl]
          have HG12 := Lib.hid (HG7.out.later (HX11.out.trans hx))
          have HB12 := Lib.hid ((Cm.of_ext (HX11.out.trans hx)).cells _ _ _ _ HB7.out)
          have HRW12 := Lib.hid ((Cm.of_ext (HX11.out.trans hx)).row HRW7.out)
          clear hx HX11 HR11 HR11b HG7 HB7 HRW7 HC7
          have hB0 := heap_cell HB12.out 0
          have hB1 := heap_cell HB12.out 1
          have hB2 := heap_cell HB12.out 2
          have hB3 := heap_cell HB12.out 3
          have hB4 := heap_cell HB12.out 4
          by_cases he : (addR L ⟨rs, rd, rk, rz, ra⟩).1 = 0
          · have he2 : ((addR L ⟨rs, rd, rk, rz, ra⟩).1 == 0) = true := by simpa using he
            have HE2 := Lib.hid (add_twice HG4.out.at_.ok he)
            have HE3 := Lib.hid (len_add_ok he)
            have he3 : ((addR L ⟨rs, rd, rk, rz, ra⟩).1 != 0) = false := by simpa using he
            clear he
            go_wp2_with fail
            clear hB0 hB1 hB2 hB3 hB4
            refine (add_any w.heap.size g _ ⟨rs, rd, rk, rz, ra⟩ v12 HG12.out.at_ (by have := HLL.out; omega) HRO.out HG12.out.ext.size).mono ?_
            rintro e v13 ⟨rfl, hd⟩
            have he6 : (addR (addR L ⟨rs, rd, rk, rz, ra⟩).2 ⟨rs, rd, rk, rz, ra⟩).2 = (addR L ⟨rs, rd, rk, rz, ra⟩).2 := add_same (by rw [HE2.out]; decide)
            rw [he6] at hd
            rw [HE2.out]
            have HG13 := Lib.hid (HG12.out.did hd)
            clear hd HG12 HRW12 HB12 he6
            go_wp2_with fail
            refine (all_any w.heap.size g _ v13 HG13.out.at_ (by have := HLL.out; omega)).mono ?_
            rintro e v14 ⟨u14, rfl, hrow, hx⟩
            obtain ⟨A14, n14, c14, rfl, hn14, _⟩ := hrow
            have hn : n14 = n4 + 1 := by rw [← hn14, HE3.out, HN4.out]
            have hn4 : n4 ≤ 40 := by have := HN4.out; omega
            have hnI : (n14 : Int) = (n4 : Int) + 1 := by omega
            have HG14 := Lib.hid (HG13.out.later hx)
            clear hx HG13 hn14 hn
            go_wp2_with fail
            refine (known_any _).mono ?_
            rintro e v9 ⟨rfl, hx⟩
            go_wp2_with fail
            go_ret
            exact ⟨rfl, HG14.out.ext.trans hx⟩
          · have he2 : ((addR L ⟨rs, rd, rk, rz, ra⟩).1 == 0) = false := by simpa using he
            have he3 : ((addR L ⟨rs, rd, rk, rz, ra⟩).1 != 0) = true := by simpa using he
            have HE := Lib.hid (add_same he)
            clear he
            rw [HE.out] at HG12
            go_wp2_with fail
            clear hB0 hB1 hB2 hB3 hB4
            refine (add_any w.heap.size g L ⟨rs, rd, rk, rz, ra⟩ v12 HG12.out.at_ (by omega) HRO.out HG12.out.ext.size).mono ?_
            rintro e v13 ⟨rfl, hd⟩
            rw [HE.out] at hd
            have HG13 := Lib.hid (HG12.out.did hd)
            have HRW13 := Lib.hid (hd.cm.row HRW12.out)
            clear hd HG12 HRW12 HB12
            go_wp2_with fail
            refine (all_any w.heap.size g _ v13 HG13.out.at_ (by omega)).mono ?_
            rintro e v14 ⟨u14, rfl, hrow, hx⟩
            have HR14 := Lib.hid hrow
            have HRW14 := Lib.hid ((Cm.of_ext hx).row HRW13.out)
            have HG14 := Lib.hid (HG13.out.later hx)
            clear hx HG13 hrow HRW13
            go_wp2_with fail
            refine (plain_any u14 _ v14 HR14.out (by omega)).mono ?_
            rintro e v15 ⟨u15, rfl, hrow, hx⟩
            have HR15 := Lib.hid hrow
            have HRW15 := Lib.hid ((Cm.of_ext hx).row HRW14.out)
            have HG15 := Lib.hid (HG14.out.later hx)
            clear hx HG14 hrow HRW14 HR14
            go_wp2_with fail
            refine (plain_any _ L v15 HRW15.out (by omega)).mono ?_
            rintro e v16 ⟨u16, rfl, hrow, hx⟩
            have HR16 := Lib.hid hrow
            have HR16b := Lib.hid (HR15.out.ext hx)
            have HG16 := Lib.hid (HG15.out.later hx)
            clear hx HG15 hrow HRW15 HR15
            go_wp2_with fail
            refine (same_any u15 u16 _ _ v16 HR16b.out HR16.out).mono ?_
            rintro e v17 ⟨rfl, hx⟩
            rw [decide_eq_true rfl]
            have HG17 := Lib.hid (HG16.out.later hx)
            clear hx HG16 HR16 HR16b
            go_wp2_with fail
            refine (known_any _).mono ?_
            rintro e v9 ⟨rfl, hx⟩
            go_wp2_with fail
            go_ret
            exact ⟨rfl, HG17.out.ext.trans hx⟩
      · go_wp2_with fail
        refine (all_any w.heap.size g L wr HG.out.at_ (by omega)).mono ?_
        rintro e v4 ⟨u, rfl, hrow, hx⟩
        have HRW := Lib.hid hrow
        obtain ⟨A4, n4, c4, rfl, hn4, hnc4, hc4, hr4⟩ := hrow
        have HN4 := Lib.hid hn4
        have HB4 := Lib.hid ((HCM.out.trans (Cm.of_ext hx)).cells _ _ _ _ HB2.out)
        have HG4 := Lib.hid (HG.out.later hx)
        clear hr4 hn4 hc4 hx HG HCM hnc4
        go_wp2_with fail
        refine (copy_any w.heap.size g L v4 HG4.out.at_ (by omega)).mono ?_
        rintro e v5 ⟨c2, rfl, hc2, hx⟩
        have HX5 := Lib.hid hx
        have HC5 := Lib.hid hc2
        have HB5 := Lib.hid ((Cm.of_ext hx).cells _ _ _ _ HB4.out)
        have HRW5 := Lib.hid ((Cm.of_ext hx).row HRW.out)
        have HG5 := Lib.hid (HG4.out.later hx)
        clear hx hc2 HB4 HRW
        have hB0 := heap_cell HB5.out 0
        have hB1 := heap_cell HB5.out 1
        have hB2 := heap_cell HB5.out 2
        have hB3 := heap_cell HB5.out 3
        have hB4 := heap_cell HB5.out 4
        go_wp2_with fail
        clear hB0 hB1 hB2 hB3 hB4
        refine (add_any w.heap.size g L ⟨rs, rd, rk, rz, ra⟩ v5 HG5.out.at_ (by omega) HRO.out HG5.out.ext.size).mono ?_
        rintro e v6 ⟨rfl, hd⟩
        have HC6 := Lib.hid (other_graph HG4.out.at_ HC5.out HX5.out hd)
        have HB6 := Lib.hid (hd.cm.cells _ _ _ _ HB5.out)
        have HRW6 := Lib.hid (hd.cm.row HRW5.out)
        have HG6 := Lib.hid (HG5.out.did hd)
        have HCM6 := Lib.hid ((Cm.of_ext HX5.out).trans hd.cm)
        have HS6 := Lib.hid (Nat.le_trans HX5.out.size hd.cm.size)
        have HX6 := Lib.hid HG4.out.ext.size
        clear hd HC5 HB5 HRW5 HG5 HX5
        have hB0 := heap_cell HB6.out 0
        have hB1 := heap_cell HB6.out 1
        have hB2 := heap_cell HB6.out 2
        have hB3 := heap_cell HB6.out 3
        have hB4 := heap_cell HB6.out 4
        go_wp2_with fail
        clear hB0 hB1 hB2 hB3 hB4
        refine (add_any v4.heap.size c2 L ⟨rs, rd, rk, rz, ra⟩ v6 HC6.out (by omega) HRO.out HS6.out).mono ?_
        rintro e v7 ⟨rfl, hd⟩
        have HG7 := Lib.hid (⟨old_graph HG4.out.at_ HG6.out.at_ HCM6.out hd.below, Below.trans HG6.out.ext (Below.mono hd.below HX6.out)⟩ : Gx w v7 g _)
        have HC7 := Lib.hid hd.at_
        have HB7 := Lib.hid (hd.cm.cells _ _ _ _ HB6.out)
        have HRW7 := Lib.hid (hd.cm.row HRW6.out)
        have HLL := Lib.hid (len_addR L ⟨rs, rd, rk, rz, ra⟩)
        clear hd HG6 HC6 HB6 HRW6 HS6 HX6 HCM6
        go_wp2_with fail
        refine (all_any w.heap.size g _ v7 HG7.out.at_ (by have := HLL.out; omega)).mono ?_
        rintro e v8 ⟨u8, rfl, hrow, hx⟩
        have HR8 := Lib.hid hrow
        have HX8 := Lib.hid hx
        clear hrow hx
        go_wp2_with fail
        refine (plain_any u8 _ v8 HR8.out (by have := HLL.out; omega)).mono ?_
        rintro e v9 ⟨u9, rfl, hrow, hx⟩
        have HR9 := Lib.hid hrow
        have HX9 := Lib.hid (HX8.out.trans hx)
        clear hrow hx HR8 HX8
        go_wp2_with fail
        refine (all_any v4.heap.size c2 _ v9 (HC7.out.ext HX9.out) (by have := HLL.out; omega)).mono ?_
        rintro e v10 ⟨u10, rfl, hrow, hx⟩
        have HR10 := Lib.hid hrow
        have HR10b := Lib.hid (HR9.out.ext hx)
        have HX10 := Lib.hid (HX9.out.trans hx)
        clear hrow hx HR9 HX9
        go_wp2_with fail
        refine (plain_any u10 _ v10 HR10.out (by have := HLL.out; omega)).mono ?_
        rintro e v11 ⟨u11, rfl, hrow, hx⟩
        have HR11 := Lib.hid hrow
        have HR11b := Lib.hid (HR10b.out.ext hx)
        have HX11 := Lib.hid (HX10.out.trans hx)
        clear hrow hx HR10 HR10b HX10
        go_wp2_with fail
        refine (same_any u9 u11 _ _ v11 HR11b.out HR11.out).mono ?_
        rintro e v12 ⟨rfl, hx⟩
        rw [decide_eq_true rfl]
        have HG12 := Lib.hid (HG7.out.later (HX11.out.trans hx))
        have HB12 := Lib.hid ((Cm.of_ext (HX11.out.trans hx)).cells _ _ _ _ HB7.out)
        have HRW12 := Lib.hid ((Cm.of_ext (HX11.out.trans hx)).row HRW7.out)
        clear hx HX11 HR11 HR11b HG7 HB7 HRW7 HC7
        have hB0 := heap_cell HB12.out 0
        have hB1 := heap_cell HB12.out 1
        have hB2 := heap_cell HB12.out 2
        have hB3 := heap_cell HB12.out 3
        have hB4 := heap_cell HB12.out 4
        by_cases he : (addR L ⟨rs, rd, rk, rz, ra⟩).1 = 0
        · have he2 : ((addR L ⟨rs, rd, rk, rz, ra⟩).1 == 0) = true := by simpa using he
          have HE2 := Lib.hid (add_twice HG4.out.at_.ok he)
          have HE3 := Lib.hid (len_add_ok he)
          have he3 : ((addR L ⟨rs, rd, rk, rz, ra⟩).1 != 0) = false := by simpa using he
          clear he
          go_wp2_with fail
          clear hB0 hB1 hB2 hB3 hB4
          refine (add_any w.heap.size g _ ⟨rs, rd, rk, rz, ra⟩ v12 HG12.out.at_ (by have := HLL.out; omega) HRO.out HG12.out.ext.size).mono ?_
          rintro e v13 ⟨rfl, hd⟩
          have he6 : (addR (addR L ⟨rs, rd, rk, rz, ra⟩).2 ⟨rs, rd, rk, rz, ra⟩).2 = (addR L ⟨rs, rd, rk, rz, ra⟩).2 := add_same (by rw [HE2.out]; decide)
          rw [he6] at hd
          rw [HE2.out]
          have HG13 := Lib.hid (HG12.out.did hd)
          clear hd HG12 HRW12 HB12 he6
          go_wp2_with fail
          refine (all_any w.heap.size g _ v13 HG13.out.at_ (by have := HLL.out; omega)).mono ?_
          rintro e v14 ⟨u14, rfl, hrow, hx⟩
          obtain ⟨A14, n14, c14, rfl, hn14, _⟩ := hrow
          have hn : n14 = n4 + 1 := by rw [← hn14, HE3.out, HN4.out]
          have hn4 : n4 ≤ 40 := by have := HN4.out; omega
          have hnI : (n14 : Int) = (n4 : Int) + 1 := by omega
          have HG14 := Lib.hid (HG13.out.later hx)
          clear hx HG13 hn14 hn
          go_wp2_with fail
          refine (known_any _).mono ?_
          rintro e v9 ⟨rfl, hx⟩
          go_wp2_with fail
          go_ret
          exact ⟨rfl, HG14.out.ext.trans hx⟩
        · have he2 : ((addR L ⟨rs, rd, rk, rz, ra⟩).1 == 0) = false := by simpa using he
          have he3 : ((addR L ⟨rs, rd, rk, rz, ra⟩).1 != 0) = true := by simpa using he
          have HE := Lib.hid (add_same he)
          clear he
          rw [HE.out] at HG12
          go_wp2_with fail
          clear hB0 hB1 hB2 hB3 hB4
          refine (add_any w.heap.size g L ⟨rs, rd, rk, rz, ra⟩ v12 HG12.out.at_ (by omega) HRO.out HG12.out.ext.size).mono ?_
          rintro e v13 ⟨rfl, hd⟩
          rw [HE.out] at hd
          have HG13 := Lib.hid (HG12.out.did hd)
          have HRW13 := Lib.hid (hd.cm.row HRW12.out)
          clear hd HG12 HRW12 HB12
          go_wp2_with fail
          refine (all_any w.heap.size g _ v13 HG13.out.at_ (by omega)).mono ?_
          rintro e v14 ⟨u14, rfl, hrow, hx⟩
          have HR14 := Lib.hid hrow
          have HRW14 := Lib.hid ((Cm.of_ext hx).row HRW13.out)
          have HG14 := Lib.hid (HG13.out.later hx)
          clear hx HG13 hrow HRW13
          go_wp2_with fail
          refine (plain_any u14 _ v14 HR14.out (by omega)).mono ?_
          rintro e v15 ⟨u15, rfl, hrow, hx⟩
          have HR15 := Lib.hid hrow
          have HRW15 := Lib.hid ((Cm.of_ext hx).row HRW14.out)
          have HG15 := Lib.hid (HG14.out.later hx)
          clear hx HG14 hrow HRW14 HR14
          go_wp2_with fail
          refine (plain_any _ L v15 HRW15.out (by omega)).mono ?_
          rintro e v16 ⟨u16, rfl, hrow, hx⟩
          have HR16 := Lib.hid hrow
          have HR16b := Lib.hid (HR15.out.ext hx)
          have HG16 := Lib.hid (HG15.out.later hx)
          clear hx HG15 hrow HRW15 HR15
          go_wp2_with fail
          refine (same_any u15 u16 _ _ v16 HR16b.out HR16.out).mono ?_
          rintro e v17 ⟨rfl, hx⟩
          rw [decide_eq_true rfl]
          have HG17 := Lib.hid (HG16.out.later hx)
          clear hx HG16 HR16 HR16b
          go_wp2_with fail
          refine (known_any _).mono ?_
          rintro e v9 ⟨rfl, hx⟩
          go_wp2_with fail
          go_ret
          exact ⟨rfl, HG17.out.ext.trans hx⟩
end Go.Proofs.Ytdahdghphjlmfaa
