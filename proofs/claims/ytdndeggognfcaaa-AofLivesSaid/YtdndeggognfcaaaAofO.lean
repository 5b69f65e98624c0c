/- The walk of package aof's Open. -/
import Derived.Test.YtdndeggognfcaaaAofU
namespace Go.Proofs.Ytdndeggognfcaaa
open Go.RowKit Crc Fil
set_option linter.unusedVariables false
set_option linter.unusedSectionVars false
set_option linter.unusedSimpArgs false
set_option maxRecDepth 100000


theorem frms_len8 (l : List (List UInt8)) (h : ∀ x ∈ l, good x) : 8 * l.length ≤ (frms l).length := by
  induction l with
  | nil => simp [frms]
  | cons x l ih =>
    show _ ≤ (frm x ++ frms l).length
    rw [List.length_append, frm_len (h x (by simp)), List.length_cons]
    have := ih (fun y hy => h y (by simp [hy]))
    omega
def recsL (t : St) : List ByteArray := (readL t.s.toList).map bs
def openL (g : Nat) (t : St) : LSt := ⟨g, (cutR t ((frms (readL t.s.toList)).length : Int)).2, recsL t, (recsL t).length, false⟩
set_option maxHeartbeats 8000000 in
theorem open_any (g : Nat) (L : List Nat) (t : St) (w : World) (h : FileAt w g L t) (hok : t.Ok) :
    Calls Try.prog 16 #[.pointer (some ⟨g, 0, none⟩)] w fun e w' => ∃ lg tb rv L', e = .returned (.tuple #[.pointer (some ⟨lg, 0, none⟩), .int .i64 0]) ∧ LogC w' lg tb rv L' (openL g t) ∧ Kp L w w' ∧ Sub w L (bl lg tb rv L') := by
  obtain ⟨i0, hi0, hz0, hz1, hz2⟩ := info_parts Try.strInfo
  have hte := text_any g L t w h
  have hto := hok.text.1
  dsimp only at hto
  have hcs : TabC Try.zeroCells76 := ⟨by kernel_rfl, by kernel_rfl, .inl (by kernel_rfl)⟩
  have hx1 := Ext.alloc w (.cells Try.zeroCells76 76)
  have hb1 := heap_alloc_new w (.cells Try.zeroCells76 76 (0, 0))
  have hs1 : (w.alloc (.cells Try.zeroCells76 76)).heap.size = w.heap.size + 1 := by simp
  have HW := Lib.hid (show w.heap.size ≤ w.heap.size from Nat.le_refl _)
  go_enter Try.func16, Try.ntmps16
  go_upto_region 4 with fail
  generalize w.alloc (.cells Try.zeroCells76 76) = w1 at hx1 hb1 hs1 ⊢
  have hx2 := Ext.alloc w1 (.cells #[.pointer (some ⟨g, 0, none⟩), .pointer (some ⟨w.heap.size, 0, none⟩), .slice none 0 0, .int .i64 0, .bool false] 47)
  have hb2 := heap_alloc_new w1 (.cells #[.pointer (some ⟨g, 0, none⟩), .pointer (some ⟨w.heap.size, 0, none⟩), .slice none 0 0, .int .i64 0, .bool false] 47 (0, 0))
  rw [hs1] at hb2
  generalize w1.alloc (.cells #[.pointer (some ⟨g, 0, none⟩), .pointer (some ⟨w.heap.size, 0, none⟩), .slice none 0 0, .int .i64 0, .bool false] 47) = w2 at hx2 hb2 ⊢
  have hb1' := (Kp.of_ext (L := []) hx2).heap hb1 (by simp)
  obtain ⟨B, hB⟩ : ∃ B, B = w.heap.size := ⟨_, rfl⟩
  rw [← hB] at hb1' hb2 ⊢
  have HBW := Lib.hid hB
  generalize hlg : B + 1 = lg at hb2 ⊢
  have HLG : Hid (B ≤ lg) := Lib.hid (by omega)
  have HC2 : Hid (LogC w2 lg B (.slice none 0 0) L ⟨g, t, [], 0, false⟩) := Lib.hid ⟨hb2, ⟨_, hb1', hcs⟩, World.ownsRow_nil _ _ _ _, h.ext (hx1.trans hx2)⟩
  have HX2 := Lib.hid (hx1.trans hx2)
  have hte2 := text_any g L t w2 HC2.out.file
  clear hx1 hx2 hb1 hb2 hb1' hs1 hcs hlg HW hte hB
  go_wp2_with fail
  refine hte2.mono ?_
  rintro e _ ⟨rfl, rfl⟩
  obtain ⟨R, hR⟩ : ∃ R, readL t.s.toList = R := ⟨_, rfl⟩
  have hrg := read_good t.s.toList
  rw [hR] at hrg
  have hsz := size_list t.s
  have hrl : 8 * R.length ≤ t.s.size := by
    obtain ⟨h1, r, h2, _⟩ := hrg
    have := congrArg List.length h2
    rw [List.length_append, hsz] at this
    have h3 := frms_len8 R h1
    omega
  have HRG := Lib.hid hrg
  clear hte2 hrg
  go_wp2_with fail
  go_loopw [6] (fun iv wr => ∃ (k : Nat) (rv : Value) (p : Nat), k ≤ R.length ∧ iv = .int .i64 (p : Int) ∧ p ≤ t.s.size ∧ p = (frms (R.take k)).length ∧ readL (t.s.toList.drop p) = R.drop k ∧ LogC wr lg B rv L ⟨g, t, (R.take k).map bs, 0, false⟩ ∧ Ext w wr ∧ (∀ j, rv.ownBlock = some j → B ≤ j)) (fun iv _ => t.s.size - (intOf iv).toNat)
  case atStart => exact ⟨0, _, 0, by omega, rfl, by omega, rfl, by simpa using hR, HC2.out, HX2.out, by simp [Value.ownBlock]⟩
  case round =>
    obtain ⟨k, rv, p, hk, rfl, hp, hpk, hrd, hc, hx, hrv⟩ := hrel
    have HC := Lib.hid hc
    have HX := Lib.hid hx
    have HRV := Lib.hid hrv
    have HRD := Lib.hid hrd
    have HPK := Lib.hid hpk
    obtain ⟨c0, c1, c2, c3, c4⟩ := hc.cells
    have hpI : (0 : Int) ≤ (p : Int) ∧ (p : Int) ≤ (t.s.size : Int) := by omega
    clear hrd hc hx hrv hpk c0 c2 c3 c4
    go_upto_region 5 with fail
    refine wp_region_held_drew (S := fun wz => wz.cell? ⟨lg, 1, none⟩ = some (.pointer (some ⟨B, 0, none⟩))) (by kernel_rfl) c1 (fun hHeld => ?_)
    have hxt : Ext wr wr.drew := Ext.drew _
    generalize wr.drew = v5 at hxt hHeld ⊢
    refine' wpAnyH_take (i := 0) (oi := _) (v := _) ?hi1 ?hs1 ?hf1 ?hr1 ?hQ1 (Or.inl ⟨?hw1, ?hy1⟩) (by assumption) ?hrest1
    case hi1 => simp only [List.getElem?_toArray]; rfl
    case hs1 => kernel_rfl
    case hf1 => kernel_rfl
    case hr1 => kernel_rfl
    case hQ1 => exact fun _ _ _ h => h
    case hw1 => rfl
    case hy1 => intro w hSw; (try dsimp only at hSw); go_simp; try with_reducible rfl
    try simp only [Act.put, List.setIfInBounds_toArray, List.set_cons_zero, List.set_cons_succ]
    refine' wpAnyH_take (i := 1) (oi := _) (v := _) ?hi2 ?hs2 ?hf2 ?hr2 ?hQ2 (Or.inl ⟨?hw2, ?hy2⟩) (by assumption) ?hrest2
    case hi2 => simp only [List.getElem?_toArray]; rfl
    case hs2 => kernel_rfl
    case hf2 => kernel_rfl
    case hr2 => kernel_rfl
    case hQ2 => exact fun _ _ _ h => h
    case hw2 => rfl
    case hy2 => intro w hSw; (try dsimp only at hSw); go_simp; try with_reducible rfl
    try simp only [Act.put, List.setIfInBounds_toArray, List.set_cons_zero, List.set_cons_succ]
    refine' wpAnyH_take (i := 2) (oi := _) (v := _) ?hi3 ?hs3 ?hf3 ?hr3 ?hQ3 (Or.inl ⟨?hw3, ?hy3⟩) (by assumption) ?hrest3
    case hi3 => simp only [List.getElem?_toArray]; rfl
    case hs3 => kernel_rfl
    case hf3 => kernel_rfl
    case hr3 => kernel_rfl
    case hQ3 => exact fun _ _ _ h => h
    case hw3 => rfl
    case hy3 => intro w hSw; (try dsimp only at hSw); go_simp; try with_reducible rfl
    try simp only [Act.put, List.setIfInBounds_toArray, List.set_cons_zero, List.set_cons_succ]
    refine' wpAnyH_take (i := 3) (oi := _) (v := _) ?hi4 ?hs4 ?hf4 ?hr4 ?hQ4 (Or.inl ⟨?hw4, ?hy4⟩) (by assumption) ?hrest4
    case hi4 => simp only [List.getElem?_toArray]; rfl
    case hs4 => kernel_rfl
    case hf4 => kernel_rfl
    case hr4 => kernel_rfl
    case hQ4 => exact fun _ _ _ h => h
    case hw4 => rfl
    case hy4 => intro w hSw; (try dsimp only at hSw); go_simp; try with_reducible rfl
    try simp only [Act.put, List.setIfInBounds_toArray, List.set_cons_zero, List.set_cons_succ]
    refine' wpAnyH_take (i := 4) (oi := _) (v := _) ?hi5 ?hs5 ?hf5 ?hr5 ?hQ5 (Or.inl ⟨?hw5, ?hy5⟩) (by assumption) ?hrest5
    case hi5 => simp only [List.getElem?_toArray]; rfl
    case hs5 => kernel_rfl
    case hf5 => kernel_rfl
    case hr5 => kernel_rfl
    case hQ5 => exact fun _ _ _ h => h
    case hw5 => rfl
    case hy5 => intro w hSw; (try dsimp only at hSw); go_simp; try with_reducible rfl
    try simp only [Act.put, List.setIfInBounds_toArray, List.set_cons_zero, List.set_cons_succ]
    refine' wpAnyH_take (i := 5) (oi := _) (v := _) ?hi6 ?hs6 ?hf6 ?hr6 ?hQ6 (Or.inl ⟨?hw6, ?hy6⟩) (by assumption) ?hrest6
    case hi6 => simp only [List.getElem?_toArray]; rfl
    case hs6 => kernel_rfl
    case hf6 => kernel_rfl
    case hr6 => kernel_rfl
    case hQ6 => exact fun _ _ _ h => h
    case hw6 => rfl
    case hy6 => intro w hSw; (try dsimp only at hSw); go_simp; try with_reducible rfl
    try simp only [Act.put, List.setIfInBounds_toArray, List.set_cons_zero, List.set_cons_succ]
    refine' wpAnyH_take (i := 6) (oi := _) (v := _) ?hi7 ?hs7 ?hf7 ?hr7 ?hQ7 (Or.inl ⟨?hw7, ?hy7⟩) (by assumption) ?hrest7
    case hi7 => simp only [List.getElem?_toArray]; rfl
    case hs7 => kernel_rfl
    case hf7 => kernel_rfl
    case hr7 => kernel_rfl
    case hQ7 => exact fun _ _ _ h => h
    case hw7 => rfl
    case hy7 => intro w hSw; (try dsimp only at hSw); go_simp; try with_reducible rfl
    try simp only [Act.put, List.setIfInBounds_toArray, List.set_cons_zero, List.set_cons_succ]
    refine wpAnyH_ready (rs := [7]) (by kernel_rfl) (by simp) ?_
    refine' AllReadyH.cons (o := _) ?ho8 (fun K hK => ?hstep8) AllReadyH.nil
    case ho8 => simp only [List.getElem?_toArray]; rfl
    go_simp
    have hxs : (t.s.extract p t.s.size).toList = t.s.toList.drop p := by
      rw [Lib.toList_data, Lib.toList_data]
      simp
      rw [List.take_of_length_le]
      have : t.s.data.size = t.s.size := rfl
      simp
    have hxz : (t.s.extract p t.s.size).size ≤ 16777216 := by rw [ByteArray.size_extract]; omega
    refine (first_any B (t.s.extract p t.s.size) v5 (HC.out.tab.ext hxt) (by omega)).mono ?_
    rintro e v6 ⟨rfl, ht6, hk6⟩
    rw [hxs]
    have HC6 := Lib.hid ((HC.out.ext hxt).tabbed hk6 ht6)
    have HX6 : Hid (Ext w v6) := Lib.hid (hk6.to_ext (HX.out.trans hxt) (by have := HBW.out; simp; omega))
    refine hK.out _ _ (HC6.out.cells.2.1) (fun hHeld => ?_)
    clear hK K
    try simp only [Act.put, List.setIfInBounds_toArray, List.set_cons_zero, List.set_cons_succ]
    clear ht6 hk6 hxt hxs hxz c1
    match hf : fstL (t.s.toList.drop p) with
    | none =>
      have hRk : R.drop k = [] := by rw [← HRD.out, read_none hf]
      have hkl : k = R.length := by
        have := congrArg List.length hRk
        simp at this
        omega
      have hem : (bs (Option.getD (none : Option (List UInt8)) [])).toList.isEmpty = true := by rw [bs_list]; rfl
      generalize bs (Option.getD (none : Option (List UInt8)) []) = x at hem ⊢
      clear hf hRk
      subst hkl
      refine' wpAnyH_take (i := 8) (oi := _) (v := _) ?hi10 ?hs10 ?hf10 ?hr10 ?hQ10 (Or.inl ⟨?hw10, ?hy10⟩) (by assumption) ?hrest10
      case hi10 => simp only [List.getElem?_toArray]; rfl
      case hs10 => kernel_rfl
      case hf10 => kernel_rfl
      case hr10 => kernel_rfl
      case hQ10 => exact fun _ _ _ h => h
      case hw10 => rfl
      case hy10 => intro w hSw; (try dsimp only at hSw); go_simp; try with_reducible rfl
      try simp only [Act.put, List.setIfInBounds_toArray, List.set_cons_zero, List.set_cons_succ]
      refine wpAnyH_done (by kernel_rfl) ?_ _
      obtain ⟨A, m, rfl⟩ := own_len HC6.out.own
      obtain ⟨c0, c1, c2, c3, c4⟩ := HC6.out.cells
      have f3 := heap_frozen HC6.out.blk 3
      have HC7 := Lib.hid (HC6.out.worded (n := R.length) (b := false) 3 (.int .i64 (R.length : Int)) rfl)
      have HX7 : Hid (Ext w (v6.setCell ⟨lg, 3, none⟩ (.int .i64 (R.length : Int)))) := Lib.hid ((Kp.store (L := [lg]) lg 3 _ (by simp)).to_ext HX6.out (by have := HBW.out; have := HLG.out; simp; omega))
      go_upto_region 10 with fail
      clear c0 c1 c2 c3 c4 f3
      generalize v6.setCell ⟨lg, 3, none⟩ (.int .i64 (R.length : Int)) = w7 at HC7 HX7 ⊢
      go_wp2_with fail
      refine (cut_any g L t (p : Int) w7 HC7.out.file (by omega) (by omega)).mono ?_
      rintro e w8 ⟨rfl, hd⟩
      have hcr : (cutR t (p : Int)).1 = 0 := by unfold cutR; rw [if_neg (by omega)]
      obtain ⟨L8, hc8, hk8, hs8⟩ := HC7.out.filed hd
      have HC8 := Lib.hid hc8
      have HK8 := Lib.hid (And.intro hk8 hs8)
      rw [hcr]
      clear hd hc8 hk8 hs8 hcr
      go_wp2_with fail
      go_ret2
      refine ⟨lg, B, .slice A (List.map bs (List.take R.length R)).length m, L8, rfl, ?_, (Kp.of_ext (L := L) HX7.out).trans HK8.out.1 (Sub.refl _ _), fun j hj => ?_⟩
      · have e1 : openL g t = ⟨g, (cutR t (p : Int)).2, List.map bs (List.take R.length R), R.length, false⟩ := by
          unfold openL recsL
          rw [hR, HPK.out, List.take_length, List.length_map]
        rw [e1]
        exact HC8.out
      · have hBW := HBW.out
        have hLG := HLG.out
        rcases mem_bl.1 hj with h | h | h | h
        · exact .inr (by omega)
        · exact .inr (by omega)
        · exact .inr (by have := HRV.out j h; omega)
        · exact (HK8.out.2 j h).imp id (fun hh => Nat.le_trans HX7.out.size hh)
    | some x =>
      obtain ⟨h1, h2, h3⟩ := fst_some hf
      have hRk : R.drop k = x :: readL ((t.s.toList.drop p).drop (x.length + 8)) := by rw [← HRD.out, read_some hf]
      rw [List.drop_drop] at hRk
      have hkl : k < R.length := by
        have := congrArg List.length hRk
        simp at this
        omega
      have hxk : R[k]? = some x := by
        have := congrArg (fun l => l[0]?) hRk
        simpa using this
      have hdk : R.drop (k + 1) = readL (t.s.toList.drop (p + (x.length + 8))) := by
        have := congrArg (fun l => l.drop 1) hRk
        simpa [List.drop_drop] using this
      have htk : frms (R.take (k + 1)) = frms (R.take k) ++ frm x := by rw [List.take_add_one, hxk, frms_app]; simp [frms]
      have hlk : (frms (R.take (k + 1))).length = p + x.length + 8 := by rw [htk, List.length_append, frm_len h1, ← HPK.out]; omega
      have hmk : (R.take (k + 1)).map bs = (R.take k).map bs ++ [bs x] := by rw [List.take_add_one, hxk, List.map_append]; rfl
      rw [List.length_drop, hsz] at h2
      have hem : (bs (Option.getD (some x) [])).toList.isEmpty = false := by
        rw [bs_list]
        cases x with
        | nil => exact absurd h1.1 (by decide)
        | cons a l => rfl
      have hxz : (bs (Option.getD (some x) [])).size = x.length := bs_size x
      have HMK : Hid ((R.take (k + 1)).map bs = (R.take k).map bs ++ [bs (Option.getD (some x) [])]) := Lib.hid hmk
      have HLK := Lib.hid hlk
      have HDK := Lib.hid hdk
      clear hf hRk hxk hdk htk hlk hmk h1 h3
      generalize bs (Option.getD (some x) []) = y at hem hxz HMK ⊢
      refine' wpAnyH_take (i := 8) (oi := _) (v := _) ?hi12 ?hs12 ?hf12 ?hr12 ?hQ12 (Or.inl ⟨?hw12, ?hy12⟩) (by assumption) ?hrest12
      case hi12 => simp only [List.getElem?_toArray]; rfl
      case hs12 => kernel_rfl
      case hf12 => kernel_rfl
      case hr12 => kernel_rfl
      case hQ12 => exact fun _ _ _ h => h
      case hw12 => rfl
      case hy12 => intro w hSw; (try dsimp only at hSw); go_simp; try with_reducible rfl
      try simp only [Act.put, List.setIfInBounds_toArray, List.set_cons_zero, List.set_cons_succ]
      refine wpAnyH_done (by kernel_rfl) ?_ _
      obtain ⟨c0, c1, c2, c3, c4⟩ := HC6.out.cells
      have hll : (List.map bs (List.take k R)).length ≤ 4294967296 := by rw [List.length_map, List.length_take]; omega
      go_wp2_with (first
        | (at_builtin
           have HC3 := Lib.hid (HC6.out.ext (Ext.alloc v6 (.cells #[.string y] 9)))
           refine wpList_append_rd (P := Try.prog) _ rfl (.tmp 30) (.tmp 32) 34 rfl 0 9 i0 (.string ByteArray.empty) 1 16 Try.underlying34 hi0 hz0 hz1 hz2 rfl (by decide) rv (List.map bs (List.take k R)).length _ rfl (by exact HC3.out.own) (some ⟨v6.heap.size, 0, none⟩) 1 1 [.string y] rfl rfl (by exact Rd.new v6 #[_] 9) (by intro u hu; simp at hu; subst hu; rfl) (by simp only [maxLen]; omega) (by omega) (Nat.zero_le _) ?_
           intro v4 w4 happ
           obtain ⟨A4, n4, k4, rfl⟩ := own_shape happ.own
           have happ' : Appended (v6.alloc (.cells #[.string y] 9)) w4 0 9 1 rv (.slice A4 n4 k4) (List.map bs (List.take k R) ++ [y]).length ((List.map bs (List.take k R) ++ [y]).map .string) := by rw [List.length_append, List.map_append]; exact happ
           have HR4 := Lib.hid (HC3.out.rowed happ')
           have hb4 := (ap_kp happ').heap HC3.out.blk (by simp; intro e; exact HC3.out.lg_row _ e rfl)
           clear c0 c1 c2 c3 c4 happ happ'
           have c2 := heap_cell hb4 2
           have f2 := heap_frozen hb4 2
           clear hb4))
      go_roundw
      case rel =>
        have hB := HBW.out
        have hL := HLG.out
        have hcl := HR4.out.1
        have hxa : Ext w (v6.alloc (.cells #[.string y] 9)) := HX6.out.trans (Ext.alloc v6 _)
        rw [← HMK.out] at hcl
        refine ⟨k + 1, _, p + x.length + 8, by omega, by go_num, by omega, HLK.out.symm, ?_, hcl, HR4.out.2.1.to_ext hxa ?_, fun j hj => ?_⟩
        · rw [HDK.out, Nat.add_assoc]
        · intro j hj
          simp at hj
          rcases hj with rfl | hj
          · omega
          · have := HRV.out j hj
            omega
        · rcases HR4.out.2.2 j hj with h | h
          · exact HRV.out j h
          · have := hxa.size
            omega
      case measure => simp [intOf]; omega
end Go.Proofs.Ytdndeggognfcaaa
