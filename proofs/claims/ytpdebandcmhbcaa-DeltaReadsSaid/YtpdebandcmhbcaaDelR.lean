/- The statement DeltaMore, walked. -/
import Derived.Test.YtpdebandcmhbcaaDelX
import Derived.Test.YtpdebandcmhbcaaDelA
import Derived.Test.YtpdebandcmhbcaaDelT
import Derived.Test.YtpdebandcmhbcaaSte
namespace Go.Proofs.Ytpdebandcmhbcaa
open Go.RowKit Bit
set_option linter.unusedVariables false

theorem fin_two (a b x0 : Smp) (t q : List Smp) (h : x0 :: t = q ++ [b, a]) : finS x0 0 t = (a, wrap64 (a.1 - b.1)) := by
  cases q with
  | nil =>
    simp at h
    obtain ⟨rfl, rfl⟩ := h
    rfl
  | cons y q =>
    simp only [List.cons_append, List.cons.injEq] at h
    obtain ⟨rfl, rfl⟩ := h
    have e : q ++ [b, a] = (q ++ [b]) ++ [a] := by simp
    rw [e, finS_snoc, finS_snoc]
theorem more_enc (x : Smp) {l : List Smp} {n2 : Nat} {a b : Smp} (hl : l.length = n2 + 2) (ha : l[n2 + 1]? = some a) (hb : l[n2]? = some b) :
    encB (l ++ [x]) = encB l ++ (codeB (zigN (wrap64 (wrap64 (x.1 - a.1) - wrap64 (a.1 - b.1)))) ++ codeB (zigN (wrap64 (x.2 - a.2)))) := by
  have hs : l = l.take n2 ++ [b, a] := by
    apply List.ext_getElem?
    intro i
    rw [List.getElem?_append, List.length_take, hl]
    by_cases h1 : i < n2
    · rw [if_pos (by omega), List.getElem?_take, if_pos h1]
    · rw [if_neg (by omega)]
      by_cases h2 : i = n2
      · subst h2
        rw [hb, show i - min i (i + 2) = 0 by omega]
        rfl
      · by_cases h3 : i = n2 + 1
        · subst h3
          rw [ha, show n2 + 1 - min n2 (n2 + 2) = 1 by omega]
          rfl
        · rw [List.getElem?_eq_none (by omega), List.getElem?_eq_none (by simp; omega)]
  cases l with
  | nil => simp at hl
  | cons x0 t =>
    rw [List.cons_append, encB_snoc, fin_two a b x0 t _ hs]
theorem Try.smpLit {w : World} {B : Nat} (hb : B ≤ w.heap.size) : (w.alloc (.cells #[] 59)).ownsRow B 59 2 (.slice (some ⟨w.heap.size, 0, none⟩) 0 0) 0 [] :=
  World.ownsRow_lit w #[] 0 hb (by simp [maxLen]) rfl
set_option maxRecDepth 100000 in
set_option maxHeartbeats 8000000 in
theorem deltaMore_any (u : Value) (l : List Smp) (t v : Int) (w : World) (h : Row smpC w u l) (hok : ∀ x ∈ l, SmpOk x) (ht : -9223372036854775808 ≤ t ∧ t ≤ 9223372036854775807) (hv : -9223372036854775808 ≤ v ∧ v ≤ 9223372036854775807) :
    Calls Try.prog 8 #[u, .agg #[.int .i64 t, .int .i64 v]] w fun e w' => e = .returned (.bool true) ∧ Ext w w' := by
  obtain ⟨i1, hi1, hz3, hz4, hz5⟩ := info_parts Try.smpInfo
  have HV := Lib.hid h
  obtain ⟨A, n, c, rfl, hn, hnc, hc, hr⟩ := h
  have hc' : c ≤ 9223372036854775807 := by simpa [maxLen] using hc
  have HN := Lib.hid hn
  have HR := Lib.hid hr
  have HOK := Lib.hid hok
  have HXV := Lib.hid (⟨ht.1, ht.2, hv.1, hv.2⟩ : SmpOk (t, v))
  clear hn hok hc hr ht hv
  have hbx := heap_alloc_new w (.cells #[.int .i64 t, .int .i64 v] 59 (0, 0))
  have hx1 := Ext.alloc w (.cells #[.int .i64 t, .int .i64 v] 59)
  by_cases h2 : n < 2
  · have h2I : (n : Int) < 2 := by omega
    go_enter Try.func8, Try.ntmps8
    go_wp2_with fail
    have HX1 := Lib.hid hx1
    clear hx1 hbx
    refine (known_any _).mono ?_
    rintro e v9 ⟨rfl, hx⟩
    go_wp2_with fail
    go_ret
    exact ⟨rfl, HX1.out.trans hx⟩
  by_cases h60 : 60 < n
  · have h2I : (60 : Int) < (n : Int) := by omega
    have h2J : (2 : Int) ≤ (n : Int) := by omega
    go_enter Try.func8, Try.ntmps8
    go_wp2_with fail
    have HX1 := Lib.hid hx1
    clear hx1 hbx
    refine (known_any _).mono ?_
    rintro e v9 ⟨rfl, hx⟩
    go_wp2_with fail
    go_ret
    exact ⟨rfl, HX1.out.trans hx⟩
  obtain ⟨m, hm⟩ : ∃ m, n = m + 2 := ⟨n - 2, by omega⟩
  obtain ⟨k, hk⟩ : ∃ k, k = m + 1 := ⟨_, rfl⟩
  obtain ⟨ad, rfl⟩ : ∃ ad, A = some ad := row_some HR.out smpC_len (by decide) (by have := HN.out; omega)
  obtain ⟨a, ha⟩ : ∃ q, l[m + 1]? = some q := ⟨_, List.getElem?_eq_getElem (by have := HN.out; omega)⟩
  obtain ⟨b, hb⟩ : ∃ q, l[m]? = some q := ⟨_, List.getElem?_eq_getElem (by have := HN.out; omega)⟩
  have HENC := Lib.hid (more_enc (t, v) (by rw [HN.out, hm]) ha hb)
  rw [← hk] at ha
  have HCA := Lib.hid (fun (wz : World) (hw : Ext w wz) => smp_cells (HR.out.ext hw) ha)
  have HCB := Lib.hid (fun (wz : World) (hw : Ext w wz) => smp_cells (HR.out.ext hw) hb)
  obtain ⟨a1, a2⟩ := a
  obtain ⟨b1, b2⟩ := b
  clear ha hb
  have g1 : (n : Int) - 1 = (k : Int) := by omega
  have g2 : (n : Int) - 2 = (m : Int) := by omega
  have g3 : (k : Int) < (n : Int) := by omega
  have g4 : (m : Int) < (n : Int) := by omega
  have g5 : (0 : Int) ≤ (k : Int) := by omega
  have g6 : (0 : Int) ≤ (m : Int) := by omega
  have g7 : IntKind.i64.wrap (k : Int) = (k : Int) := by rw [IntWalk.i64_left]; unfold wrap64; omega
  have g8 : IntKind.i64.wrap (m : Int) = (m : Int) := by rw [IntWalk.i64_left]; unfold wrap64; omega
  have g9 : (2 : Int) ≤ (n : Int) := by omega
  have g10 : (n : Int) ≤ 60 := by omega
  have HNM := Lib.hid (⟨hm, hk⟩ : n = m + 2 ∧ k = m + 1)
  clear hm hk
  have e1 : IntKind.i64.wrap (a1 - b1) = wrap64 (a1 - b1) := IntWalk.i64_left _
  obtain ⟨c0, c1⟩ := HCA.out _ hx1
  obtain ⟨d0, d1⟩ := HCB.out _ hx1
  dsimp only at c0 c1 d0 d1
  go_enter Try.func8, Try.ntmps8
  go_upto_region 4 with fail
  generalize w.alloc (.cells #[.int .i64 t, .int .i64 v] 59) = w1 at *
  generalize w.heap.size = p at *
  go_quiet (fail)
  go_wp2_with fail
  refine (enc_any _ l _ (HV.out.ext (hx1.trans (Ext.drewN _ _))) HOK.out (by have := HN.out; omega)).mono ?_
  rintro e v1 ⟨sa, rfl, hsa, hx⟩
  have hx2 : Ext w1 v1 := (Ext.drewN _ w1).trans hx
  go_wp2_with fail
  have HSA := Lib.hid hsa
  have HX1 := Lib.hid hx1
  have HX2 := Lib.hid hx2
  have HP := Lib.hid (fun (wz : World) (hw : Ext w1 wz) => (⟨heap_cell ((Kp.of_ext (L := []) hw).heap hbx (by simp)) 0, heap_cell ((Kp.of_ext (L := []) hw).heap hbx (by simp)) 1⟩ : wz.cell? ⟨p, 0, none⟩ = some (.int .i64 t) ∧ wz.cell? ⟨p, 1, none⟩ = some (.int .i64 v)))
  clear hx hsa hx1 hx2 hbx c0 c1 d0 d1
  go_upto_region 6 with fail
  go_cut [9, 10, 42] from 43 (fun s9 s10 _ wx => ∃ sb : ByteArray, s9 = .string sb ∧ s10 = .int .i64 ((encB (l ++ [(t, v)])).length : Int) ∧ Packed (encB (l ++ [(t, v)])) sb.toList ∧ Ext w1 wx)
  case first =>
    obtain ⟨p0, p1⟩ := HP.out v1 HX2.out
    have hxE : Ext v1 (v1.alloc (.cells #[] 59)).drew := (Ext.alloc _ _).trans (Ext.drew _)
    have hxX : Ext v1 (v1.alloc (.cells #[.int .i64 t, .int .i64 v] 59)).drew := (Ext.alloc _ _).trans (Ext.drew _)
    have hxEX : Ext v1 ((v1.alloc (.cells #[] 59)).alloc (.cells #[.int .i64 t, .int .i64 v] 59)).drew := ((Ext.alloc _ _).trans (Ext.alloc _ _)).trans (Ext.drew _)
    have hxXE : Ext v1 ((v1.alloc (.cells #[.int .i64 t, .int .i64 v] 59)).alloc (.cells #[] 59)).drew := ((Ext.alloc _ _).trans (Ext.alloc _ _)).trans (Ext.drew _)
    have oE : (v1.alloc (.cells #[] 59)).drew.ownsRow v1.heap.size 59 2 (.slice (some ⟨v1.heap.size, 0, none⟩) 0 0) 0 [] := (ap_lit (w := v1) (Nat.le_refl _) rfl).drew
    have oEX : ((v1.alloc (.cells #[] 59)).alloc (.cells #[.int .i64 t, .int .i64 v] 59)).drew.ownsRow v1.heap.size 59 2 (.slice (some ⟨v1.heap.size, 0, none⟩) 0 0) 0 [] := ((ap_lit (w := v1) (Nat.le_refl _) rfl).alloc _).drew
    have oXE : ((v1.alloc (.cells #[.int .i64 t, .int .i64 v] 59)).alloc (.cells #[] 59)).drew.ownsRow v1.heap.size 59 2 (.slice (some ⟨v1.heap.size + 1, 0, none⟩) 0 0) 0 [] := (ap_lit (w := v1.alloc _) (Ext.alloc v1 _).size (by simp)).drew
    have rEX : Rd ((v1.alloc (.cells #[] 59)).alloc (.cells #[.int .i64 t, .int .i64 v] 59)).drew (some ⟨v1.heap.size + 1, 0, none⟩) [.int .i64 t, .int .i64 v] := (ap_new (v1.alloc _) #[_, _] _ _ (by simp)).ext (Ext.drew _)
    have rXE : Rd ((v1.alloc (.cells #[.int .i64 t, .int .i64 v] 59)).alloc (.cells #[] 59)).drew (some ⟨v1.heap.size, 0, none⟩) [.int .i64 t, .int .i64 v] := (ap_new v1 #[_, _] _ _ rfl).ext ((Ext.alloc _ _).trans (Ext.drew _))
    have hlf : (l.flatMap smpC).length = n * 2 := by rw [flat_length smpC_len, HN.out]
    have hlo : ∀ u ∈ l.flatMap smpC, u.oneCell' = true := by intro u hu; obtain ⟨y, _, hy⟩ := List.mem_flatMap.1 hu; exact smpC_one y u hy
    have HXW := Lib.hid (HX1.out.trans HX2.out)
    have hb1 : 0 + n ≤ maxLen := by simp only [maxLen]; omega
    have hb2 : (0 + n) * 16 ≤ 140737488355328 := by omega
    have hb3 : 0 + n + 1 ≤ maxLen := by simp only [maxLen]; omega
    have hb4 : (0 + n + 1) * 16 ≤ 140737488355328 := by omega
    go_region_held3 (fun wz => wz.cell? ⟨p, 0, none⟩ = some (.int .i64 t) ∧ wz.cell? ⟨p, 1, none⟩ = some (.int .i64 v)) (first | assumption | exact ⟨p0, p1⟩ | exact HP.out _ (HX2.out.trans hxE) | exact HP.out _ (HX2.out.trans hxX) | exact HP.out _ (HX2.out.trans hxEX) | exact HP.out _ (HX2.out.trans hxXE) | exact HP.out _ (HX2.out.trans hx7) | exact HP.out _ ((HX2.out.trans hx7).trans (Ext.alloc _ _)) | exact HP.out _ (HX2.out.trans hx8) | exact HP.out _ (HX2.out.trans hx9)) (first
      | (refine step_append_rd (v1.alloc (.cells #[] 59)).drew rfl (.tmp 43) (.tmp 44) 23 rfl v1.heap.size 59 i1 (.agg #[.int .i64 0, .int .i64 0]) 2 16 Try.underlying23 hi1 hz3 hz4 hz5 rfl (by decide) (.slice (some ⟨v1.heap.size, 0, none⟩) 0 0) 0 [] rfl oE (some ad) n c (l.flatMap smpC) rfl hlf (HR.out.ext (HXW.out.trans hxE)) hlo hb1 hb2 hxE.size ?_
         intro v7 w7 happ
         have hx7 := ap_ext happ oE hxE
         have ho7 := happ.own)
      | (refine step_append_rd ((v1.alloc (.cells #[] 59)).alloc (.cells #[.int .i64 t, .int .i64 v] 59)).drew rfl (.tmp 43) (.tmp 44) 23 rfl v1.heap.size 59 i1 (.agg #[.int .i64 0, .int .i64 0]) 2 16 Try.underlying23 hi1 hz3 hz4 hz5 rfl (by decide) (.slice (some ⟨v1.heap.size, 0, none⟩) 0 0) 0 [] rfl oEX (some ad) n c (l.flatMap smpC) rfl hlf (HR.out.ext (HXW.out.trans hxEX)) hlo hb1 hb2 hxEX.size ?_
         intro v7 w7 happ
         have hx7 := ap_ext happ oEX hxEX
         have ho7 := happ.own
         have hr7 := ap_rd happ oEX rEX (by intro k hk; simp [Value.ownBlock] at hk; omega))
      | (refine step_append_rd ((v1.alloc (.cells #[.int .i64 t, .int .i64 v] 59)).alloc (.cells #[] 59)).drew rfl (.tmp 43) (.tmp 44) 23 rfl v1.heap.size 59 i1 (.agg #[.int .i64 0, .int .i64 0]) 2 16 Try.underlying23 hi1 hz3 hz4 hz5 rfl (by decide) (.slice (some ⟨v1.heap.size + 1, 0, none⟩) 0 0) 0 [] rfl oXE (some ad) n c (l.flatMap smpC) rfl hlf (HR.out.ext (HXW.out.trans hxXE)) hlo hb1 hb2 hxXE.size ?_
         intro v7 w7 happ
         have hx7 := ap_ext happ oXE hxXE
         have ho7 := happ.own
         have hr7 := ap_rd happ oXE rXE (by intro k hk; simp [Value.ownBlock] at hk; omega))
      | (refine step_append_rd (w7.alloc (.cells #[.int .i64 t, .int .i64 v] 59)) rfl (.tmp 45) (.tmp 47) 23 rfl v1.heap.size 59 i1 (.agg #[.int .i64 0, .int .i64 0]) 2 16 Try.underlying23 hi1 hz3 hz4 hz5 rfl (by decide) v7 (0 + n) ([] ++ l.flatMap smpC) rfl (ho7.alloc _) (some ⟨w7.heap.size, 0, none⟩) 1 1 [.int .i64 t, .int .i64 v] rfl rfl (Rd.new w7 #[_, _] _) (smpC_one (t, v)) hb3 hb4 (hx7.trans (Ext.alloc _ _)).size ?_
         intro v8 w8 happ8
         have hx8 := ap_ext happ8 (ho7.alloc _) (hx7.trans (Ext.alloc _ _))
         have ho8 := happ8.own)
      | (refine step_append_rd w7 rfl (.tmp 45) (.tmp 47) 23 rfl v1.heap.size 59 i1 (.agg #[.int .i64 0, .int .i64 0]) 2 16 Try.underlying23 hi1 hz3 hz4 hz5 rfl (by decide) v7 (0 + n) ([] ++ l.flatMap smpC) rfl ho7 (some ⟨_, 0, none⟩) 1 1 [.int .i64 t, .int .i64 v] rfl rfl hr7 (smpC_one (t, v)) hb3 hb4 hx7.size ?_
         intro v8 w8 happ8
         have hx8 := ap_ext happ8 ho7 hx7
         have ho8 := happ8.own)
      | (go_at_call 13
         refine (enc_any v8 (l ++ [(t, v)]) w8 (own_row (by rw [List.length_append, HN.out]; have h := ho8; rw [Nat.zero_add, List.nil_append] at h; rw [List.flatMap_append]; exact h)) (by intro y hy; rcases List.mem_append.1 hy with hy | hy; exact HOK.out y hy; rw [List.mem_singleton.1 hy]; exact HXV.out) (by rw [List.length_append, HN.out]; simp; omega)).mono ?_
         rintro e v9 ⟨sb, rfl, hsb, hxe⟩
         have hx9 := hx8.trans hxe))
    all_goals
      go_wp2_with fail
      go_meet
      exact ⟨sb, rfl, rfl, hsb, HX2.out.trans hx9⟩
  case rest =>
    obtain ⟨sb, rfl, rfl, hsb, hx3⟩ := hcut
    have hlen : (((encB (l ++ [(t, v)])).length : Nat) : Int) = ((encB l).length : Int) + (sizeN (zigN (wrap64 (wrap64 (t - a1) - wrap64 (a1 - b1)))) : Int) + (sizeN (zigN (wrap64 (v - a2))) : Int) := by
      rw [HENC.out, List.length_append, List.length_append, codeB_len, codeB_len]
      omega
    rw [hlen]
    have HSB := Lib.hid hsb
    have HXC := Lib.hid (HX1.out.trans hx3)
    have HXP := Lib.hid hx3
    have hN := encB_len l
    rw [HN.out] at hN
    have hza := (packed_size HSA.out).1
    have hzb := (packed_size hsb).1
    have hbits : bitsAt sa 0 (encB l).length = bitsAt sb 0 (encB l).length := by
      rw [bitsAt_packed HSA.out 0 (encB l).length (by omega), bitsAt_packed hsb 0 (encB l).length (by rw [HENC.out, List.length_append]; omega), HENC.out]
      simp
    have HBITS := Lib.hid hbits
    have hzb2 : (encB l).length ≤ 8 * sb.size := by rw [HENC.out, List.length_append] at hzb; omega
    have hza2 := (packed_size HSA.out).2
    have hzb3 := (packed_size hsb).2
    have hN2 : (encB (l ++ [(t, v)])).length ≤ 136 * 61 := by
      have := encB_len (l ++ [(t, v)])
      rw [List.length_append, HN.out] at this
      simp at this
      omega
    have hsz1 : sa.size ≤ 4294967296 := by omega
    have hsz2 : sb.size ≤ 4294967296 := by omega
    have s1 := size_le (zigN (wrap64 (wrap64 (t - a1) - wrap64 (a1 - b1))))
    have s2 := size_le (zigN (wrap64 (v - a2)))
    have q1 : IntKind.i64.wrap (((encB l).length : Int) + (sizeN (zigN (wrap64 (wrap64 (t - a1) - wrap64 (a1 - b1)))) : Int)) = ((encB l).length : Int) + (sizeN (zigN (wrap64 (wrap64 (t - a1) - wrap64 (a1 - b1)))) : Int) := by rw [IntWalk.i64_left]; unfold wrap64 at *; omega
    have q2 : IntKind.i64.wrap (((encB l).length : Int) + (sizeN (zigN (wrap64 (wrap64 (t - a1) - wrap64 (a1 - b1)))) : Int) + (sizeN (zigN (wrap64 (v - a2))) : Int)) = ((encB l).length : Int) + (sizeN (zigN (wrap64 (wrap64 (t - a1) - wrap64 (a1 - b1)))) : Int) + (sizeN (zigN (wrap64 (v - a2))) : Int) := by rw [IntWalk.i64_left]; unfold wrap64 at *; omega
    have e2 : IntKind.i64.wrap (t - a1) = wrap64 (t - a1) := IntWalk.i64_left _
    have e3 : IntKind.i64.wrap (wrap64 (t - a1) - wrap64 (a1 - b1)) = wrap64 (wrap64 (t - a1) - wrap64 (a1 - b1)) := IntWalk.i64_left _
    have e4 : IntKind.i64.wrap (v - a2) = wrap64 (v - a2) := IntWalk.i64_left _
    have HZ := Lib.hid (⟨hza, hzb2, hsz1, hsz2⟩ : (encB l).length ≤ 8 * sa.size ∧ (encB l).length ≤ 8 * sb.size ∧ sa.size ≤ 4294967296 ∧ sb.size ≤ 4294967296)
    clear hlen hsb hx3 hN hza hzb hbits hzb2 hza2 hzb3 hN2 hsz1 hsz2 s1 s2
    have HZ1 := Lib.hid (zigW_lt (wrap64 (t - a1) - wrap64 (a1 - b1)))
    have HZ2 := Lib.hid (zigW_lt (v - a2))
    obtain ⟨Z1, hZ1⟩ : ∃ Z, zigN (wrap64 (wrap64 (t - a1) - wrap64 (a1 - b1))) = Z := ⟨_, rfl⟩
    obtain ⟨Z2, hZ2⟩ : ∃ Z, zigN (wrap64 (v - a2)) = Z := ⟨_, rfl⟩
    rw [hZ1] at q1 q2 HZ1 ⊢
    rw [hZ2] at q2 HZ2 ⊢
    have HE1 := Lib.hid hZ1
    have HE2 := Lib.hid hZ2
    clear hZ1 hZ2
    have HS := Lib.hid (fun (wz : World) (hw : Ext wc wz) => (⟨HP.out wz (HXP.out.trans hw), HCA.out wz (HXC.out.trans hw)⟩ : (wz.cell? ⟨p, 0, none⟩ = some (.int .i64 t) ∧ wz.cell? ⟨p, 1, none⟩ = some (.int .i64 v)) ∧ (wz.cell? (ad.add (k * 2)) = some (.int .i64 a1) ∧ wz.cell? ⟨(ad.add (k * 2)).block, (ad.add (k * 2)).off + 1, none⟩ = some (.int .i64 a2))))
    generalize hNN : (encB l).length = N at *
    clear hNN
    go_wp2_with fail
    refine (read_ok sa N wc HZ.out.1 HZ.out.2.2.1).mono ?_
    rintro e v5 ⟨rfl, hr5, hx5⟩
    have HR5 := Lib.hid hr5
    have HX5 := Lib.hid hx5
    have hlt : wc.heap.size < v5.heap.size := (Array.getElem?_eq_some_iff.1 hr5).1
    have HLT := Lib.hid hlt
    clear hr5 hx5 hlt
    go_wp2_with fail
    refine (read_ok sb N v5 HZ.out.2.1 HZ.out.2.2.2).mono ?_
    rintro e v6 ⟨rfl, hr6, hx6⟩
    have HR6 := Lib.hid hr6
    have HRA := Lib.hid (HR5.out.ext hx6)
    have HX6 := Lib.hid (HX5.out.trans hx6)
    clear hr6 hx6
    have hs0 := HS.out v6 HX6.out
    go_upto_region 9 with fail
    go_region_held3 (fun wz => (wz.cell? ⟨p, 0, none⟩ = some (.int .i64 t) ∧ wz.cell? ⟨p, 1, none⟩ = some (.int .i64 v)) ∧ (wz.cell? (ad.add (k * 2)) = some (.int .i64 a1) ∧ wz.cell? ⟨(ad.add (k * 2)).block, (ad.add (k * 2)).off + 1, none⟩ = some (.int .i64 a2))) (first | assumption | exact HS.out _ hxt) (first
      | (go_at_call 28
         refine (alike_any wc.heap.size v5.heap.size sa sb N N 0 0 N _ (HRA.out.ext (Ext.drewN _ _)) (HR6.out.ext (Ext.drewN _ _)) (Nat.ne_of_lt HLT.out) (by omega) (by omega) HZ.out.1 HZ.out.2.1 HZ.out.2.2.1 HZ.out.2.2.2 HBITS.out).mono ?_
         rintro e v7 ⟨rfl, hk7⟩
         have hxt : Ext wc v7 := hk7.to_ext (HX6.out.trans (Ext.drewN _ _)) (by
              intro b hb
              have := HLT.out
              simp at hb
              rcases hb with rfl | rfl <;> omega)
         clear hk7)
      | (go_at_call 29
         refine (zig_any _ _ (wrap64_lo _) (wrap64_hi _)).mono ?_
         rintro e _ ⟨rfl, rfl⟩
         first | rw [HE1.out] | rw [HE2.out])
      | (go_at_call_of 18 Z1
         refine (size_any Z1 _ HZ1.out).mono ?_
         rintro e v8 ⟨rfl, hx8⟩
         have hxt := hxt.trans hx8
         clear hx8)
      | (go_at_call_of 18 Z2
         refine (size_any Z2 _ HZ2.out).mono ?_
         rintro e v8 ⟨rfl, hx8⟩
         have hxt := hxt.trans hx8
         clear hx8)
      | (go_at_call 10
         refine (known_any _).mono ?_
         rintro e v9 ⟨rfl, hx9⟩
         have hxt := hxt.trans hx9
         clear hx9))
    all_goals
      go_wp2_with fail
      go_ret
      exact ⟨rfl, HXC.out.trans hxt⟩
end Go.Proofs.Ytpdebandcmhbcaa
