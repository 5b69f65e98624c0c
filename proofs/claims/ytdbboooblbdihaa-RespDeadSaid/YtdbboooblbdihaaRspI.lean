/- Replies: an item's bytes; are items a reply; a reply's bytes. -/
import Derived.Test.YtdbboooblbdihaaRspH
import Derived.Test.YtdbboooblbdihaaRow
namespace Go.Proofs.Ytdbboooblbdihaa
open Go.RowKit
set_option linter.unusedVariables false
set_option linter.unusedSectionVars false
set_option linter.unusedSimpArgs false
set_option maxRecDepth 100000


def itL (x : Itm) : List UInt8 :=
  if x.kind = 1 then 43 :: (x.s.toList ++ crlf)
  else if x.kind = 2 then 45 :: (x.s.toList ++ crlf)
  else if x.kind = 3 then 58 :: (decL x.n ++ crlf)
  else if x.kind = 4 then bulkL x.s.toList
  else if x.kind = 5 then 36 :: 45 :: 49 :: crlf
  else 42 :: (decL x.n ++ crlf)
theorem itL_1 (n : Int) (s : ByteArray) : itL ⟨1, n, s⟩ = 43 :: (s.toList ++ crlf) := if_pos rfl
theorem itL_2 (n : Int) (s : ByteArray) : itL ⟨2, n, s⟩ = 45 :: (s.toList ++ crlf) := by unfold itL; dsimp only; rw [if_neg (by decide), if_pos rfl]
theorem itL_3 (n : Int) (s : ByteArray) : itL ⟨3, n, s⟩ = 58 :: (decL n ++ crlf) := by unfold itL; dsimp only; rw [if_neg (by decide), if_neg (by decide), if_pos rfl]
theorem itL_4 (n : Int) (s : ByteArray) : itL ⟨4, n, s⟩ = bulkL s.toList := by unfold itL; dsimp only; rw [if_neg (by decide), if_neg (by decide), if_neg (by decide), if_pos rfl]
theorem itL_5 (n : Int) (s : ByteArray) : itL ⟨5, n, s⟩ = 36 :: 45 :: 49 :: crlf := by unfold itL; dsimp only; rw [if_neg (by decide), if_neg (by decide), if_neg (by decide), if_neg (by decide), if_pos rfl]
theorem itL_o {k : Int} (n : Int) (s : ByteArray) (h1 : ¬ k = 1) (h2 : ¬ k = 2) (h3 : ¬ k = 3) (h4 : ¬ k = 4) (h5 : ¬ k = 5) : itL ⟨k, n, s⟩ = 42 :: (decL n ++ crlf) := by unfold itL; dsimp only; rw [if_neg h1, if_neg h2, if_neg h3, if_neg h4, if_neg h5]
theorem decL_size {n : Int} (h1 : -9223372036854775808 ≤ n) (h2 : n ≤ 9223372036854775807) : (decL n).length ≤ 20 := by
  have := digs_len19 n.natAbs 19 (by omega) (by decide)
  unfold decL
  split
  · simp; omega
  · omega
theorem bytes_1 (n : Int) (s : ByteArray) (w : World) (hs : s.size ≤ 1000000000) :
    Calls Try.prog 40 #[.agg #[.int .i64 1, .int .i64 n, .string s]] w fun e w' => e = .returned (.string (bsv (itL ⟨1, n, s⟩))) ∧ Ext w w' := by
  have hA0 : bsv ((⟨#[43]⟩ : ByteArray).toList ++ s.toList ++ crlf) = bsv (itL ⟨1, n, s⟩) := by rw [itL_1, show (⟨#[43]⟩ : ByteArray).toList = [43] from toList_mk [43]]; rfl
  generalize bsv (itL ⟨1, n, s⟩) = F at hA0 ⊢
  have HA := Lib.hid hA0
  clear hA0
  go_enter Try.func40, Try.ntmps40
  go_wp2_with fail
  refine (row_any ⟨#[43]⟩ s _ (by show 1 + _ ≤ _; omega)).mono ?_
  rintro e w1 ⟨rfl, hx1⟩
  rw [HA.out]
  have HX := Lib.hid ((Ext.alloc _ _).trans hx1)
  clear hx1
  generalize w.alloc _ = w0 at HX ⊢
  go_wp2_with fail
  go_ret
  exact ⟨rfl, HX.out⟩
theorem bytes_2 (n : Int) (s : ByteArray) (w : World) (hs : s.size ≤ 1000000000) :
    Calls Try.prog 40 #[.agg #[.int .i64 2, .int .i64 n, .string s]] w fun e w' => e = .returned (.string (bsv (itL ⟨2, n, s⟩))) ∧ Ext w w' := by
  have hA0 : bsv ((⟨#[45]⟩ : ByteArray).toList ++ s.toList ++ crlf) = bsv (itL ⟨2, n, s⟩) := by rw [itL_2, show (⟨#[45]⟩ : ByteArray).toList = [45] from toList_mk [45]]; rfl
  generalize bsv (itL ⟨2, n, s⟩) = F at hA0 ⊢
  have HA := Lib.hid hA0
  clear hA0
  go_enter Try.func40, Try.ntmps40
  go_wp2_with fail
  refine (row_any ⟨#[45]⟩ s _ (by show 1 + _ ≤ _; omega)).mono ?_
  rintro e w1 ⟨rfl, hx1⟩
  rw [HA.out]
  have HX := Lib.hid ((Ext.alloc _ _).trans hx1)
  clear hx1
  generalize w.alloc _ = w0 at HX ⊢
  go_wp2_with fail
  go_ret
  exact ⟨rfl, HX.out⟩
theorem bytes_3 (n : Int) (s : ByteArray) (w : World) (h1 : -9223372036854775808 ≤ n) (h2 : n ≤ 9223372036854775807) :
    Calls Try.prog 40 #[.agg #[.int .i64 3, .int .i64 n, .string s]] w fun e w' => e = .returned (.string (bsv (itL ⟨3, n, s⟩))) ∧ Ext w w' := by
  have hA0 : bsv ((⟨#[58]⟩ : ByteArray).toList ++ (bsv (decL n)).toList ++ crlf) = bsv (itL ⟨3, n, s⟩) := by rw [itL_3, bsv_list, show (⟨#[58]⟩ : ByteArray).toList = [58] from toList_mk [58]]; rfl
  generalize bsv (itL ⟨3, n, s⟩) = F at hA0 ⊢
  have HA := Lib.hid hA0
  clear hA0
  have hdl := decL_size h1 h2
  have hdz := bsv_size (decL n)
  go_enter Try.func40, Try.ntmps40
  go_wp2_with fail
  refine (decimal_any n _ h1 h2).mono ?_
  rintro e w1 ⟨rfl, hx1⟩
  have HX1 := Lib.hid ((Ext.alloc _ _).trans hx1)
  clear hx1
  go_wp2_with fail
  refine (row_any ⟨#[58]⟩ (bsv (decL n)) _ (by rw [hdz]; show 1 + _ ≤ _; omega)).mono ?_
  rintro e w2 ⟨rfl, hx2⟩
  rw [HA.out]
  have HX := Lib.hid (HX1.out.trans hx2)
  clear hx2
  go_wp2_with fail
  go_ret
  exact ⟨rfl, HX.out⟩
theorem bytes_o (k n : Int) (s : ByteArray) (w : World) (h1 : -9223372036854775808 ≤ n) (h2 : n ≤ 9223372036854775807) (k1 : ¬ k = 1) (k2 : ¬ k = 2) (k3 : ¬ k = 3) (k4 : ¬ k = 4) (k5 : ¬ k = 5) :
    Calls Try.prog 40 #[.agg #[.int .i64 k, .int .i64 n, .string s]] w fun e w' => e = .returned (.string (bsv (itL ⟨k, n, s⟩))) ∧ Ext w w' := by
  have hA0 : bsv ((⟨#[42]⟩ : ByteArray).toList ++ (bsv (decL n)).toList ++ crlf) = bsv (itL ⟨k, n, s⟩) := by rw [itL_o n s k1 k2 k3 k4 k5, bsv_list, show (⟨#[42]⟩ : ByteArray).toList = [42] from toList_mk [42]]; rfl
  generalize bsv (itL ⟨k, n, s⟩) = F at hA0 ⊢
  have HA := Lib.hid hA0
  clear hA0
  have hdl := decL_size h1 h2
  have hdz := bsv_size (decL n)
  go_enter Try.func40, Try.ntmps40
  go_wp2_with fail
  refine (decimal_any n _ h1 h2).mono ?_
  rintro e w1 ⟨rfl, hx1⟩
  have HX1 := Lib.hid ((Ext.alloc _ _).trans hx1)
  clear hx1
  go_wp2_with fail
  refine (row_any ⟨#[42]⟩ (bsv (decL n)) _ (by rw [hdz]; show 1 + _ ≤ _; omega)).mono ?_
  rintro e w2 ⟨rfl, hx2⟩
  rw [HA.out]
  have HX := Lib.hid (HX1.out.trans hx2)
  clear hx2
  go_wp2_with fail
  go_ret
  exact ⟨rfl, HX.out⟩
theorem bytes_4 (n : Int) (s : ByteArray) (w : World) (hs : s.size ≤ 1000000000) :
    Calls Try.prog 40 #[.agg #[.int .i64 4, .int .i64 n, .string s]] w fun e w' => e = .returned (.string (bsv (itL ⟨4, n, s⟩))) ∧ Ext w w' := by
  rw [itL_4]
  obtain ⟨F, hF⟩ : ∃ F, bsv (bulkL s.toList) = F := ⟨_, rfl⟩
  rw [hF]
  have HF := Lib.hid hF
  clear hF
  go_enter Try.func40, Try.ntmps40
  go_wp2_with fail
  refine (bulk_any s _ hs).mono ?_
  rintro e w1 ⟨rfl, hx1⟩
  have HX := Lib.hid ((Ext.alloc _ _).trans hx1)
  clear hx1
  rw [HF.out]
  go_wp2_with fail
  go_ret
  exact ⟨rfl, HX.out⟩
theorem bytes_5 (n : Int) (s : ByteArray) (w : World) :
    Calls Try.prog 40 #[.agg #[.int .i64 5, .int .i64 n, .string s]] w fun e w' => e = .returned (.string (bsv (itL ⟨5, n, s⟩))) ∧ Ext w w' := by
  have hA0 : bsv ((⟨#[36]⟩ : ByteArray).toList ++ (⟨#[45, 49]⟩ : ByteArray).toList ++ crlf) = bsv (itL ⟨5, n, s⟩) := by rw [itL_5, show (⟨#[36]⟩ : ByteArray).toList = [36] from toList_mk [36], show (⟨#[45, 49]⟩ : ByteArray).toList = [45, 49] from toList_mk [45, 49]]; rfl
  generalize bsv (itL ⟨5, n, s⟩) = F at hA0 ⊢
  have HA := Lib.hid hA0
  clear hA0
  go_enter Try.func40, Try.ntmps40
  go_wp2_with fail
  refine (row_any ⟨#[36]⟩ ⟨#[45, 49]⟩ _ (by show 1 + 2 ≤ _; omega)).mono ?_
  rintro e w1 ⟨rfl, hx1⟩
  rw [HA.out]
  have HX := Lib.hid ((Ext.alloc _ _).trans hx1)
  clear hx1
  go_wp2_with fail
  go_ret
  exact ⟨rfl, HX.out⟩
theorem ibytes_any (x : Itm) (w : World) (hx : ItmOk x) (hs : x.s.size ≤ 1000000000) : Calls Try.prog 40 #[itV x] w fun e w' => e = .returned (.string (bsv (itL x))) ∧ Ext w w' := by
  obtain ⟨k, n, s⟩ := x
  obtain ⟨_, _, hn1, hn2, _⟩ := hx
  dsimp only at hn1 hn2 hs
  by_cases h1 : k = 1
  · subst h1; exact bytes_1 n s w hs
  by_cases h2 : k = 2
  · subst h2; exact bytes_2 n s w hs
  by_cases h3 : k = 3
  · subst h3; exact bytes_3 n s w hn1 hn2
  by_cases h4 : k = 4
  · subst h4; exact bytes_4 n s w hs
  by_cases h5 : k = 5
  · subst h5; exact bytes_5 n s w
  exact bytes_o k n s w hn1 hn2 h1 h2 h3 h4 h5
/-- How many items are wanted, behind these. -/
def wantA (want : Nat) : List Itm → Option Nat
  | [] => some want
  | x :: t => if want = 0 then none else if right1 x then wantA (want - 1 + if x.kind = 6 then x.n.toNat else 0) t else none
theorem wantA_nil (W : Nat) : wantA W [] = some W := rfl
theorem wantA_cons (W : Nat) (x : Itm) (t : List Itm) : wantA W (x :: t) = if W = 0 then none else if right1 x then wantA (W - 1 + if x.kind = 6 then x.n.toNat else 0) t else none := rfl
def rightL (l : List Itm) : Prop := wantA 1 l = some 0
instance (l : List Itm) : Decidable (rightL l) := inferInstanceAs (Decidable (_ = _))
theorem row_parts {w : World} {xs : List Itm} {ad : Addr} (h : Rd w (some ad) (xs.flatMap itC)) {i : Nat} {x : Itm} (hx : xs[i]? = some x) :
    w.cell? (ad.add (i * 3)) = some (.int .i64 x.kind) ∧ w.cell? ⟨(ad.add (i * 3)).block, (ad.add (i * 3)).off + 1, none⟩ = some (.int .i64 x.n) ∧ w.cell? ⟨(ad.add (i * 3)).block, (ad.add (i * 3)).off + 2, none⟩ = some (.string x.s) :=
  ⟨row_cell itC_len h i 0 hx rfl, row_field itC_len h i 1 (by decide) hx rfl, row_field itC_len h i 2 (by decide) hx rfl⟩
set_option maxHeartbeats 1000000 in
theorem Right_any (v : Value) (xs : List Itm) (w : World) (hv : Row itC w v xs) (hok : ∀ x ∈ xs, ItmOk x) (hl : xs.length ≤ 1000000000) :
    Calls Try.prog 22 #[v] w fun e w' => e = .returned (.bool (decide (rightL xs))) ∧ Ext w w' := by
  obtain ⟨A, n, c, rfl, hn, hnc, hcm, hr⟩ := hv
  subst hn
  have HR := Lib.hid hr
  have HOK := Lib.hid hok
  clear hr hok
  go_enter Try.func22, Try.ntmps22
  go_wp2_with fail
  go_loopw [3, 8] (fun wv iv wr => ∃ (k W : Nat), k ≤ xs.length ∧ wv = .int .i64 (W : Int) ∧ iv = .int .i64 (k : Int) ∧ wantA 1 xs = wantA W (xs.drop k) ∧ W ≤ 1 + 100000 * k ∧ Ext w wr) (fun _ iv _ => xs.length - (intOf iv).toNat)
  case atStart => exact ⟨0, 1, by omega, rfl, rfl, rfl, by omega, Ext.refl _⟩
  case round =>
    obtain ⟨k, W, hk, rfl, rfl, hwa, hWb, hx⟩ := hrel
    have HX := Lib.hid hx
    have HWA := Lib.hid hwa
    clear hx hwa
    by_cases hkn : k < xs.length
    · have hkI : (k : Int) < (xs.length : Int) := by omega
      have hkJ : (0 : Int) ≤ (k : Int) := by omega
      obtain ⟨x, hxk⟩ : ∃ x, xs[k]? = some x := ⟨_, List.getElem?_eq_getElem hkn⟩
      have hox := HOK.out x (List.mem_of_getElem? hxk)
      have hrd := HR.out.ext HX.out
      obtain ⟨ad, rfl⟩ := row_some hrd itC_len (by decide) (by omega)
      obtain ⟨c0, c1, c2⟩ := row_parts hrd hxk
      have HXK := Lib.hid hxk
      have hox0 := Lib.hid hox
      have HRA := Lib.hid (right_any x)
      clear hrd hxk
      obtain ⟨kd, xn, s⟩ := x
      unfold itV at HRA
      dsimp only at c0 c1 c2 HRA
      go_upto_region 5 with fail
      have hx1 := Ext.alloc wr (.cells #[.int .i64 kd, .int .i64 xn, .string s] 47)
      have hb1 := heap_alloc_new wr (.cells #[.int .i64 kd, .int .i64 xn, .string s] 47 (0, 0))
      generalize wr.alloc (.cells #[.int .i64 kd, .int .i64 xn, .string s] 47) = w1 at hx1 hb1 ⊢
      generalize wr.heap.size = q at hb1 ⊢
      have HX1 := Lib.hid (HX.out.trans hx1)
      have HB1 := Lib.hid hb1
      have d0 := heap_cell hb1 0
      have d1 := heap_cell hb1 1
      have d2 := heap_cell hb1 2
      have hdr := List.drop_eq_getElem_cons hkn
      have hgx : xs[k] = ⟨kd, xn, s⟩ := by
        have := HXK.out
        rw [List.getElem?_eq_getElem hkn] at this
        injection this
      rw [hgx] at hdr
      have hwa := HWA.out
      rw [hdr, wantA_cons] at hwa
      clear hx1 hb1 hdr hgx c0 c1 c2 hox HWA
      by_cases hW0 : W = 0
      · subst hW0
        rw [if_pos rfl] at hwa
        have HWA := Lib.hid hwa
        clear hwa
        go_wp2_with fail
        go_ret
        exact ⟨ret_f (by unfold rightL; rw [HWA.out]; simp), HX1.out⟩
      · have hWB : ((W : Int) == 0) = false := by simp; omega
        rw [if_neg hW0] at hwa
        have HWA := Lib.hid hwa
        clear hwa
        go_wp2_with fail
        refine (HRA.out w1 hox0.out).mono ?_
        rintro e w2 ⟨rfl, hx2⟩
        have HX2 := Lib.hid (HX1.out.trans hx2)
        have hb2 := (Kp.of_ext (L := []) hx2).heap HB1.out (by simp)
        clear d0 d1 d2 hx2
        have d0 := heap_cell hb2 0
        have d1 := heap_cell hb2 1
        clear hb2
        by_cases hrt : right1 ⟨kd, xn, s⟩
        · rw [decide_eq_true hrt]
          have hwa := HWA.out
          rw [if_pos hrt] at hwa
          by_cases h6 : kd = 6
          · subst h6
            rw [if_pos rfl] at hwa
            obtain ⟨N, rfl, hN⟩ : ∃ N : Nat, xn = (N : Int) ∧ N ≤ 100000 := by
              rcases hrt with ⟨h, _⟩ | ⟨h, _⟩ | ⟨h, _⟩ | ⟨h, _⟩ | ⟨_, _, h1, h2⟩
              · exfalso; dsimp only at h; omega
              · exfalso; dsimp only at h; omega
              · exfalso; dsimp only at h; omega
              · exfalso; dsimp only at h; omega
              · dsimp only at h1 h2
                exact ⟨xn.toNat, by omega, by omega⟩
            have hwa2 : wantA 1 xs = wantA (W - 1 + N) (xs.drop (k + 1)) := hwa
            have HWN := Lib.hid hwa2
            clear hwa hwa2 HWA
            go_wp2_with fail
            go_roundw
            case rel => exact ⟨k + 1, W - 1 + N, by omega, by go_num, by go_num, HWN.out, by omega, HX2.out⟩
            case measure => simp [intOf]; omega
          · have h6B : (kd == 6) = false := by simpa using h6
            rw [if_neg h6] at hwa
            have hwa2 : wantA 1 xs = wantA (W - 1) (xs.drop (k + 1)) := hwa
            have HWA := Lib.hid hwa2
            clear hwa hwa2
            go_wp2_with fail
            go_roundw
            case rel => exact ⟨k + 1, W - 1, by omega, by go_num, by go_num, HWA.out, by omega, HX2.out⟩
            case measure => simp [intOf]; omega
        · rw [decide_eq_false hrt]
          have hwa := HWA.out
          rw [if_neg hrt] at hwa
          have HWA := Lib.hid hwa
          clear hwa
          go_wp2_with fail
          go_ret
          exact ⟨ret_f (by unfold rightL; rw [HWA.out]; simp), HX2.out⟩
    · obtain rfl : k = xs.length := by omega
      have hwa := HWA.out
      rw [List.drop_length, wantA_nil] at hwa
      have HWA := Lib.hid hwa
      clear hwa
      go_wp2_with fail
      go_ret
      refine ⟨?_, HX.out⟩
      by_cases hW0 : W = 0
      · subst hW0
        exact ret_t (by unfold rightL; rw [HWA.out])
      · show Ending.returned (.bool ((W : Int) == 0)) = _
        rw [show ((W : Int) == 0) = false by simp; omega]
        exact ret_f (by unfold rightL; rw [HWA.out]; simpa using hW0)
/-- A reply's bytes. -/
def encL (l : List Itm) : List UInt8 := l.flatMap itL
def encB (l : List Itm) : ByteArray := if rightL l then bsv (encL l) else ⟨#[]⟩
theorem want_right : ∀ (l : List Itm) (W : Nat) (m : Nat), wantA W l = some m → ∀ x ∈ l, right1 x := by
  intro l
  induction l with
  | nil => intro W m _ x hx; simp at hx
  | cons y t ih =>
    intro W m h x hx
    rw [wantA_cons] at h
    by_cases hW : W = 0
    · rw [if_pos hW] at h; cases h
    · rw [if_neg hW] at h
      by_cases hr : right1 y
      · rw [if_pos hr] at h
        rcases List.mem_cons.1 hx with rfl | hx
        · exact hr
        · exact ih _ _ h x hx
      · rw [if_neg hr] at h; cases h
theorem right_size {x : Itm} (h : right1 x) : x.s.size ≤ 512 := by
  rcases h with ⟨_, _, _, h⟩ | ⟨_, h⟩ | ⟨_, _, h⟩ | ⟨_, _, h⟩ | ⟨_, h, _⟩ <;> omega
theorem itL_len {x : Itm} (hr : right1 x) (hx : ItmOk x) : (itL x).length ≤ 540 := by
  have h1 := right_size hr
  have h2 := size_list x.s
  have h3 := bulkL_len x.s.toList (by omega)
  have h4 := decL_size hx.n1 hx.n2
  have h5 : crlf.length = 2 := rfl
  unfold itL
  split
  · rw [List.length_cons, List.length_append]; omega
  split
  · rw [List.length_cons, List.length_append]; omega
  split
  · rw [List.length_cons, List.length_append]; omega
  split
  · omega
  split
  · rw [List.length_cons, List.length_cons, List.length_cons]; omega
  · rw [List.length_cons, List.length_append]; omega
theorem encL_len : ∀ (l : List Itm), (∀ x ∈ l, right1 x) → (∀ x ∈ l, ItmOk x) → (encL l).length ≤ l.length * 540 := by
  intro l
  induction l with
  | nil => intro _ _; simp [encL]
  | cons x t ih =>
    intro h1 h2
    have h3 := ih (fun y hy => h1 y (by simp [hy])) (fun y hy => h2 y (by simp [hy]))
    have h4 := itL_len (h1 x (by simp)) (h2 x (by simp))
    show (itL x ++ encL t).length ≤ _
    rw [List.length_append, List.length_cons]
    omega
theorem encL_snoc {l : List Itm} {k : Nat} {x : Itm} (h : l[k]? = some x) : encL (l.take (k + 1)) = encL (l.take k) ++ itL x := by
  unfold encL
  rw [List.take_add_one, h, List.flatMap_append]
  simp
set_option maxHeartbeats 1000000 in
theorem encode_any (v : Value) (xs : List Itm) (w : World) (hv : Row itC w v xs) (hok : ∀ x ∈ xs, ItmOk x) (hl : xs.length ≤ 1000000) :
    Calls Try.prog 25 #[v] w fun e w' => e = .returned (.string (encB xs)) ∧ Ext w w' := by
  have HRT := Lib.hid (Right_any v xs w hv hok (by omega))
  obtain ⟨A, n, c, rfl, hn, hnc, hcm, hr⟩ := hv
  subst hn
  have HR := Lib.hid hr
  have HOK := Lib.hid hok
  clear hr hok
  go_enter Try.func25, Try.ntmps25
  go_wp2_with fail
  refine HRT.out.mono ?_
  rintro e w0 ⟨rfl, hx0⟩
  have HX0 := Lib.hid hx0
  clear hx0 HRT
  by_cases hrt : rightL xs
  · rw [decide_eq_true hrt]
    have HB : Hid (encB xs = bsv (encL xs)) := Lib.hid (if_pos hrt)
    have HRX := Lib.hid (want_right _ _ _ hrt)
    clear hrt
    go_wp2_with fail
    go_loopw [3, 11] (fun sv iv wr => ∃ k : Nat, k ≤ xs.length ∧ iv = .int .i64 (k : Int) ∧ sv = .string (bsv (encL (xs.take k))) ∧ Ext w wr) (fun _ iv _ => xs.length - (intOf iv).toNat)
    case atStart => exact ⟨0, by omega, rfl, rfl, HX0.out⟩
    case round =>
      obtain ⟨k, hk, rfl, rfl, hx⟩ := hrel
      have HX := Lib.hid hx
      clear hx HX0
      by_cases hkn : k < xs.length
      · have hkI : (k : Int) < (xs.length : Int) := by omega
        have hkJ : (0 : Int) ≤ (k : Int) := by omega
        obtain ⟨x, hxk⟩ : ∃ x, xs[k]? = some x := ⟨_, List.getElem?_eq_getElem hkn⟩
        have hox := HOK.out x (List.mem_of_getElem? hxk)
        have hrx := HRX.out x (List.mem_of_getElem? hxk)
        have hrd := HR.out.ext HX.out
        obtain ⟨ad, rfl⟩ := row_some hrd itC_len (by decide) (by omega)
        obtain ⟨c0, c1, c2⟩ := row_parts hrd hxk
        have HIB := Lib.hid (fun wz => ibytes_any x wz hox (by have := right_size hrx; omega))
        have hz1 : (bsv (itL x)).size ≤ 540 := by rw [bsv_size]; exact itL_len hrx hox
        have hz2 : (bsv (encL (xs.take k))).size ≤ 540000000 := by
          have := encL_len (xs.take k) (fun y hy => HRX.out y (List.mem_of_mem_take hy)) (fun y hy => HOK.out y (List.mem_of_mem_take hy))
          rw [List.length_take] at this
          rw [bsv_size]
          omega
        have hap : bsv (encL (xs.take k)) ++ bsv (itL x) = bsv (encL (xs.take (k + 1))) := by rw [bsv_app, encL_snoc hxk]
        have HAP := Lib.hid hap
        clear hrd hxk hox hrx hap
        obtain ⟨sb, hsb⟩ : ∃ sb, bsv (itL x) = sb := ⟨_, rfl⟩
        rw [hsb] at HIB hz1 HAP
        clear hsb
        generalize bsv (encL (xs.take k)) = sa at hz2 HAP ⊢
        obtain ⟨kd, xn, s⟩ := x
        unfold itV at HIB
        dsimp only at c0 c1 c2 HIB
        go_upto_region 7 with fail
        have hx1 := Ext.alloc wr (.cells #[.int .i64 kd, .int .i64 xn, .string s] 47)
        have hb1 := heap_alloc_new wr (.cells #[.int .i64 kd, .int .i64 xn, .string s] 47 (0, 0))
        generalize wr.alloc (.cells #[.int .i64 kd, .int .i64 xn, .string s] 47) = w1 at hx1 hb1 ⊢
        generalize wr.heap.size = q at hb1 ⊢
        have HX1 := Lib.hid (HX.out.trans hx1)
        have d0 := heap_cell hb1 0
        have d1 := heap_cell hb1 1
        have d2 := heap_cell hb1 2
        have hb1 : ¬ (9223372036854775807 < sa.size + sb.size) := by omega
        clear hx1 c0 c1 c2
        go_wp2_with fail
        refine (HIB.out w1).mono ?_
        rintro e w2 ⟨rfl, hx2⟩
        have HX2 := Lib.hid (HX1.out.trans hx2)
        clear d0 d1 d2 hx2
        go_wp2_with fail
        go_roundw
        case rel => exact ⟨k + 1, by omega, by go_num, by rw [HAP.out], HX2.out⟩
        case measure => simp [intOf]; omega
      · obtain rfl : k = xs.length := by omega
        rw [List.take_length]
        generalize bsv (encL xs) = F at HB ⊢
        go_wp2_with fail
        go_ret
        rw [HB.out]
        exact ⟨rfl, HX.out⟩
  · rw [decide_eq_false hrt]
    have HB : Hid (encB xs = ⟨#[]⟩) := Lib.hid (if_neg hrt)
    clear hrt
    go_wp2_with fail
    go_ret
    rw [HB.out]
    exact ⟨rfl, HX0.out⟩
end Go.Proofs.Ytdbboooblbdihaa
