/- Replies: items, whether they can be, their bytes. -/
import Derived.Test.YtdbboooblbdihaaRspG
import Derived.Lib.ConvBytes
namespace Go.Proofs.Ytdbboooblbdihaa
open Go.RowKit
set_option linter.unusedVariables false
set_option linter.unusedSectionVars false
set_option linter.unusedSimpArgs false
set_option maxRecDepth 100000


structure Itm where
  kind : Int
  n : Int
  s : ByteArray
def itV (x : Itm) : Value := .agg #[.int .i64 x.kind, .int .i64 x.n, .string x.s]
def itC (x : Itm) : List Value := [.int .i64 x.kind, .int .i64 x.n, .string x.s]
theorem itC_len (x : Itm) : (itC x).length = 3 := rfl
instance : Inhabited Itm := ⟨⟨0, 0, ⟨#[]⟩⟩⟩
structure ItmOk (x : Itm) : Prop where
  k1 : -9223372036854775808 ≤ x.kind
  k2 : x.kind ≤ 9223372036854775807
  n1 : -9223372036854775808 ≤ x.n
  n2 : x.n ≤ 9223372036854775807
  s1 : x.s.size ≤ 9223372036854775807
def plainB (c : UInt8) : Prop := 32 ≤ c.toNat ∧ c.toNat ≤ 126
instance (c : UInt8) : Decidable (plainB c) := inferInstanceAs (Decidable (_ ∧ _))
theorem plain_any (c : UInt8) (w : World) : Calls Try.prog 52 #[.int .u8 (c.toNat : Int)] w fun e w' => e = .returned (.bool (decide (plainB c))) ∧ w = w' := by
  have hcl := c.toNat_lt
  by_cases h1 : 32 ≤ c.toNat
  · have h1I : (32 : Int) ≤ (c.toNat : Int) := by omega
    by_cases h2 : c.toNat ≤ 126
    · have h2I : (c.toNat : Int) ≤ 126 := by omega
      have hR : decide (plainB c) = true := decide_eq_true ⟨h1, h2⟩
      rw [hR]
      go_enter Try.func52, Try.ntmps52
      go_wp2_with fail
      go_ret
      exact ⟨rfl, rfl⟩
    · have h2I : ¬ (c.toNat : Int) ≤ 126 := by omega
      have hR : decide (plainB c) = false := decide_eq_false (fun h => h2 h.2)
      rw [hR]
      go_enter Try.func52, Try.ntmps52
      go_wp2_with fail
      go_ret
      exact ⟨rfl, rfl⟩
  · have h1I : ¬ (32 : Int) ≤ (c.toNat : Int) := by omega
    have hR : decide (plainB c) = false := decide_eq_false (fun h => h1 h.1)
    rw [hR]
    go_enter Try.func52, Try.ntmps52
    go_wp2_with fail
    go_ret
    exact ⟨rfl, rfl⟩
def right1 (x : Itm) : Prop :=
  ((x.kind = 1 ∨ x.kind = 2) ∧ x.n = 0 ∧ (∀ c ∈ x.s.toList, plainB c) ∧ x.s.size ≤ 128) ∨ (x.kind = 3 ∧ x.s.size = 0) ∨ (x.kind = 4 ∧ x.n = 0 ∧ x.s.size ≤ 512) ∨ (x.kind = 5 ∧ x.n = 0 ∧ x.s.size = 0) ∨ (x.kind = 6 ∧ x.s.size = 0 ∧ 0 ≤ x.n ∧ x.n ≤ 100000)
instance (x : Itm) : Decidable (right1 x) := inferInstanceAs (Decidable (_ ∨ _))
theorem emp_size {s : ByteArray} (h : s.toList = []) : s.size = 0 := by
  have := size_list s
  rw [h] at this
  exact this.symm
theorem nemp_size {s : ByteArray} (h : ¬ s.toList = []) : ¬ s.size = 0 := by
  intro e
  have := size_list s
  exact h (List.eq_nil_of_length_eq_zero (by omega))
theorem ret_t {P : Prop} [Decidable P] (h : P) : Ending.returned (.bool true) = .returned (.bool (decide P)) := by rw [decide_eq_true h]
theorem ret_f {P : Prop} [Decidable P] (h : ¬ P) : Ending.returned (.bool false) = .returned (.bool (decide P)) := by rw [decide_eq_false h]
theorem ret_d {P Q : Prop} [Decidable P] [Decidable Q] (h : Q ↔ P) : Ending.returned (.bool (decide Q)) = .returned (.bool (decide P)) := by rw [decide_eq_decide.mpr h]
theorem right_3 (n : Int) (s : ByteArray) (w : World) (hx : s.size ≤ 9223372036854775807) :
    Calls Try.prog 38 #[.agg #[.int .i64 3, .int .i64 n, .string s]] w fun e w' => e = .returned (.bool (decide (right1 ⟨3, n, s⟩))) ∧ Ext w w' := by
  go_enter Try.func38, Try.ntmps38
  go_wp2_with fail
  all_goals (
    go_ret
    refine ⟨?_, ((Ext.refl _).alloc_ _).alloc_ _⟩
    first | refine ret_t ?_ | refine ret_f ?_ | refine ret_d ?_
    all_goals (first | have he := emp_size (by assumption) | have he := nemp_size (by assumption) | skip)
    all_goals (rw [right1]; dsimp only; omega))
theorem right_4 (n : Int) (s : ByteArray) (w : World) (hx : s.size ≤ 9223372036854775807) :
    Calls Try.prog 38 #[.agg #[.int .i64 4, .int .i64 n, .string s]] w fun e w' => e = .returned (.bool (decide (right1 ⟨4, n, s⟩))) ∧ Ext w w' := by
  go_enter Try.func38, Try.ntmps38
  go_wp2_with fail
  all_goals (
    go_ret
    refine ⟨?_, ((Ext.refl _).alloc_ _).alloc_ _⟩
    first | refine ret_t ?_ | refine ret_f ?_ | refine ret_d ?_
    all_goals (first | have he := emp_size (by assumption) | have he := nemp_size (by assumption) | skip)
    all_goals (rw [right1]; dsimp only; omega))
theorem right_5 (n : Int) (s : ByteArray) (w : World) (hx : s.size ≤ 9223372036854775807) :
    Calls Try.prog 38 #[.agg #[.int .i64 5, .int .i64 n, .string s]] w fun e w' => e = .returned (.bool (decide (right1 ⟨5, n, s⟩))) ∧ Ext w w' := by
  go_enter Try.func38, Try.ntmps38
  go_wp2_with fail
  all_goals (
    go_ret
    refine ⟨?_, ((Ext.refl _).alloc_ _).alloc_ _⟩
    first | refine ret_t ?_ | refine ret_f ?_ | refine ret_d ?_
    all_goals (first | have he := emp_size (by assumption) | have he := nemp_size (by assumption) | skip)
    all_goals (rw [right1]; dsimp only; omega))
theorem right_o (k n : Int) (s : ByteArray) (w : World) (h1 : ¬ k = 1) (h2 : ¬ k = 2) (h3 : ¬ k = 3) (h4 : ¬ k = 4) (h5 : ¬ k = 5) (h6 : ¬ k = 6) :
    Calls Try.prog 38 #[.agg #[.int .i64 k, .int .i64 n, .string s]] w fun e w' => e = .returned (.bool (decide (right1 ⟨k, n, s⟩))) ∧ Ext w w' := by
  go_enter Try.func38, Try.ntmps38
  go_wp2_with fail
  all_goals (
    go_ret
    refine ⟨?_, ((Ext.refl _).alloc_ _).alloc_ _⟩
    first | refine ret_t ?_ | refine ret_f ?_ | refine ret_d ?_
    all_goals (first | have he := emp_size (by assumption) | have he := nemp_size (by assumption) | skip)
    all_goals (rw [right1]; dsimp only; omega))
theorem right_6 (n : Int) (s : ByteArray) (w : World) (hn1 : -9223372036854775808 ≤ n) (hn2 : n ≤ 9223372036854775807) (hx : s.size ≤ 9223372036854775807) :
    Calls Try.prog 38 #[.agg #[.int .i64 6, .int .i64 n, .string s]] w fun e w' => e = .returned (.bool (decide (right1 ⟨6, n, s⟩))) ∧ Ext w w' := by
  go_enter Try.func38, Try.ntmps38
  go_wp2_with fail
  all_goals (
    go_ret
    refine ⟨?_, ((Ext.refl _).alloc_ _).alloc_ _⟩
    first | refine ret_t ?_ | refine ret_f ?_ | refine ret_d ?_
    all_goals (first | have he := emp_size (by assumption) | have he := nemp_size (by assumption) | skip)
    all_goals (rw [right1]; dsimp only; omega))
theorem bytes_ext_w (w : World) (e : TypeId) (s : ByteArray) : Ext w (Lib.bytesWorld w e s) :=
  ⟨rfl, rfl, rfl, by rw [Lib.bytesWorld_size]; omega, fun k hk => Lib.bytesWorld_at_old w e s k hk⟩
theorem to_bytes (w : World) (s : ByteArray) : ∃ ad c w', (convert 9 22 (.string s)).run Try.prog w = .ok (.slice (some ad) s.size c) w' ∧ Rd w' (some ad) (s.toList.map byteV) ∧ Ext w w' := by
  refine ⟨_, _, _, Lib.run_convert_string_bytes w 9 22 5 s Try.underlying9 Try.underlying22 Try.underlying5, fun _ => ⟨_, rfl, fun j u hu => ?_⟩, bytes_ext_w w _ s⟩
  rw [List.getElem?_map, Option.map_eq_some_iff] at hu
  obtain ⟨b, hb, rfl⟩ := hu
  have hj := (List.getElem?_eq_some_iff.1 hb).1
  rw [size_list] at hj
  have := Lib.bytesWorld_cell w 5 s j hj
  have e : s.data.toList.getD j 0 = b := by
    rw [← Lib.toList_data, List.getD_eq_getElem?_getD, hb]
    rfl
  rw [e] at this
  have ea : (⟨w.heap.size, 0, none⟩ : Addr).add j = ⟨w.heap.size, j, none⟩ := by simp [Addr.add]; exact fun h => h.symm
  rw [ea]
  exact this
theorem get_byte (s : ByteArray) (k : Nat) (h : k < s.size) : s.toList[k]? = some s[k] := by
  have hl : k < s.toList.length := by rw [size_list]; exact h
  rw [List.getElem?_eq_getElem hl]
  congr 1
  simp [Lib.toList_data]
  rfl
theorem take_all {p : UInt8 → Prop} {l : List UInt8} {k : Nat} {x : UInt8} (h : ∀ c ∈ l.take k, p c) (hx : l[k]? = some x) (hp : p x) : ∀ c ∈ l.take (k + 1), p c := by
  intro c hc
  rw [List.take_add_one, hx] at hc
  simp at hc
  rcases hc with hc | rfl
  · exact h c (by simpa using hc)
  · exact hp
theorem right_1 (n : Int) (s : ByteArray) (w : World) (hx : s.size ≤ 9223372036854775807) :
    Calls Try.prog 38 #[.agg #[.int .i64 1, .int .i64 n, .string s]] w fun e w' => e = .returned (.bool (decide (right1 ⟨1, n, s⟩))) ∧ Ext w w' := by
  go_enter Try.func38, Try.ntmps38
  go_upto_region 6 with fail
  have hx1 := Ext.alloc w (.cells #[.int .i64 1, .int .i64 n, .string s] 47)
  have hb1 := heap_alloc_new w (.cells #[.int .i64 1, .int .i64 n, .string s] 47 (0, 0))
  have hz1 : (w.alloc (.cells #[.int .i64 1, .int .i64 n, .string s] 47)).heap.size = w.heap.size + 1 := by simp
  generalize w.alloc (.cells #[.int .i64 1, .int .i64 n, .string s] 47) = w1 at hx1 hb1 hz1 ⊢
  have hx2 := Ext.alloc w1 (.cells #[.int .i64 1, .int .i64 0, .string ⟨#[]⟩] 47)
  have hb2 := heap_alloc_new w1 (.cells #[.int .i64 1, .int .i64 0, .string ⟨#[]⟩] 47 (0, 0))
  rw [hz1] at hb2
  generalize w1.alloc (.cells #[.int .i64 1, .int .i64 0, .string ⟨#[]⟩] 47) = w2 at hx2 hb2 ⊢
  have hb1 := (hx2.block _ (by omega)).trans hb1
  obtain ⟨ad, c, w3, hconv, hrd, hx3⟩ := to_bytes w2 s
  obtain ⟨r, hr⟩ : ∃ r, r = w.heap.size := ⟨_, rfl⟩
  rw [← hr] at hb1 hb2 ⊢
  generalize hvr : r + 1 = vr at hb2 ⊢
  have c0 := heap_cell hb1 2
  have H1 := Lib.hid hb1
  have H2 := Lib.hid hb2
  have HX3 := Lib.hid hx3
  have HX := Lib.hid (hx1.trans hx2)
  have HR := Lib.hid hrd
  have HRW := Lib.hid hr
  have HVR := Lib.hid hvr
  clear hx1 hz1 hx2 hb1 hb2 hx3 hrd hr hvr
  go_wp2_with fail
  clear hconv c0
  go_loopw [18] (fun iv wr => ∃ k : Nat, k ≤ s.size ∧ iv = .int .i64 (k : Int) ∧ (∀ c ∈ s.toList.take k, plainB c) ∧ wr = w3) (fun iv _ => s.size - (intOf iv).toNat)
  case atStart => exact ⟨0, by omega, rfl, by simp, rfl⟩
  case round =>
    obtain ⟨k, hk, rfl, hall, rfl⟩ := hrel
    have HALL := Lib.hid hall
    clear hall
    by_cases hkn : k < s.size
    · have hkI : (k : Int) < (s.size : Int) := by omega
      have hkJ : (0 : Int) ≤ (k : Int) := by omega
      have hb := get_byte s k hkn
      generalize s[k] = b at hb
      have c0 : wr.cell? (ad.add k) = some (.int .u8 (b.toNat : Int)) := by
        obtain ⟨ad', e, hc⟩ := HR.out (by simp; intro h; rw [h] at hb; simp at hb)
        injection e with e
        subst e
        exact hc k _ (by rw [List.getElem?_map, hb]; rfl)
      have HB := Lib.hid hb
      clear hb
      go_wp2_with fail
      refine (plain_any b wr).mono ?_
      rintro e w4 ⟨rfl, rfl⟩
      by_cases hp : plainB b
      · rw [decide_eq_true hp]
        have HP := Lib.hid hp
        clear hp
        go_wp2_with fail
        go_roundw
        case rel => exact ⟨k + 1, by omega, by go_num, take_all HALL.out HB.out HP.out, trivial⟩
        case measure => simp [intOf]; omega
      · rw [decide_eq_false hp]
        have HP := Lib.hid hp
        clear hp
        go_wp2_with fail
        go_ret
        refine ⟨ret_f ?_, HX.out.trans HX3.out⟩
        intro h
        rw [right1] at h
        rcases h with ⟨_, _, h, _⟩ | ⟨h, _⟩ | ⟨h, _⟩ | ⟨h, _⟩ | ⟨h, _⟩
        · exact HP.out (h b (List.mem_of_getElem? HB.out))
        all_goals exact absurd h (by dsimp only; decide)
    · obtain rfl : k = s.size := by omega
      have hk3 := Kp.of_ext (L := []) HX3.out
      have h1 := hk3.heap H1.out (by simp)
      have h2 := hk3.heap H2.out (by simp)
      have c2 := heap_cell h1 2
      have d2 := heap_cell h2 2
      have f2 := heap_frozen h2 2
      have H1 := Lib.hid h1
      have H2 := Lib.hid h2
      clear h1 h2 hk3
      go_upto_region 13 with fail
      clear c2 d2 f2
      have hst := heap_setCell_same wr vr 2 _ 47 (.string s) H2.out
      have hr4 := (Kp.store (L := [vr]) (w := wr) vr 2 (.string s) (by simp)).heap H1.out (by simp; have := HVR.out; omega)
      have hst2 : (wr.setCell ⟨vr, 2, none⟩ (.string s)).heap[vr]? = some (.cells #[.int .i64 1, .int .i64 0, .string s] 47 (0, 0)) := hst
      have HE : Hid (Ext w (wr.setCell ⟨vr, 2, none⟩ (.string s))) := Lib.hid (((Chg.of_ext (HX.out.trans HX3.out) : Chg w.heap.size [47] w wr).trans (Chg.store _ H2.out (by simp) (by have := HVR.out; have := HRW.out; omega))).to_ext (Nat.le_refl _))
      generalize wr.setCell ⟨vr, 2, none⟩ (.string s) = w4 at hst2 hr4 HE ⊢
      have c0 := heap_cell hr4 0
      have c1 := heap_cell hr4 1
      have c2 := heap_cell hr4 2
      have d0 := heap_cell hst2 0
      have d1 := heap_cell hst2 1
      have d2 := heap_cell hst2 2
      have HAL := Lib.hid (show ∀ c ∈ s.toList, plainB c from fun c hc => HALL.out c (by rw [List.take_of_length_le (by rw [size_list]; exact Nat.le_refl _)]; exact hc))
      clear hst hst2 hr4
      go_wp2_with fail
      all_goals (
        go_ret
        refine ⟨?_, HE.out⟩
        first | refine ret_f ?_ | refine ret_d ?_)
      all_goals (
        have HA := HAL.out
        rw [right1]
        dsimp only)
      · constructor
        · intro h
          exact .inl ⟨.inl rfl, by omega, HA, by omega⟩
        · rintro (⟨_, _, _, h⟩ | ⟨h, _⟩ | ⟨h, _⟩ | ⟨h, _⟩ | ⟨h, _⟩) <;> omega
      · rintro (⟨_, h, _⟩ | ⟨h, _⟩ | ⟨h, _⟩ | ⟨h, _⟩ | ⟨h, _⟩) <;> omega
theorem right_2 (n : Int) (s : ByteArray) (w : World) (hx : s.size ≤ 9223372036854775807) :
    Calls Try.prog 38 #[.agg #[.int .i64 2, .int .i64 n, .string s]] w fun e w' => e = .returned (.bool (decide (right1 ⟨2, n, s⟩))) ∧ Ext w w' := by
  go_enter Try.func38, Try.ntmps38
  go_upto_region 6 with fail
  have hx1 := Ext.alloc w (.cells #[.int .i64 2, .int .i64 n, .string s] 47)
  have hb1 := heap_alloc_new w (.cells #[.int .i64 2, .int .i64 n, .string s] 47 (0, 0))
  have hz1 : (w.alloc (.cells #[.int .i64 2, .int .i64 n, .string s] 47)).heap.size = w.heap.size + 1 := by simp
  generalize w.alloc (.cells #[.int .i64 2, .int .i64 n, .string s] 47) = w1 at hx1 hb1 hz1 ⊢
  have hx2 := Ext.alloc w1 (.cells #[.int .i64 2, .int .i64 0, .string ⟨#[]⟩] 47)
  have hb2 := heap_alloc_new w1 (.cells #[.int .i64 2, .int .i64 0, .string ⟨#[]⟩] 47 (0, 0))
  rw [hz1] at hb2
  generalize w1.alloc (.cells #[.int .i64 2, .int .i64 0, .string ⟨#[]⟩] 47) = w2 at hx2 hb2 ⊢
  have hb1 := (hx2.block _ (by omega)).trans hb1
  obtain ⟨ad, c, w3, hconv, hrd, hx3⟩ := to_bytes w2 s
  obtain ⟨r, hr⟩ : ∃ r, r = w.heap.size := ⟨_, rfl⟩
  rw [← hr] at hb1 hb2 ⊢
  generalize hvr : r + 1 = vr at hb2 ⊢
  have c0 := heap_cell hb1 2
  have H1 := Lib.hid hb1
  have H2 := Lib.hid hb2
  have HX3 := Lib.hid hx3
  have HX := Lib.hid (hx1.trans hx2)
  have HR := Lib.hid hrd
  have HRW := Lib.hid hr
  have HVR := Lib.hid hvr
  clear hx1 hz1 hx2 hb1 hb2 hx3 hrd hr hvr
  go_wp2_with fail
  clear hconv c0
  go_loopw [18] (fun iv wr => ∃ k : Nat, k ≤ s.size ∧ iv = .int .i64 (k : Int) ∧ (∀ c ∈ s.toList.take k, plainB c) ∧ wr = w3) (fun iv _ => s.size - (intOf iv).toNat)
  case atStart => exact ⟨0, by omega, rfl, by simp, rfl⟩
  case round =>
    obtain ⟨k, hk, rfl, hall, rfl⟩ := hrel
    have HALL := Lib.hid hall
    clear hall
    by_cases hkn : k < s.size
    · have hkI : (k : Int) < (s.size : Int) := by omega
      have hkJ : (0 : Int) ≤ (k : Int) := by omega
      have hb := get_byte s k hkn
      generalize s[k] = b at hb
      have c0 : wr.cell? (ad.add k) = some (.int .u8 (b.toNat : Int)) := by
        obtain ⟨ad', e, hc⟩ := HR.out (by simp; intro h; rw [h] at hb; simp at hb)
        injection e with e
        subst e
        exact hc k _ (by rw [List.getElem?_map, hb]; rfl)
      have HB := Lib.hid hb
      clear hb
      go_wp2_with fail
      refine (plain_any b wr).mono ?_
      rintro e w4 ⟨rfl, rfl⟩
      by_cases hp : plainB b
      · rw [decide_eq_true hp]
        have HP := Lib.hid hp
        clear hp
        go_wp2_with fail
        go_roundw
        case rel => exact ⟨k + 1, by omega, by go_num, take_all HALL.out HB.out HP.out, trivial⟩
        case measure => simp [intOf]; omega
      · rw [decide_eq_false hp]
        have HP := Lib.hid hp
        clear hp
        go_wp2_with fail
        go_ret
        refine ⟨ret_f ?_, HX.out.trans HX3.out⟩
        intro h
        rw [right1] at h
        rcases h with ⟨_, _, h, _⟩ | ⟨h, _⟩ | ⟨h, _⟩ | ⟨h, _⟩ | ⟨h, _⟩
        · exact HP.out (h b (List.mem_of_getElem? HB.out))
        all_goals exact absurd h (by dsimp only; decide)
    · obtain rfl : k = s.size := by omega
      have hk3 := Kp.of_ext (L := []) HX3.out
      have h1 := hk3.heap H1.out (by simp)
      have h2 := hk3.heap H2.out (by simp)
      have c2 := heap_cell h1 2
      have d2 := heap_cell h2 2
      have f2 := heap_frozen h2 2
      have H1 := Lib.hid h1
      have H2 := Lib.hid h2
      clear h1 h2 hk3
      go_upto_region 13 with fail
      clear c2 d2 f2
      have hst := heap_setCell_same wr vr 2 _ 47 (.string s) H2.out
      have hr4 := (Kp.store (L := [vr]) (w := wr) vr 2 (.string s) (by simp)).heap H1.out (by simp; have := HVR.out; omega)
      have hst2 : (wr.setCell ⟨vr, 2, none⟩ (.string s)).heap[vr]? = some (.cells #[.int .i64 2, .int .i64 0, .string s] 47 (0, 0)) := hst
      have HE : Hid (Ext w (wr.setCell ⟨vr, 2, none⟩ (.string s))) := Lib.hid (((Chg.of_ext (HX.out.trans HX3.out) : Chg w.heap.size [47] w wr).trans (Chg.store _ H2.out (by simp) (by have := HVR.out; have := HRW.out; omega))).to_ext (Nat.le_refl _))
      generalize wr.setCell ⟨vr, 2, none⟩ (.string s) = w4 at hst2 hr4 HE ⊢
      have c0 := heap_cell hr4 0
      have c1 := heap_cell hr4 1
      have c2 := heap_cell hr4 2
      have d0 := heap_cell hst2 0
      have d1 := heap_cell hst2 1
      have d2 := heap_cell hst2 2
      have HAL := Lib.hid (show ∀ c ∈ s.toList, plainB c from fun c hc => HALL.out c (by rw [List.take_of_length_le (by rw [size_list]; exact Nat.le_refl _)]; exact hc))
      clear hst hst2 hr4
      go_wp2_with fail
      all_goals (
        go_ret
        refine ⟨?_, HE.out⟩
        first | refine ret_f ?_ | refine ret_d ?_)
      all_goals (
        have HA := HAL.out
        rw [right1]
        dsimp only)
      · constructor
        · intro h
          exact .inl ⟨.inr rfl, by omega, HA, by omega⟩
        · rintro (⟨_, _, _, h⟩ | ⟨h, _⟩ | ⟨h, _⟩ | ⟨h, _⟩ | ⟨h, _⟩) <;> omega
      · rintro (⟨_, h, _⟩ | ⟨h, _⟩ | ⟨h, _⟩ | ⟨h, _⟩ | ⟨h, _⟩) <;> omega
theorem right_any (x : Itm) (w : World) (hx : ItmOk x) : Calls Try.prog 38 #[itV x] w fun e w' => e = .returned (.bool (decide (right1 x))) ∧ Ext w w' := by
  obtain ⟨k, n, s⟩ := x
  obtain ⟨_, _, hn1, hn2, hs⟩ := hx
  dsimp only at hn1 hn2 hs
  by_cases h1 : k = 1
  · subst h1; exact right_1 n s w hs
  by_cases h2 : k = 2
  · subst h2; exact right_2 n s w hs
  by_cases h3 : k = 3
  · subst h3; exact right_3 n s w hs
  by_cases h4 : k = 4
  · subst h4; exact right_4 n s w hs
  by_cases h5 : k = 5
  · subst h5; exact right_5 n s w hs
  by_cases h6 : k = 6
  · subst h6; exact right_6 n s w hn1 hn2 hs
  exact right_o k n s w h1 h2 h3 h4 h5 h6
