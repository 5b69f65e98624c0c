/- Layer 19's calls: opened, light walked; both logs of a law. -/
import Derived.Test.YtdndeggognfcaaaAofD
import Derived.Test.YtdndeggognfcaaaOpn
namespace Go.Proofs.Ytdndeggognfcaaa
open Go.ChangeShapes Go.WideShapes Go.ChangeAt Go.RowKit Go.Deep
set_option linter.unusedVariables false
set_option linter.unusedSectionVars false
set_option linter.unusedSimpArgs false
set_option maxRecDepth 100000

/-- A call: the records as they are handed in, and what they are. -/
structure AOp where
  kind : Int
  s : ByteArray
  v : Value
  l : List ByteArray
  n : Int
  m : Int
  ren : Bool
def opV (o : AOp) : Value := .agg #[.int .i64 o.kind, .string o.s, o.v, .int .i64 o.n, .int .i64 o.m, .bool o.ren]
def opC (o : AOp) : List Value := [.int .i64 o.kind, .string o.s, o.v, .int .i64 o.n, .int .i64 o.m, .bool o.ren]
theorem opC_len (o : AOp) : (opC o).length = 6 := rfl
structure AOpOk (w : World) (o : AOp) : Prop where
  k1 : -9223372036854775808 ≤ o.kind
  k2 : o.kind ≤ 9223372036854775807
  s1 : o.s.size ≤ 9223372036854775807
  row : Txt w o.v o.l
  rows : ∀ y ∈ o.l, y.size ≤ 9223372036854775807
  n1 : -9223372036854775808 ≤ o.n
  n2 : o.n ≤ 9223372036854775807
  m1 : -9223372036854775808 ≤ o.m
  m2 : o.m ≤ 9223372036854775807
instance : Inhabited AOp := ⟨⟨0, ⟨#[]⟩, .slice none 0 0, [], 0, 0, false⟩⟩
theorem AOpOk.ext {w w' : World} {o : AOp} (h : AOpOk w o) (k : Ext w w') : AOpOk w' o := ⟨h.k1, h.k2, h.s1, h.row.ext k, h.rows, h.n1, h.n2, h.m1, h.m2⟩
theorem Try.cellsStr : Try.prog.cellsOf 9 = 1 := by kernel_rfl
section
variable {H : Type} {enc : TypeId × Value → H} {W : World} {base : Nat} {v : Value} {d : DataW H} {p : List MemPlace}
theorem part_strs {n : Nat} {y : DataW H × List MemPlace} (h : DataW.trod enc Try.prog W 0 (fun _ => true) true n 34 [v] = some y) : ∃ xs, Txt W v xs ∧ ∀ s ∈ xs, s.size ≤ 9223372036854775807 := by
  rcases open_strings Try.underlying34 Try.underlying9 Try.cellsStr h with ⟨hcs, _⟩ | ⟨a, len', cap', ss, hcs, _, hl, hm, hz, _, hcell, hws⟩
  · injection hcs with hcs
    subst hcs
    exact ⟨[], ⟨none, 0, 0, rfl, rfl, by omega, by omega, Rd.nil _ _⟩, fun s hs => by simp at hs⟩
  · injection hcs with hcs
    subst hcs
    simp only [if_true] at hz
    refine ⟨ss.take len', ⟨some a, len', cap', rfl, by rw [List.length_take]; omega, hl, by simpa [maxLen] using hm, fun _ => ⟨a, rfl, fun j u hu => ?_⟩⟩, fun s hs => by
      have := hws s (List.mem_of_mem_take hs)
      simpa [maxLen] using this⟩
    rw [List.getElem?_map, List.getElem?_take] at hu
    split at hu
    · rename_i hj
      rw [hcell j (by omega)]
      cases hss : ss[j]? with
      | none => simp [hss] at hu
      | some s =>
        simp [hss] at hu
        rw [← hu]
        simp [hss]
    · simp at hu
theorem open_aops (hv : Value.okWide Try.prog W .any base 27 v) (h : DataW.Trod enc Try.prog W 0 (fun _ => true) true 27 v d p) : ∃ xs, Row opC W v xs ∧ ∀ x ∈ xs, AOpOk W x := by
  obtain ⟨a0, len, cap, rfl⟩ := okWide_slice Try.underlying27 hv
  obtain ⟨fuel, hf⟩ := h
  rcases open_slice_fields Try.underlying27 Try.underlying36 (by kernel_rfl) (by kernel_rfl) hf with hcs | ⟨a, len', cap', hcs, hl, hm, hi⟩
  · simp [Value.cells] at hcs
    obtain ⟨rfl, rfl, rfl⟩ := hcs
    exact ⟨[], ⟨none, 0, 0, rfl, rfl, by omega, by simp [maxLen], Rd.nil _ _⟩, by simp⟩
  · simp [Value.cells] at hcs
    obtain ⟨rfl, rfl, rfl⟩ := hcs
    refine row_of opC_len (by decide) hl hm fun i hil => ?_
    obtain ⟨m, hf⟩ := hi i hil
    obtain ⟨v0, y0, c0, t0⟩ := hf 0 _ rfl
    obtain ⟨v1, y1, c1, t1⟩ := hf 1 _ rfl
    obtain ⟨v2, y2, c2, t2⟩ := hf 2 _ rfl
    obtain ⟨v3, y3, c3, t3⟩ := hf 3 _ rfl
    obtain ⟨v4, y4, c4, t4⟩ := hf 4 _ rfl
    obtain ⟨v5, y5, c5, t5⟩ := hf 5 _ rfl
    obtain ⟨x0, rfl, b0⟩ := part_i64 Try.underlying3 t0
    obtain ⟨x1, rfl, b1⟩ := part_str Try.underlying9 t1
    obtain ⟨xs, b2, b2'⟩ := part_strs t2
    obtain ⟨x3, rfl, b3⟩ := part_i64 Try.underlying3 t3
    obtain ⟨x4, rfl, b4⟩ := part_i64 Try.underlying3 t4
    obtain ⟨x5, rfl⟩ := part_bool Try.underlying4 t5
    refine ⟨⟨x0, x1, v2, xs, x3, x4, x5⟩, ⟨b0.1, b0.2, b1, b2, b2', b3.1, b3.2, b4.1, b4.2⟩, fun j u hu => ?_⟩
    have hj : j < 6 := by
      have := (List.getElem?_eq_some_iff.1 hu).1
      simpa [opC] using this
    have hs : j = 0 ∨ j = 1 ∨ j = 2 ∨ j = 3 ∨ j = 4 ∨ j = 5 := by omega
    rcases hs with rfl | rfl | rfl | rfl | rfl | rfl
    · exact c0.trans (by simpa [opC] using hu)
    · exact c1.trans (by simpa [opC] using hu)
    · exact c2.trans (by simpa [opC] using hu)
    · exact c3.trans (by simpa [opC] using hu)
    · exact c4.trans (by simpa [opC] using hu)
    · exact c5.trans (by simpa [opC] using hu)
end
set_option maxHeartbeats 2000000 in
theorem light_any (o : AOp) (w : World) (ho : AOpOk w o) :
    Calls Try.prog 17 #[opV o] w fun e w' => ∃ b, e = .returned (.bool b) ∧ (b = true → o.s.size ≤ 400 ∧ o.l.length ≤ 20 ∧ ∀ x ∈ o.l, x.size ≤ 400) ∧ Ext w w' := by
  obtain ⟨kind, key, u, ls, nn, mm, rr⟩ := o
  obtain ⟨A, n, c, rfl, hn, hnc, hcm, hr⟩ := ho.row
  dsimp only at hn hr
  have hx := Ext.alloc w (.cells #[.int .i64 kind, .string key, .slice A n c, .int .i64 nn, .int .i64 mm, .bool rr] 36)
  have hb := heap_alloc_new w (.cells #[.int .i64 kind, .string key, .slice A n c, .int .i64 nn, .int .i64 mm, .bool rr] 36 (0, 0))
  have c1 := heap_cell hb 1
  have c2 := heap_cell hb 2
  have HX := Lib.hid hx
  have HN := Lib.hid hn
  have HR := Lib.hid (hr.ext hx)
  simp only [opV]
  clear ho hr hx hb hn
  by_cases hk : key.size ≤ 400
  · have g1 : decide ((400 : Int) < (key.size : Int)) = false := decide_eq_false (by omega)
    have HK := Lib.hid hk
    clear hk
    by_cases hn2 : n ≤ 20
    · have g2 : decide ((20 : Int) < (n : Int)) = false := decide_eq_false (by omega)
      go_enter Try.func17, Try.ntmps17
      go_wp2_with fail
      go_loopw [3] (fun i wr => ∃ k : Nat, k ≤ n ∧ i = .int .i64 (k : Int) ∧ Ext (w.alloc (.cells #[.int .i64 kind, .string key, .slice A n c, .int .i64 nn, .int .i64 mm, .bool rr] 36)) wr ∧ ∀ x ∈ ls.take k, x.size ≤ 400) (fun i _ => n - (intOf i).toNat)
      case atStart => exact ⟨0, by omega, rfl, Ext.refl _, by simp⟩
      case round =>
        obtain ⟨k, hkk, rfl, hext, hall⟩ := hrel
        have HE := Lib.hid hext
        have HALL := Lib.hid hall
        have d1 := hext.cell c1
        have d2 := hext.cell c2
        clear hall
        by_cases hkn : k < n
        · have hkI : (k : Int) < (n : Int) := by omega
          have hkJ : (0 : Int) ≤ (k : Int) := by omega
          obtain ⟨y, hy⟩ : ∃ y, ls[k]? = some y := ⟨_, List.getElem?_eq_getElem (by have := HN.out; omega)⟩
          obtain ⟨ad, rfl, hcell⟩ := (HR.out.ext hext).some_ (by have := HN.out; rw [List.length_map]; omega)
          have r0 := hcell k (.string y) (by rw [List.getElem?_map, hy]; rfl)
          have HY := Lib.hid hy
          clear hy hext hcell
          by_cases h1 : y.size ≤ 400
          · have g3 : decide ((400 : Int) < (y.size : Int)) = false := decide_eq_false (by omega)
            have HH1 := Lib.hid h1
            clear h1
            go_wp2_with fail
            go_roundw
            case rel => exact ⟨k + 1, by omega, by go_num, HE.out, fun x hx => by
              rw [List.take_add_one, HY.out] at hx
              rcases List.mem_append.1 hx with hx | hx
              · exact HALL.out x hx
              · simp at hx; subst hx; exact HH1.out⟩
            case measure => simp [intOf]; omega
          · have g3 : decide ((400 : Int) < (y.size : Int)) = true := decide_eq_true (by omega)
            clear h1
            go_wp2_with fail
            go_ret
            exact ⟨false, rfl, by simp, HX.out.trans HE.out⟩
        · obtain rfl : k = n := by omega
          clear hext
          go_wp2_with fail
          go_ret
          refine ⟨true, rfl, fun _ => ⟨HK.out, by rw [HN.out]; exact hn2, ?_⟩, HX.out.trans HE.out⟩
          have := HALL.out
          rwa [List.take_of_length_le (by rw [HN.out]; exact Nat.le_refl _)] at this
    · have g2 : decide ((20 : Int) < (n : Int)) = true := decide_eq_true (by omega)
      go_enter Try.func17, Try.ntmps17
      go_wp2_with fail
      go_ret
      exact ⟨false, rfl, by simp, HX.out⟩
  · have g1 : decide ((400 : Int) < (key.size : Int)) = true := decide_eq_true (by omega)
    go_enter Try.func17, Try.ntmps17
    go_wp2_with fail
    go_ret
    exact ⟨false, rfl, by simp, HX.out⟩
end Go.Proofs.Ytdndeggognfcaaa
