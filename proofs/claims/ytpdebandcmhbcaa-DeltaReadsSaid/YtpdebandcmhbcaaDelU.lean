/- The statement DeltaShifts, walked. -/
import Derived.Test.YtpdebandcmhbcaaDelK
import Derived.Test.YtpdebandcmhbcaaDelZ
import Derived.StillTailTactics
import Derived.Test.YtpdebandcmhbcaaSte
namespace Go.Proofs.Ytpdebandcmhbcaa
open Go.RowKit Bit
set_option linter.unusedVariables false

theorem own_later {w w' : World} {base e size n : Nat} {u : Value} {zs : List Value} (h : w.ownsRow base e size u n zs) (hb : Ext w w') : w'.ownsRow base e size u n zs :=
  World.ownsRow.kept (row := none) h ⟨hb.os, hb.tape, hb.output, hb.size, fun k hk _ => hb.block k hk⟩ (by
    cases hv : u.ownBlock with
    | none => exact .inl rfl
    | some k => exact .inr (by simp))
def shiftS (a b : Int) (x : Smp) : Smp := (wrap64 (x.1 + a), wrap64 (x.2 + b))
theorem shift_diff (x y a : Int) : wrap64 (wrap64 (x + a) - wrap64 (y + a)) = wrap64 (x - y) := by unfold wrap64; omega
theorem shift_go (a b : Int) : ∀ (l : List Smp) (last : Smp) (step : Int), (encGo (shiftS a b last) step (l.map (shiftS a b))).length = (encGo last step l).length
  | [], _, _ => rfl
  | x :: t, last, step => by
    have ih := shift_go a b t x (wrap64 (x.1 - last.1))
    simp only [List.map_cons, encGo, shiftS, shift_diff, List.length_append]
    simp only [shiftS] at ih
    rw [ih]
theorem shift_len (a b : Int) (l : List Smp) : (encB (l.map (shiftS a b))).length = (encB l).length := by
  cases l with
  | nil => rfl
  | cons x t =>
    simp only [List.map_cons, encB, firstB, List.length_append, length_bitsOf, shift_go]
theorem shift_ok (a b : Int) (x : Smp) : SmpOk (shiftS a b x) := ⟨wrap64_lo _, wrap64_hi _, wrap64_lo _, wrap64_hi _⟩
theorem map_take_snoc {α β : Type} (f : α → β) {l : List α} {k : Nat} {x : α} (h : l[k]? = some x) : (l.take k).map f ++ [f x] = (l.take (k + 1)).map f := by
  rw [List.take_add_one, h]; simp
set_option maxRecDepth 100000 in
set_option maxHeartbeats 4000000 in
theorem deltaShifts_any (v : Value) (l : List Smp) (a b : Int) (w : World) (h : Row smpC w v l) (hok : ∀ x ∈ l, SmpOk x) (ha : -9223372036854775808 ≤ a ∧ a ≤ 9223372036854775807) (hb : -9223372036854775808 ≤ b ∧ b ≤ 9223372036854775807) :
    Calls Try.prog 9 #[v, .int .i64 a, .int .i64 b] w fun e w' => e = .returned (.bool true) ∧ Ext w w' := by
  obtain ⟨i1, hi1, hz3, hz4, hz5⟩ := info_parts Try.smpInfo
  have HV := Lib.hid h
  obtain ⟨A, n, c, rfl, hn, hnc, hc, hr⟩ := h
  have hc' : c ≤ 9223372036854775807 := by simpa [maxLen] using hc
  have HN := Lib.hid hn
  have HR := Lib.hid hr
  have HOK := Lib.hid hok
  clear hn hok hc hr
  have HX0 := Lib.hid (Ext.refl w)
  by_cases h60 : (n : Int) ≤ 60
  · go_enter Try.func9, Try.ntmps9
    go_wp2_with fail
    go_loopw [7, 8] (fun o i wr => ∃ k : Nat, k ≤ n ∧ i = .int .i64 (k : Int) ∧ wr.ownsRow w.heap.size 59 2 o ((l.take k).map (shiftS a b)).length (((l.take k).map (shiftS a b)).flatMap smpC) ∧ Ext w wr) (fun _ i _ => n - (intOf i).toNat)
    case atStart => exact ⟨0, by omega, rfl, World.ownsRow_nil _ _ _ _, Ext.refl _⟩
    case round =>
      obtain ⟨k, hk, rfl, hown, hext⟩ := hrel
      have HO := Lib.hid hown
      have HE := Lib.hid hext
      clear hown hext
      by_cases hkn : k < n
      · obtain ⟨ad, rfl⟩ : ∃ ad, A = some ad := row_some HR.out smpC_len (by decide) (by have := HN.out; omega)
        obtain ⟨x, hx⟩ : ∃ q, l[k]? = some q := ⟨_, List.getElem?_eq_getElem (by have := HN.out; omega)⟩
        have HC := Lib.hid (fun (wz : World) (hw : Ext w wz) => smp_cells (HR.out.ext hw) hx)
        obtain ⟨c0, c1⟩ := HC.out wr HE.out
        have HST := Lib.hid (map_take_snoc (shiftS a b) hx)
        obtain ⟨t, v⟩ := x
        dsimp only at c0 c1
        clear hx
        have hkI : (k : Int) < (n : Int) := by omega
        have hk0 : (0 : Int) ≤ (k : Int) := by omega
        have e1 : IntKind.i64.wrap (t + a) = wrap64 (t + a) := IntWalk.i64_left _
        have e2 : IntKind.i64.wrap (v + b) = wrap64 (v + b) := IntWalk.i64_left _
        go_wp2_with fail
        have hx6 : Ext wr (wr.alloc (.cells #[.int .i64 (wrap64 (t + a)), .int .i64 (wrap64 (v + b))] 59)).drew := (Ext.alloc _ _).trans (Ext.drew _)
        go_region_held3 (fun wz => wz.cell? (ad.add (k * 2)) = some (.int .i64 t) ∧ wz.cell? ⟨(ad.add (k * 2)).block, (ad.add (k * 2)).off + 1, none⟩ = some (.int .i64 v)) (first | assumption | exact ⟨c0, c1⟩ | exact HC.out _ (HE.out.trans hx6) | exact HC.out _ hext7) (first
          | (refine step_row smpC_len smpC_one _ rfl (.tmp 19) (.tmp 35) 23 59 rfl i1 (.agg #[.int .i64 0, .int .i64 0]) 16 Try.underlying23 hi1 hz3 hz4 hz5 rfl (by decide) (by decide) w.heap.size _ ((l.take k).map (shiftS a b)) rfl (by exact own_later HO.out hx6) (Nat.le_trans HE.out.size hx6.size) (some ⟨wr.heap.size, 0, none⟩) 1 1 [shiftS a b (t, v)] rfl rfl (by exact (Rd.new wr #[_, _] 59).ext (Ext.drew _)) (by simp only [List.length_singleton, List.length_map, List.length_take]; omega) ?_
             intro v7 w7 hown7 hchg7
             have hext7 := ((Chg.of_ext (HE.out.trans hx6)).trans hchg7).to_ext (Nat.le_refl _)
             clear hchg7))
        go_wp2_with fail
        go_roundw
        case rel => exact ⟨k + 1, by omega, by go_num, by rw [← HST.out]; exact hown7, hext7⟩
        case measure => simp [intOf]; omega
      · obtain rfl : k = n := by omega
        have HO2 := Lib.hid (own_row HO.out)
        have hll : ((l.take k).map (shiftS a b)) = l.map (shiftS a b) := by rw [List.take_of_length_le (by rw [HN.out]; exact Nat.le_refl _)]
        have HLL := Lib.hid hll
        clear hll
        go_wp2_with fail
        refine (dbits_any _ l wr (HV.out.ext HE.out) HOK.out (by have := HN.out; omega)).mono ?_
        rintro e v1 ⟨rfl, hx⟩
        have HX1 := Lib.hid hx
        clear hx
        go_wp2_with fail
        refine (dbits_any _ (l.map (shiftS a b)) v1 (by rw [← HLL.out]; exact HO2.out.ext HX1.out) (by intro x hx; obtain ⟨y, _, rfl⟩ := List.mem_map.1 hx; exact shift_ok _ _ _) (by rw [List.length_map]; have := HN.out; omega)).mono ?_
        rintro e v2 ⟨rfl, hx⟩
        rw [shift_len]
        have HX2 := Lib.hid ((HE.out.trans HX1.out).trans hx)
        clear hx
        go_wp2_with fail
        refine (known_any _).mono ?_
        rintro e v9 ⟨rfl, hx⟩
        go_wp2_with fail
        go_ret
        exact ⟨rfl, HX2.out.trans hx⟩
  · have h61 : (60 : Int) < (n : Int) := by omega
    go_enter Try.func9, Try.ntmps9
    go_wp2_with fail
    refine (known_any _).mono ?_
    rintro e v9 ⟨rfl, hx⟩
    go_wp2_with fail
    go_ret
    exact ⟨rfl, HX0.out.trans hx⟩
end Go.Proofs.Ytpdebandcmhbcaa
