/- The walk of package file's Crash. -/
import Derived.Test.YtdndeggognfcaaaFilN
namespace Go.Proofs.Ytdndeggognfcaaa
open Go.RowKit Go.Lib Fil
set_option linter.unusedVariables false
set_option maxRecDepth 100000

theorem FileAt.oldPtr {w : World} {g : Nat} {L : List Nat} {t : St} (h : FileAt w g L t) : (t.old = none → w.cell? ⟨g, 3, none⟩ = some (.pointer none)) ∧
    (∀ p, t.old = some p → ∃ gq A n c, w.cell? ⟨g, 3, none⟩ = some (.pointer (some ⟨gq, 0, none⟩)) ∧ w.cell? ⟨gq, 0, none⟩ = some (.slice A n c) ∧ w.cell? ⟨gq, 1, none⟩ = some (.int .i64 (p.2 : Int))) := by
  obtain ⟨bv, ov, dv, Lo, Ld, hg, hb, ho, hd, rfl, hne⟩ := h
  have c2 : w.cell? ⟨g, 3, none⟩ = some dv := heap_cell hg 3
  refine ⟨fun e => ?_, fun p e => ?_⟩
  · rw [e] at hd
    rw [c2, hd.1]
  · rw [e] at hd
    obtain ⟨go, ob, rfl, _, hgo, hob⟩ := hd
    obtain ⟨A, n, c, rfl, _⟩ := hob.byt
    exact ⟨go, A, n, c, c2, heap_cell hgo 0, heap_cell hgo 1⟩


set_option maxHeartbeats 1000000 in
theorem crash_any (g : Nat) (L : List Nat) (t : St) (keep other : Int) (renamed : Bool) (w : World) (h : FileAt w g L t) (hok : t.Ok) (hk1 : -9223372036854775808 ≤ keep) (hk2 : keep ≤ 9223372036854775807) (ho1 : -9223372036854775808 ≤ other) (ho2 : other ≤ 9223372036854775807) :
    Calls Try.prog 22 #[.pointer (some ⟨g, 0, none⟩), .int .i64 keep, .int .i64 other, .bool renamed] w fun e w' => e = .returned (.int .i64 (crashR t keep other renamed).1) ∧ Did w w' g L (crashR t keep other renamed).2 := by
  have HF := Lib.hid h
  have HOK := Lib.hid hok
  by_cases hk0 : keep < 0
  · have hr : crashR t keep other renamed = (1, t) := if_pos (.inl hk0)
    rw [hr]
    clear hr h hok
    go_enter Try.func22, Try.ntmps22
    go_wp2_with fail
    go_ret
    exact ⟨rfl, Did.same HF.out⟩
  · by_cases ho0 : other < 0
    · have hr : crashR t keep other renamed = (1, t) := if_pos (.inr ho0)
      rw [hr]
      clear hr h hok
      have hk0' : 0 ≤ keep := by omega
      go_enter Try.func22, Try.ntmps22
      go_wp2_with fail
      go_ret
      exact ⟨rfl, Did.same HF.out⟩
    · have hr : crashR t keep other renamed = (0, syncT ⟨(crash1 (backT t renamed) keep).1, (crash1 (backT t renamed) keep).2, t.other.map fun p => crash1 p other, t.old⟩) := if_neg (by omega)
      rw [hr]
      clear hr
      replace hk0 : 0 ≤ keep := by omega
      replace ho0 : 0 ≤ other := by omega
      have hop := h.oldPtr
      obtain ⟨s, sure, oth, old⟩ := t
      have hf0 : Fine1 (s, sure) := hok.text
      have HFI := Lib.hid hf0
      clear hf0
      cases old with
      | none =>
        have c3 := hop.1 rfl
        clear hop h hok
        go_enter Try.func22, Try.ntmps22
        go_wp2_with fail
        refine (crash_self g L _ keep w HF.out HFI.out hk0 hk2).mono ?_
        rintro e w1 ⟨rfl, hk1, hf1⟩
        have HK1 := Lib.hid ((Kp.refl L w).trans hk1 (Sub.refl _ _))
        cases oth with
        | none =>
          have d2 := hf1.otherPtr.1 rfl
          have HF1 := Lib.hid hf1
          clear hk1 hf1
          go_wp2_with fail
          refine (sync_any g L _ w1 HF1.out).mono ?_
          rintro e w3 ⟨rfl, hk3, L3, hf3, hs3⟩
          go_wp2_with fail
          go_ret
          exact ⟨rfl, HK1.out.trans hk3 (Sub.refl _ _), L3, hf3, (Sub.refl w L).trans hs3 HK1.out.size⟩
        | some pp =>
          obtain ⟨go, d2⟩ := hf1.otherPtr.2 pp rfl
          have HF1 := Lib.hid hf1
          clear hk1 hf1
          go_wp2_with fail
          refine (crash_other g go L _ pp other w1 HF1.out rfl d2 (HOK.out.other pp rfl) ho0 ho2).mono ?_
          rintro e w2 ⟨rfl, hk2', hf2⟩
          have HK2 := Lib.hid (HK1.out.trans hk2' (Sub.refl _ _))
          have HF2 := Lib.hid hf2
          clear hk2' hf2 d2
          go_wp2_with fail
          refine (sync_any g L _ w2 HF2.out).mono ?_
          rintro e w3 ⟨rfl, hk3, L3, hf3, hs3⟩
          go_wp2_with fail
          go_ret
          exact ⟨rfl, HK2.out.trans hk3 (Sub.refl _ _), L3, hf3, (Sub.refl w L).trans hs3 HK2.out.size⟩
      | some q =>
        obtain ⟨gq, A, n, c, c3, c4, c5⟩ := hop.2 q rfl
        clear hop h hok
        cases renamed with
        | true =>
          go_enter Try.func22, Try.ntmps22
          go_wp2_with fail
          refine (crash_self g L _ keep w HF.out HFI.out hk0 hk2).mono ?_
          rintro e w1 ⟨rfl, hk1, hf1⟩
          have HK1 := Lib.hid ((Kp.refl L w).trans hk1 (Sub.refl _ _))
          cases oth with
          | none =>
            have d2 := hf1.otherPtr.1 rfl
            have HF1 := Lib.hid hf1
            clear hk1 hf1
            go_wp2_with fail
            refine (sync_any g L _ w1 HF1.out).mono ?_
            rintro e w3 ⟨rfl, hk3, L3, hf3, hs3⟩
            go_wp2_with fail
            go_ret
            exact ⟨rfl, HK1.out.trans hk3 (Sub.refl _ _), L3, hf3, (Sub.refl w L).trans hs3 HK1.out.size⟩
          | some pp =>
            obtain ⟨go, d2⟩ := hf1.otherPtr.2 pp rfl
            have HF1 := Lib.hid hf1
            clear hk1 hf1
            go_wp2_with fail
            refine (crash_other g go L _ pp other w1 HF1.out rfl d2 (HOK.out.other pp rfl) ho0 ho2).mono ?_
            rintro e w2 ⟨rfl, hk2', hf2⟩
            have HK2 := Lib.hid (HK1.out.trans hk2' (Sub.refl _ _))
            have HF2 := Lib.hid hf2
            clear hk2' hf2 d2
            go_wp2_with fail
            refine (sync_any g L _ w2 HF2.out).mono ?_
            rintro e w3 ⟨rfl, hk3, L3, hf3, hs3⟩
            go_wp2_with fail
            go_ret
            exact ⟨rfl, HK2.out.trans hk3 (Sub.refl _ _), L3, hf3, (Sub.refl w L).trans hs3 HK2.out.size⟩
        | false =>
          have hbo := back_old HF.out rfl c3 c4
          have HBO := Lib.hid hbo
          have hlt := World.block_lt_of_cell? w _ c3
          clear hbo
          obtain ⟨bv, ov, dv, Lo, Ld, hg, _, _, hd, hL, hne⟩ := HF.out
          have c0 : w.cell? ⟨g, 0, none⟩ = some bv := heap_cell hg 0
          have c1 : w.cell? ⟨g, 1, none⟩ = some (.int .i64 (sure : Int)) := heap_cell hg 1
          have f0 := heap_frozen hg 0
          have f1 := heap_frozen hg 1
          have HFO := Lib.hid (HOK.out.old q rfl)
          clear hg hd hL hne
          go_enter Try.func22, Try.ntmps22
          go_wp2_with fail
          refine (crash_self g L _ keep _ HBO.out.2 HFO.out hk0 hk2).mono ?_
          rintro e w1 ⟨rfl, hk1, hf1⟩
          have HK1 := Lib.hid ((HBO.out.1).trans hk1 (Sub.refl _ _))
          cases oth with
          | none =>
            have d2 := hf1.otherPtr.1 rfl
            have HF1 := Lib.hid hf1
            clear hk1 hf1
            go_wp2_with fail
            refine (sync_any g L _ w1 HF1.out).mono ?_
            rintro e w3 ⟨rfl, hk3, L3, hf3, hs3⟩
            go_wp2_with fail
            go_ret
            exact ⟨rfl, HK1.out.trans hk3 (Sub.refl _ _), L3, hf3, (Sub.refl w L).trans hs3 HK1.out.size⟩
          | some pp =>
            obtain ⟨go, d2⟩ := hf1.otherPtr.2 pp rfl
            have HF1 := Lib.hid hf1
            clear hk1 hf1
            go_wp2_with fail
            refine (crash_other g go L _ pp other w1 HF1.out rfl d2 (HOK.out.other pp rfl) ho0 ho2).mono ?_
            rintro e w2 ⟨rfl, hk2', hf2⟩
            have HK2 := Lib.hid (HK1.out.trans hk2' (Sub.refl _ _))
            have HF2 := Lib.hid hf2
            clear hk2' hf2 d2
            go_wp2_with fail
            refine (sync_any g L _ w2 HF2.out).mono ?_
            rintro e w3 ⟨rfl, hk3, L3, hf3, hs3⟩
            go_wp2_with fail
            go_ret
            exact ⟨rfl, HK2.out.trans hk3 (Sub.refl _ _), L3, hf3, (Sub.refl w L).trans hs3 HK2.out.size⟩
end Go.Proofs.Ytdndeggognfcaaa
