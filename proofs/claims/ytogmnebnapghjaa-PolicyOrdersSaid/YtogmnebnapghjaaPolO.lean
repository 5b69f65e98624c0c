/- The walk of PolicyNames. -/
import Derived.Test.YtogmnebnapghjaaPolM
namespace Go.Proofs.Ytogmnebnapghjaa
open Go.RowKit
set_option linter.unusedVariables false

theorem name_letters (K : Nat) (h1 : 1 ≤ K) (h2 : K ≤ 6) : (nameL K).size ≤ 5 ∧ (∀ k (h : k < (nameL K).size), 65 ≤ (nameL K)[k].toNat ∧ (nameL K)[k].toNat ≤ 90) := by
  rcases (by omega : K = 1 ∨ K = 2 ∨ K = 3 ∨ K = 4 ∨ K = 5 ∨ K = 6) with rfl | rfl | rfl | rfl | rfl | rfl <;> decide +kernel
theorem name_apart (j K : Nat) (h1 : 1 ≤ j) (h2 : j < K) (h3 : K ≤ 6) : nameL K ≠ nameL j := by
  rcases (by omega : j = 1 ∨ j = 2 ∨ j = 3 ∨ j = 4 ∨ j = 5) with rfl | rfl | rfl | rfl | rfl <;>
  rcases (by omega : K = 2 ∨ K = 3 ∨ K = 4 ∨ K = 5 ∨ K = 6) with rfl | rfl | rfl | rfl | rfl <;> first | omega | decide +kernel
theorem upB_back {c d : UInt8} (h1 : 65 ≤ c.toNat) (h2 : c.toNat ≤ 90) (h : d.toNat = c.toNat + 32) : upB d = c := by
  apply UInt8.toNat_inj.1
  have := upB_yes (c := d) (by omega) (by omega)
  omega
theorem upB_same {c : UInt8} (h2 : c.toNat ≤ 90) : upB c = c := upB_no (by omega)


set_option maxRecDepth 100000 in
set_option maxHeartbeats 2000000 in
theorem policyNames_any (p cs : Int) (hp0 : 0 ≤ p) (hp1 : p ≤ 255) (hc0 : 0 ≤ cs) (hc1 : cs ≤ 255) (s : ByteArray) (w : World) :
    Calls Try.prog 7 #[.int .u8 p, .int .u8 cs, .string s] w fun e w' => e = .returned (.bool true) ∧ Ext w w' := by
  have E := Ext.refl w
  by_cases hs : s.size ≤ 100
  · obtain ⟨K, hK, hK1, hK6⟩ : ∃ K : Nat, (K : Int) = 1 + p % 6 ∧ 1 ≤ K ∧ K ≤ 6 := ⟨(1 + p % 6).toNat, by omega, by omega, by omega⟩
    obtain ⟨n5, nl⟩ := name_letters K hK1 hK6
    have NL := Lib.hid nl
    have HK := Lib.hid hK
    clear nl hK
    go_enter Try.func7, Try.ntmps7
    go_wp2_with fail
    rw [← HK.out]
    refine (pName_yes K hK1 hK6 _).mono ?_
    rintro e w1 ⟨rfl, e1⟩
    replace E := E.trans e1
    go_wp2_with fail
    go_loopw [8, 10] (fun o i wr => ∃ (k : Nat) (out : List UInt8), k ≤ (nameL K).size ∧ i = .int .i64 k ∧ OwnB w wr o out ∧ Ext w wr ∧ Hid (out.length = k ∧ out.map upB = (nameL K).toList.take k)) (fun _ i _ => (nameL K).size - (intOf i).toNat)
    case atStart => exact ⟨0, [], by omega, rfl, OwnB.nil _ _, E, ⟨rfl, rfl⟩⟩
    case round =>
      obtain ⟨k, out, hk, rfl, hown, hext, HH⟩ := hrel
      by_cases hlt : k < (nameL K).size
      · obtain ⟨g1, g2⟩ := NL.out k hlt
        obtain ⟨_, -, hst⟩ := byt_at (nameL K) k hlt
        have HST := Lib.hid hst
        clear hst
        have hk5 : k < 5 := by omega
        cases ht : ((cs / 2 ^ k).tmod 2 == 1) with
        | true =>
          obtain ⟨d, hd⟩ : ∃ d : UInt8, ((d.toNat : Int)) = ((nameL K)[k].toNat : Int) + 32 := ⟨UInt8.ofNat ((nameL K)[k].toNat + 32), by
            rw [UInt8.toNat_ofNat_of_lt' (by show _ < 256; omega)]; omega⟩
          have hu := upB_back g1 g2 (show d.toNat = (nameL K)[k].toNat + 32 by omega)
          have hcell : Value.int .u8 (((nameL K)[k].toNat : Int) + 32) = byteV d := by rw [byteV, hd]
          have HC := Lib.hid hcell
          have HU := Lib.hid hu
          clear hcell hu hd
          go_wp2_with (first
            | (at_builtin
               refine app_bytes _ rfl (.tmp 43) (.tmp 45) rfl w _ out rfl (by exact OwnB.alloc hown _) (some ⟨wr.heap.size, 0, none⟩) 1 1 [d] rfl rfl (by rw [List.map_singleton, ← HC.out]; exact Rd.new wr #[_] 5) (by rw [HH.out.1]; simp; omega) (by exact Ext.alloc_ hext _) ?_
               intro v1 w1 hown1 hext1
               clear hown hext))
          go_roundw
          case rel => exact ⟨k + 1, out ++ [d], by omega, by go_num, hown1, hext1, by simp [HH.out.1], by rw [HST.out, List.map_append, HH.out.2, List.map_singleton, HU.out]⟩
          case measure => simp [intOf]; omega
        | false =>
          have hcell : Value.int .u8 ((nameL K)[k].toNat : Int) = byteV (nameL K)[k] := rfl
          have HC := Lib.hid hcell
          have HU := Lib.hid (upB_same g2)
          clear hcell
          go_wp2_with (first
            | (at_builtin
               refine app_bytes _ rfl (.tmp 43) (.tmp 45) rfl w _ out rfl (by exact OwnB.alloc hown _) (some ⟨wr.heap.size, 0, none⟩) 1 1 [(nameL K)[k]] rfl rfl (by exact Rd.new wr #[_] 5) (by rw [HH.out.1]; simp; omega) (by exact Ext.alloc_ hext _) ?_
               intro v1 w1 hown1 hext1
               clear hown hext))
          go_roundw
          case rel => exact ⟨k + 1, out ++ [(nameL K)[k]], by omega, by go_num, hown1, hext1, by simp [HH.out.1], by rw [HST.out, List.map_append, HH.out.2, List.map_singleton, HU.out]⟩
          case measure => simp [intOf]; omega
      · obtain rfl : k = (nameL K).size := by omega
        obtain ⟨A, n, c, rfl, hn, -, -, hr⟩ := hown.byt
        have hback := back (c := c) hn hr
        have hup : upS ⟨out.toArray⟩ = nameL K := by
          refine bytes_ext ?_
          rw [upS_list, toList_mk, HH.out.2, List.take_of_length_le (by rw [size_list]; omega)]
        have hsz : (⟨out.toArray⟩ : ByteArray).size ≤ 9223372036854775807 := by
          rw [← size_upS, hup]; omega
        have HUP := Lib.hid hup
        have HKK := Lib.hid (fun j (h1 : 1 ≤ j) (h2 : j < K) => show upS ⟨out.toArray⟩ ≠ nameL j by rw [hup]; exact name_apart j K h1 h2 hK6)
        have HSZ := Lib.hid hsz
        clear hup hsz hn hr
        obtain ⟨k', hk'⟩ : ∃ k', parseN s = k' := ⟨_, rfl⟩
        have hk6 : k' ≤ 6 := by rw [← hk']; exact parseN_le s
        have q1 : ((K : Int) == (K : Int)) = true := by simp
        replace E := hext
        by_cases h0 : k' = 0
        · subst h0
          have HP := Lib.hid (parseN_no hk')
          clear hk'
          go_wp2_with fail
          refine (pParse_yes ⟨out.toArray⟩ K hK1 hK6 HUP.out HKK.out _ HSZ.out).mono ?_
          rintro e w2 ⟨rfl, e2⟩
          replace E := E.trans e2
          go_wp2_with fail
          refine (pParse_no s HP.out _ (by omega)).mono ?_
          rintro e w3 ⟨rfl, e3⟩
          replace E := E.trans e3
          go_wp2_with fail
          refine (known_any _).mono ?_
          rintro e wk ⟨rfl, ek⟩
          go_wp2_with fail
          go_ret
          exact ⟨rfl, E.trans ek⟩
        · have h1 : 1 ≤ k' := by omega
          have hy := parseN_yes hk' h1
          have hsz' : s.size = (nameL k').size := by rw [← hy.1, size_upS]
          have q2 : ((s.size : Int) == ((nameL k').size : Int)) = true := by rw [hsz']; simp
          have q3 : ((upS s).toList == (nameL k').toList) = true := by rw [hy.1]; simp
          have HY := Lib.hid hy
          have hnk := nameL_size k'
          clear hk' h0 hy hsz'
          go_wp2_with fail
          refine (pParse_yes ⟨out.toArray⟩ K hK1 hK6 HUP.out HKK.out _ HSZ.out).mono ?_
          rintro e w2 ⟨rfl, e2⟩
          replace E := E.trans e2
          go_wp2_with fail
          refine (pParse_yes s k' h1 hk6 HY.out.1 HY.out.2 _ (by omega)).mono ?_
          rintro e w3 ⟨rfl, e3⟩
          replace E := E.trans e3
          go_wp2_with fail
          refine (right_yes _ _ (by omega) (by omega)).mono ?_
          rintro e w4 ⟨rfl, rfl⟩
          go_wp2_with fail
          refine (pName_yes k' h1 hk6 _).mono ?_
          rintro e w5 ⟨rfl, e5⟩
          replace E := E.trans e5
          go_wp2_with fail
          refine (rUpper_any s _ (by omega)).mono ?_
          rintro e w6 ⟨rfl, e6⟩
          replace E := E.trans e6
          go_wp2_with fail
          refine (pName_yes k' h1 hk6 _).mono ?_
          rintro e w7 ⟨rfl, e7⟩
          replace E := E.trans e7
          go_wp2_with fail
          refine (known_any _).mono ?_
          rintro e wk ⟨rfl, ek⟩
          go_wp2_with fail
          go_ret
          exact ⟨rfl, E.trans ek⟩
  · go_enter Try.func7, Try.ntmps7
    go_wp2_with fail
    refine (known_any _).mono ?_
    rintro e wk ⟨rfl, ek⟩
    go_wp2_with fail
    go_ret
    exact ⟨rfl, E.trans ek⟩

end Go.Proofs.Ytogmnebnapghjaa
