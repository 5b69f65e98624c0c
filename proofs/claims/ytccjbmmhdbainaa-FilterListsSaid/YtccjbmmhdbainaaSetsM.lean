/- The walk of sets.merge: two rising lists gone over at once. -/
import Derived.Test.YtccjbmmhdbainaaSetsW
namespace Go.Proofs.Ytccjbmmhdbainaa
open Go.RowKit Sets
set_option maxRecDepth 100000

def sumLen (s0 s1 : Value) : Nat := (match s0 with | .slice _ n _ => n | _ => 0) + (match s1 with | .slice _ n _ => n | _ => 0)
theorem sumLen_mk (A : Option Addr) (n c : Nat) (B : Option Addr) (m d : Nat) : sumLen (.slice A n c) (.slice B m d) = n + m := rfl

/-- What holds at the loop's head, of the lists that are left and what was put out. -/
def Mid (w : World) (k : Bool → Bool → Bool) (as0 bs0 : List ByteArray) (A : Option Addr) (n : Nat) (la : List ByteArray) (B : Option Addr) (m : Nat) (lb : List ByteArray) (out : List ByteArray) : Prop :=
  la.length = n ∧ lb.length = m ∧ Rd w A (la.map .string) ∧ Rd w B (lb.map .string) ∧ out ++ mergeL k la lb = mergeL k as0 bs0

def Head (w : World) (k : Bool → Bool → Bool) (as0 bs0 : List ByteArray) (s0 s1 s7 : Value) (wr : World) : Prop :=
  ∃ A n c la B m d lb out, s0 = .slice A n c ∧ s1 = .slice B m d ∧ n ≤ c ∧ c ≤ 9223372036854775807 ∧ m ≤ d ∧ d ≤ 9223372036854775807 ∧ n + m + out.length ≤ 4294967296 ∧
    Mid w k as0 bs0 A n la B m lb out ∧ wr.ownsRow w.heap.size 9 1 s7 out.length (out.map .string) ∧ Below w.heap.size w wr

theorem Head.mk {w : World} {k : Bool → Bool → Bool} {as0 bs0 : List ByteArray} {s7 : Value} {wr : World} {A : Option Addr} {n c : Nat} {la : List ByteArray} {B : Option Addr} {m d : Nat} {lb out : List ByteArray}
    (h1 : n ≤ c) (h2 : c ≤ 9223372036854775807) (h3 : m ≤ d) (h4 : d ≤ 9223372036854775807) (h5 : n + m + out.length ≤ 4294967296) (h6 : Mid w k as0 bs0 A n la B m lb out)
    (h7 : wr.ownsRow w.heap.size 9 1 s7 out.length (out.map .string)) (h8 : Below w.heap.size w wr) : Head w k as0 bs0 (.slice A n c) (.slice B m d) s7 wr :=
  ⟨A, n, c, la, B, m, d, lb, out, rfl, rfl, h1, h2, h3, h4, h5, h6, h7, h8⟩

theorem cons_of_pos {l : List ByteArray} {n : Nat} (h : l.length = n) (hn : 0 < n) : ∃ b t, l = b :: t := List.exists_cons_of_length_pos (by omega)

theorem head_cell {w : World} {ad : Addr} {b : ByteArray} {l : List ByteArray} (h : Rd w (some ad) ((b :: l).map .string)) : w.cell? ad = some (.string b) ∧ w.cell? (ad.add 0) = some (.string b) := by
  obtain ⟨ad', e, hc⟩ := h.some_ (by simp)
  cases e
  have := hc 0 _ rfl
  exact ⟨by simpa [Addr.add] using this, by simpa using this⟩

theorem app_below {w w0 w' : World} {base e size n : Nat} {v v' : Value} {n0 : Nat} {xs0 xs : List Value} (ho : w.ownsRow base e size v n0 xs0) (h : Appended w w' base e size v v' n xs) (hb : Below base w0 w) (hB : base ≤ w.heap.size) : Below base w0 w' :=
  h.below hb hB fun k hk => (ho.lt k hk).1

theorem own_snoc {w : World} {base e : Nat} {v : Value} {out : List ByteArray} {b : ByteArray} (h : w.ownsRow base e 1 v (out.length + 1) (out.map Value.string ++ [.string b])) :
    w.ownsRow base e 1 v (out ++ [b]).length ((out ++ [b]).map .string) := by simpa using h

theorem txt_own {w : World} {base e : Nat} {v : Value} {out : List ByteArray} (h : w.ownsRow base e 1 v out.length (out.map .string)) : Txt w v out := by
  rcases h.2 with ⟨hv, h0⟩ | ⟨g, cap, cur, hv, _, _, hnc, hcm, _⟩
  · subst hv
    have : out = [] := List.eq_nil_of_length_eq_zero h0
    subst this
    exact ⟨none, 0, 0, rfl, rfl, by omega, by omega, Rd.nil _ _⟩
  · subst hv
    exact ⟨some ⟨g, 0, none⟩, out.length, cap, rfl, rfl, hnc, by simpa [maxLen] using hcm, Rd.own h⟩

theorem merge_nil (k : Bool → Bool → Bool) : mergeL k [] [] = [] := by simp [mergeL]


set_option maxHeartbeats 4000000 in
theorem merge_any (k : Bool → Bool → Bool) (kf : FuncId) (hcf : ∀ (a : Array Value) (w : World), (callFunc kf a).run Try.prog w = .ok (.enter kf a) w) (hkf : ∀ x y w, Calls Try.prog kf #[.bool x, .bool y] w fun e w' => e = .returned (.bool (k x y)) ∧ w = w')
    (A0 : Option Addr) (n0 c0 : Nat) (as0 : List ByteArray) (B0 : Option Addr) (m0 d0 : Nat) (bs0 : List ByteArray) (w : World)
    (hn : as0.length = n0) (hc : n0 ≤ c0) (hcm : c0 ≤ 9223372036854775807) (hr : Rd w A0 (as0.map .string))
    (hm : bs0.length = m0) (hd : m0 ≤ d0) (hdm : d0 ≤ 9223372036854775807) (hs : Rd w B0 (bs0.map .string)) (hsum : n0 + m0 ≤ 4294967296) :
    Calls Try.prog 58 #[.slice A0 n0 c0, .slice B0 m0 d0, .func (.func kf) #[] #[]] w fun e w' => ∃ v, e = .returned v ∧ Txt w' v (mergeL k as0 bs0) ∧ Ext w w' := by
  obtain ⟨i0, hi0, hz0, hz1, hz2⟩ := info_parts Try.strInfo
  have HK := Lib.hid hkf
  have HR := Lib.hid (And.intro hr hs)
  have HN := Lib.hid (And.intro hn hm)
  clear hkf hr hs hn hm
  go_enter Try.func58, Try.ntmps58
  go_wp2
  go_loopw [0, 1, 7] (fun s0 s1 s7 wr => Head w k as0 bs0 s0 s1 s7 wr) (fun s0 s1 _ _ => sumLen s0 s1)
  case atStart => exact Head.mk (la := as0) (lb := bs0) (out := []) hc hcm hd hdm (by simpa using hsum) ⟨HN.out.1, HN.out.2, HR.out.1, HR.out.2, rfl⟩ (World.ownsRow_nil _ _ _ _) (Below.refl _ _)
  case round =>
    obtain ⟨A, n, c, la, B, m, d, lb, out, rfl, rfl, h1, h2, h3, h4, h5, hmid, hown, hbel⟩ := hrel
    have H := Lib.hid hmid
    clear hmid
    by_cases hn0 : 0 < n
    · obtain ⟨a, la', rfl⟩ := cons_of_pos H.out.1 hn0
      obtain ⟨ad, rfl, _⟩ := (H.out.2.2.1).some_ (by simp)
      have hca := head_cell (H.out.2.2.1.below hbel (Nat.le_refl _))
      obtain ⟨ha0, ha1⟩ := hca
      obtain ⟨A', HA', hslA⟩ := cut_from (P := Try.prog) 22 9 i0 1 Try.underlying22 hi0 hz1 H.out.2.2.1 (by rw [List.length_map, H.out.1]; omega) h1 1 1 rfl hn0
      have HA := Lib.hid HA'
      clear HA'
      have hn1 : 1 ≤ n := hn0
      by_cases hm0 : 0 < m
      · obtain ⟨b, lb', rfl⟩ := cons_of_pos H.out.2.1 hm0
        obtain ⟨bd, rfl, _⟩ := (H.out.2.2.2.1).some_ (by simp)
        have hcb := head_cell (H.out.2.2.2.1.below hbel (Nat.le_refl _))
        obtain ⟨hb0, hb1⟩ := hcb
        obtain ⟨B', HB', hslB⟩ := cut_from (P := Try.prog) 22 9 i0 1 Try.underlying22 hi0 hz1 H.out.2.2.2.1 (by rw [List.length_map, H.out.2.1]; omega) h3 1 1 rfl hm0
        have HB := Lib.hid HB'
        clear HB'
        have hm1 : 1 ≤ m := hm0
        have he0 : ((m : Int) == 0) = false := by rw [beq_eq_false_iff_ne]; omega
        have he1 : ((n : Int) == 0) = false := by rw [beq_eq_false_iff_ne]; omega
        by_cases h6 : ltB a b = true
        · have h7 : (Op.bytesLess a.toList b.toList || a.toList == b.toList) = true := by
            have : Op.bytesLess a.toList b.toList = true := h6
            simp [this]
          have h8 : (Op.bytesLess b.toList a.toList || b.toList == a.toList) = false := by
            have h9 : Op.bytesLess b.toList a.toList = false := lt_asymm h6
            have h10 : (b.toList == a.toList) = false := by
              rw [beq_eq_false_iff_ne]
              exact fun h => lt_ne h6 (text_ext h.symm)
            rw [h9, h10]; rfl
          have H6 := Lib.hid h6
          clear h6
          go_wp2_with fail
          go_quiet (fail)
          go_wp2_with fail
          go_quiet (fail)
          go_wp2_with fail
          go_quiet (fail)
          go_wp2_with fail
          refine (HK.out _ _ _).mono ?_
          rintro e w' ⟨rfl, rfl⟩
          cases hk : k true false
          · have HK2 := Lib.hid hk
            clear hk
            go_wp2_with fail
            go_roundw
            case rel =>
              refine Head.mk (la := la') (lb := (b :: lb')) (out := out) (by omega) (by omega) (by omega) (by omega) (by omega) ⟨by have := H.out.1; simp at this; omega, H.out.2.1, HA.out, H.out.2.2.2.1, ?_⟩ hown (below_drewN hbel _)
              rw [← H.out.2.2.2.2, (show mergeL k (a :: la') (b :: lb') = _ from by rw [mergeL, if_pos H6.out]), HK2.out]
              simp
            case measure => simp only [sumLen_mk]; omega
          · have HK2 := Lib.hid hk
            clear hk
            go_wp2_with (first
              | (at_builtin
                 refine wpList_append_rd _ rfl (.tmp 67) (.tmp 69) 22 rfl w.heap.size 9 i0 (.string ByteArray.empty) 1 16 Try.underlying22 hi0 hz0 hz1 hz2 rfl (by decide) _ _ _ rfl (World.ownsRow.alloc (w := World.drewN _ _) hown _) (some ⟨wr.heap.size, 0, none⟩) 1 1 [.string a] rfl rfl (Rd.new (World.drewN wr _) #[.string a] 9) (by simp [Value.oneCell']) (by simp only [maxLen]; omega) (by omega) (by have := hbel.size; simp; omega) ?_
                 intro v1 w1 happ
                 have hbel1 := app_below (World.ownsRow.alloc (w := World.drewN _ _) hown _) happ ((below_drewN hbel _).alloc (by have := hbel.size; simpa using this) _) (by have := hbel.size; simp; omega)
                 have hown1 := own_snoc happ.own
                 clear happ hown hbel))
            go_roundw
            case rel =>
              refine Head.mk (la := la') (lb := (b :: lb')) (out := out ++ [a]) (by omega) (by omega) (by omega) (by omega) (by simp; omega) ⟨by have := H.out.1; simp at this; omega, H.out.2.1, HA.out, H.out.2.2.2.1, ?_⟩ hown1 hbel1
              rw [← H.out.2.2.2.2, (show mergeL k (a :: la') (b :: lb') = _ from by rw [mergeL, if_pos H6.out]), HK2.out]
              simp
            case measure => simp only [sumLen_mk]; omega
        · by_cases h6' : ltB b a = true
          · have h7 : (Op.bytesLess b.toList a.toList || b.toList == a.toList) = true := by
              have : Op.bytesLess b.toList a.toList = true := h6'
              simp [this]
            have h8 : (Op.bytesLess a.toList b.toList || a.toList == b.toList) = false := by
              have h9 : Op.bytesLess a.toList b.toList = false := lt_asymm h6'
              have h10 : (a.toList == b.toList) = false := by
                rw [beq_eq_false_iff_ne]
                exact fun h => lt_ne h6' (text_ext h.symm)
              rw [h9, h10]; rfl
            have H6 := Lib.hid h6
            have H6' := Lib.hid h6'
            clear h6 h6'
            go_wp2_with fail
            go_quiet (fail)
            go_wp2_with fail
            go_quiet (fail)
            go_wp2_with fail
            go_quiet (fail)
            go_wp2_with fail
            refine (HK.out _ _ _).mono ?_
            rintro e w' ⟨rfl, rfl⟩
            cases hk : k false true
            · have HK2 := Lib.hid hk
              clear hk
              go_wp2_with fail
              go_roundw
              case rel =>
                refine Head.mk (la := (a :: la')) (lb := lb') (out := out) (by omega) (by omega) (by omega) (by omega) (by omega) ⟨H.out.1, by have := H.out.2.1; simp at this; omega, H.out.2.2.1, HB.out, ?_⟩ hown (below_drewN hbel _)
                rw [← H.out.2.2.2.2, (show mergeL k (a :: la') (b :: lb') = _ from by rw [mergeL, if_neg H6.out, if_pos H6'.out]), HK2.out]
                simp
              case measure => simp only [sumLen_mk]; omega
            · have HK2 := Lib.hid hk
              clear hk
              go_wp2_with (first
                | (at_builtin
                   refine wpList_append_rd _ rfl (.tmp 67) (.tmp 69) 22 rfl w.heap.size 9 i0 (.string ByteArray.empty) 1 16 Try.underlying22 hi0 hz0 hz1 hz2 rfl (by decide) _ _ _ rfl (World.ownsRow.alloc (w := World.drewN _ _) hown _) (some ⟨wr.heap.size, 0, none⟩) 1 1 [.string b] rfl rfl (Rd.new (World.drewN wr _) #[.string b] 9) (by simp [Value.oneCell']) (by simp only [maxLen]; omega) (by omega) (by have := hbel.size; simp; omega) ?_
                   intro v1 w1 happ
                   have hbel1 := app_below (World.ownsRow.alloc (w := World.drewN _ _) hown _) happ ((below_drewN hbel _).alloc (by have := hbel.size; simpa using this) _) (by have := hbel.size; simp; omega)
                   have hown1 := own_snoc happ.own
                   clear happ hown hbel))
              go_roundw
              case rel =>
                refine Head.mk (la := (a :: la')) (lb := lb') (out := out ++ [b]) (by omega) (by omega) (by omega) (by omega) (by simp; omega) ⟨H.out.1, by have := H.out.2.1; simp at this; omega, H.out.2.2.1, HB.out, ?_⟩ hown1 hbel1
                rw [← H.out.2.2.2.2, (show mergeL k (a :: la') (b :: lb') = _ from by rw [mergeL, if_neg H6.out, if_pos H6'.out]), HK2.out]
                simp
              case measure => simp only [sumLen_mk]; omega
          · have hab : a = b := lt_tri (by simpa using h6) (by simpa using h6')
            subst hab
            have h7 : (Op.bytesLess a.toList a.toList || a.toList == a.toList) = true := by simp
            have H6 := Lib.hid h6
            clear h6 h6'
            go_wp2_with fail
            go_quiet (fail)
            go_wp2_with fail
            go_quiet (fail)
            go_wp2_with fail
            go_quiet (fail)
            go_wp2_with fail
            go_quiet (fail)
            go_wp2_with fail
            refine (HK.out _ _ _).mono ?_
            rintro e w' ⟨rfl, rfl⟩
            cases hk : k true true
            · have HK2 := Lib.hid hk
              clear hk
              go_wp2_with fail
              go_roundw
              case rel =>
                refine Head.mk (la := la') (lb := lb') (out := out) (by omega) (by omega) (by omega) (by omega) (by omega) ⟨by have := H.out.1; simp at this; omega, by have := H.out.2.1; simp at this; omega, HA.out, HB.out, ?_⟩ hown (below_drewN hbel _)
                rw [← H.out.2.2.2.2, (show mergeL k (a :: la') (a :: lb') = _ from by rw [mergeL, if_neg H6.out, if_neg H6.out]), HK2.out]
                simp
              case measure => simp only [sumLen_mk]; omega
            · have HK2 := Lib.hid hk
              clear hk
              go_wp2_with (first
                | (at_builtin
                   refine wpList_append_rd _ rfl (.tmp 67) (.tmp 69) 22 rfl w.heap.size 9 i0 (.string ByteArray.empty) 1 16 Try.underlying22 hi0 hz0 hz1 hz2 rfl (by decide) _ _ _ rfl (World.ownsRow.alloc (w := World.drewN _ _) hown _) (some ⟨wr.heap.size, 0, none⟩) 1 1 [.string a] rfl rfl (Rd.new (World.drewN wr _) #[.string a] 9) (by simp [Value.oneCell']) (by simp only [maxLen]; omega) (by omega) (by have := hbel.size; simp; omega) ?_
                   intro v1 w1 happ
                   have hbel1 := app_below (World.ownsRow.alloc (w := World.drewN _ _) hown _) happ ((below_drewN hbel _).alloc (by have := hbel.size; simpa using this) _) (by have := hbel.size; simp; omega)
                   have hown1 := own_snoc happ.own
                   clear happ hown hbel))
              go_roundw
              case rel =>
                refine Head.mk (la := la') (lb := lb') (out := out ++ [a]) (by omega) (by omega) (by omega) (by omega) (by simp; omega) ⟨by have := H.out.1; simp at this; omega, by have := H.out.2.1; simp at this; omega, HA.out, HB.out, ?_⟩ hown1 hbel1
                rw [← H.out.2.2.2.2, (show mergeL k (a :: la') (a :: lb') = _ from by rw [mergeL, if_neg H6.out, if_neg H6.out]), HK2.out]
                simp
              case measure => simp only [sumLen_mk]; omega
      · obtain rfl : m = 0 := by omega
        obtain rfl : lb = [] := List.eq_nil_of_length_eq_zero H.out.2.1
        go_wp2_with fail
        go_quiet (fail)
        go_wp2_with fail
        go_quiet (fail)
        go_wp2_with fail
        go_quiet (fail)
        go_wp2_with fail
        refine (HK.out _ _ _).mono ?_
        rintro e w' ⟨rfl, rfl⟩
        cases hk : k true false
        · have HK2 := Lib.hid hk
          clear hk
          go_wp2_with fail
          go_roundw
          case rel =>
            refine Head.mk (la := la') (lb := []) (out := out) (by omega) (by omega) (by omega) (by omega) (by omega) ⟨by have := H.out.1; simp at this; omega, rfl, HA.out, Rd.nil _ _, ?_⟩ hown (below_drewN hbel _)
            rw [← H.out.2.2.2.2, (show mergeL k (a :: la') [] = _ from by rw [mergeL]), HK2.out]
            simp
          case measure => simp only [sumLen_mk]; omega
        · have HK2 := Lib.hid hk
          clear hk
          go_wp2_with (first
            | (at_builtin
               refine wpList_append_rd _ rfl (.tmp 67) (.tmp 69) 22 rfl w.heap.size 9 i0 (.string ByteArray.empty) 1 16 Try.underlying22 hi0 hz0 hz1 hz2 rfl (by decide) _ _ _ rfl (World.ownsRow.alloc (w := World.drewN _ _) hown _) (some ⟨wr.heap.size, 0, none⟩) 1 1 [.string a] rfl rfl (Rd.new (World.drewN wr _) #[.string a] 9) (by simp [Value.oneCell']) (by simp only [maxLen]; omega) (by omega) (by have := hbel.size; simp; omega) ?_
               intro v1 w1 happ
               have hbel1 := app_below (World.ownsRow.alloc (w := World.drewN _ _) hown _) happ ((below_drewN hbel _).alloc (by have := hbel.size; simpa using this) _) (by have := hbel.size; simp; omega)
               have hown1 := own_snoc happ.own
               clear happ hown hbel))
          go_roundw
          case rel =>
            refine Head.mk (la := la') (lb := []) (out := out ++ [a]) (by omega) (by omega) (by omega) (by omega) (by simp; omega) ⟨by have := H.out.1; simp at this; omega, rfl, HA.out, Rd.nil _ _, ?_⟩ hown1 hbel1
            rw [← H.out.2.2.2.2, (show mergeL k (a :: la') [] = _ from by rw [mergeL]), HK2.out]
            simp
          case measure => simp only [sumLen_mk]; omega
    · obtain rfl : n = 0 := by omega
      obtain rfl : la = [] := List.eq_nil_of_length_eq_zero H.out.1
      by_cases hm0 : 0 < m
      · obtain ⟨b, lb', rfl⟩ := cons_of_pos H.out.2.1 hm0
        obtain ⟨bd, rfl, _⟩ := (H.out.2.2.2.1).some_ (by simp)
        have hcb := head_cell (H.out.2.2.2.1.below hbel (Nat.le_refl _))
        obtain ⟨hb0, hb1⟩ := hcb
        obtain ⟨B', HB', hslB⟩ := cut_from (P := Try.prog) 22 9 i0 1 Try.underlying22 hi0 hz1 H.out.2.2.2.1 (by rw [List.length_map, H.out.2.1]; omega) h3 1 1 rfl hm0
        have HB := Lib.hid HB'
        clear HB'
        have hm1 : 1 ≤ m := hm0
        go_wp2_with fail
        go_quiet (fail)
        go_wp2_with fail
        go_quiet (fail)
        go_wp2_with fail
        go_quiet (fail)
        go_wp2_with fail
        refine (HK.out _ _ _).mono ?_
        rintro e w' ⟨rfl, rfl⟩
        cases hk : k false true
        · have HK2 := Lib.hid hk
          clear hk
          go_wp2_with fail
          go_roundw
          case rel =>
            refine Head.mk (la := []) (lb := lb') (out := out) (by omega) (by omega) (by omega) (by omega) (by omega) ⟨rfl, by have := H.out.2.1; simp at this; omega, Rd.nil _ _, HB.out, ?_⟩ hown (below_drewN hbel _)
            rw [← H.out.2.2.2.2, (show mergeL k [] (b :: lb') = _ from by rw [mergeL]), HK2.out]
            simp
          case measure => simp only [sumLen_mk]; omega
        · have HK2 := Lib.hid hk
          clear hk
          go_wp2_with (first
            | (at_builtin
               refine wpList_append_rd _ rfl (.tmp 67) (.tmp 69) 22 rfl w.heap.size 9 i0 (.string ByteArray.empty) 1 16 Try.underlying22 hi0 hz0 hz1 hz2 rfl (by decide) _ _ _ rfl (World.ownsRow.alloc (w := World.drewN _ _) hown _) (some ⟨wr.heap.size, 0, none⟩) 1 1 [.string b] rfl rfl (Rd.new (World.drewN wr _) #[.string b] 9) (by simp [Value.oneCell']) (by simp only [maxLen]; omega) (by omega) (by have := hbel.size; simp; omega) ?_
               intro v1 w1 happ
               have hbel1 := app_below (World.ownsRow.alloc (w := World.drewN _ _) hown _) happ ((below_drewN hbel _).alloc (by have := hbel.size; simpa using this) _) (by have := hbel.size; simp; omega)
               have hown1 := own_snoc happ.own
               clear happ hown hbel))
          go_roundw
          case rel =>
            refine Head.mk (la := []) (lb := lb') (out := out ++ [b]) (by omega) (by omega) (by omega) (by omega) (by simp; omega) ⟨rfl, by have := H.out.2.1; simp at this; omega, Rd.nil _ _, HB.out, ?_⟩ hown1 hbel1
            rw [← H.out.2.2.2.2, (show mergeL k [] (b :: lb') = _ from by rw [mergeL]), HK2.out]
            simp
          case measure => simp only [sumLen_mk]; omega
      · obtain rfl : m = 0 := by omega
        obtain rfl : lb = [] := List.eq_nil_of_length_eq_zero H.out.2.1
        go_wp2
        go_ret
        refine ⟨_, rfl, ?_, hbel⟩
        rw [← H.out.2.2.2.2, merge_nil, List.append_nil]
        exact txt_own hown

end Go.Proofs.Ytccjbmmhdbainaa
