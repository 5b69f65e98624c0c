/- Package index: Keys, Size walked (ranges over a map). -/
import Derived.Test.YtccjbmmhdbainaaIdxV
import Derived.Test.YtccjbmmhdbainaaSte
import Derived.Deep.LoopGhost
namespace Go.Proofs.Ytccjbmmhdbainaa
open Go.RowKit Sets
set_option linter.unusedVariables false
set_option maxRecDepth 100000
set_option linter.unusedSectionVars false
set_option linter.unusedSimpArgs false

theorem range_app {κ : Type} {enc : κ → Value} {ok : κ → Prop} {r b : Nat} {l rest : List (κ × Value)} {w w' : World} {base e size n m : Nat} {v v' : Value} {xs ys : List Value} (hr : RangeAt enc ok w r b l rest) (h : Appended w w' base e size v v' n xs) (ho : w.ownsRow base e size v m ys) : RangeAt enc ok w' r b l rest := by
  refine hr.kp (ap_kp h ho) ?_ ?_
  · intro hm
    obtain ⟨_, _, c, f, hc⟩ := ap_lt ho b (by simpa using hm)
    exact hr.map.cells hc
  · intro hm
    obtain ⟨_, _, c, f, hc⟩ := ap_lt ho r (by simpa using hm)
    obtain ⟨es, clock, seen, h1, h2, h3, h4, h5, h6, h7, h8⟩ := hr
    rw [hc] at h7
    cases h7
/-- One's own row when an iterator has moved. -/
theorem own_next {κ : Type} {enc : κ → Value} {ok : κ → Prop} {r b : Nat} {l rest : List (κ × Value)} {w w' : World} {base e size n : Nat} {v : Value} {xs : List Value} (ho : w.ownsRow base e size v n xs) (hr : RangeAt enc ok w r b l rest) (hk : Kp [r] w w') : w'.ownsRow base e size v n xs :=
  World.ownsRow.kept (row := some r) ho ⟨hk.os, hk.tape, hk.output, hk.size, fun k h1 h2 => hk.block k h1 (by simp; rintro rfl; exact h2 rfl)⟩ (by
    right
    intro e
    obtain ⟨_, _, c, f, hc⟩ := ap_lt ho r e
    obtain ⟨es, clock, seen, h1, h2, h3, h4, h5, h6, h7, h8⟩ := hr
    rw [hc] at h7
    cases h7)
theorem perm_sum {a b : List Nat} (h : a.Perm b) : a.sum = b.sum := by
  induction h with
  | nil => rfl
  | cons x _ ih => simp [ih]
  | swap x y l => simp; omega
  | trans _ _ h1 h2 => exact h1.trans h2
theorem keys_norm {κ : Type} {K ks : List ByteArray} (hK : Sd K) (h : ∀ k, k ∈ ks ↔ k ∈ K) : norm ks = K :=
  Sd.ext (sd_norm ks) hK (fun x => by rw [mem_norm]; exact h x)
section
variable {B x b1 b2 b3 : Nat} {w w' : World} {G : ByteArray → Option (List Lab)} {F : Lab → Option (List ByteArray)} {N : ByteArray → Option (List ByteArray)}
set_option maxHeartbeats 2000000 in
theorem keys_any (h : IdxM B w x G F N b1 b2 b3) (K : List ByteArray) (hK : Sd K) (hG : ∀ k, k ∈ K ↔ (G k).isSome = true) (hlen : K.length ≤ 100000) :
    Calls Try.prog 30 #[.pointer (some ⟨x, 0, none⟩)] w fun e w' => ∃ v, e = .returned v ∧ Txt w' v K ∧ Ext w w' := by
  obtain ⟨i0, hi0, hz0, hz1, hz2⟩ := info_parts Try.strInfo
  have c0 := heap_cell h.blk 0
  obtain ⟨l, hm, hl1, hl2⟩ := h.g
  obtain ⟨w1, hrun, hrg, hx1⟩ := hm.range (P := Try.prog) Try.underlying84
  have hmem : ∀ k, k ∈ l.map (·.1) ↔ k ∈ K := by
    intro k
    rw [hG, List.mem_map]
    constructor
    · rintro ⟨p, hp, rfl⟩
      obtain ⟨a, ha, _⟩ := hl1 p hp
      rw [ha]; rfl
    · intro hs
      obtain ⟨a, ha⟩ := Option.isSome_iff_exists.1 hs
      obtain ⟨v, hv⟩ := hl2 k a ha
      exact ⟨_, hv, rfl⟩
  have hlb : l.length ≤ 100000 := by
    have hsub := hm.nodup.length_le_of_subset (l₂ := K) (fun k hk => (hmem k).1 hk)
    rw [List.length_map] at hsub
    omega
  have HM := Lib.hid hmem
  have HSD := Lib.hid hK
  have HR1 := Lib.hid hrg
  have HX1 := Lib.hid hx1
  clear hmem hK hG hrg hx1 hl1 hl2 hm h
  go_enter Try.func30, Try.ntmps30
  go_wp2_with fail
  obtain ⟨r, hrr⟩ : ∃ r, r = w.heap.size := ⟨_, rfl⟩
  have HRB : Hid (w.heap.size ≤ r) := Lib.hid (by omega)
  rw [← hrr] at HR1 ⊢
  clear hrr
  go_loopg [3] l.length (fun gk s wr => ∃ (dn rest : List (ByteArray × Value)), rest.length = gk ∧ (dn ++ rest).Perm l ∧ wr.ownsRow w.heap.size 9 1 s (dn.map (·.1)).length ((dn.map (·.1)).map .string) ∧ RangeAt Value.string okS wr r b1 l rest ∧ Ext w wr)
  case atStart => exact ⟨[], l, rfl, by simp, World.ownsRow_nil _ _ _ _, HR1.out, HX1.out⟩
  case round =>
    obtain ⟨dn, rest, hrl, hperm, hown, hrange, hext⟩ := hrel
    have HP := Lib.hid hperm
    have HO := Lib.hid hown
    have HE := Lib.hid hext
    have HRL := Lib.hid hrl
    have hdl : dn.length ≤ 100000 := by have := hperm.length_eq; simp at this; omega
    rcases hrange.next (P := Try.prog) with ⟨rfl, hn⟩ | ⟨y, rest', wn, hpx, hn, hen, hrn, hkn⟩
    · have ht := txt_own hown
      have HT := Lib.hid ht
      have HK : Hid (norm (dn.map (·.1)) = K) := Lib.hid (keys_norm (κ := Nat) HSD.out (fun k => by
        rw [← HM.out k]
        rw [List.append_nil] at hperm
        exact (hperm.map (·.1)).mem_iff))
      have hlb2 : (dn.map (·.1)).length ≤ 4294967296 := by rw [List.length_map]; omega
      have HLB := Lib.hid hlb2
      clear hperm hown hrange hext HP HO HRL hlb2
      go_wp2_with fail
      refine (of_txt u3 _ wr HT.out HLB.out).mono ?_
      rintro e v1 ⟨o1, rfl, ht1, hy1⟩
      rw [HK.out] at ht1
      have HT1 := Lib.hid ht1
      have HX2 := Lib.hid (HE.out.trans hy1)
      clear ht1 hy1
      go_wp2_with fail
      go_ret
      exact ⟨o1, rfl, HT1.out, HX2.out⟩
    · have ho2 := own_next hown hrange hkn
      have hx2 : Ext w wn := hkn.to_ext hext (by have := HRB.out; simpa using this)
      obtain ⟨y1, y2⟩ := y
      have hx6 : Ext wn (wn.alloc (.cells #[.string y1] 9)) := Ext.alloc _ _
      have ho6 : (wn.alloc (.cells #[.string y1] 9)).ownsRow w.heap.size 9 1 u3 (dn.map (·.1)).length ((dn.map (·.1)).map .string) := World.ownsRow.alloc ho2 _
      have hr6 : RangeAt Value.string okS (wn.alloc (.cells #[.string y1] 9)) r b1 l rest' := hrn.ext hx6
      have hlen' : rest'.length < gk := by have := hpx.length_eq; simp at this; omega
      have hdm : (dn.map (·.1)).length ≤ 100000 := by rw [List.length_map]; exact hdl
      have HO6 := Lib.hid ho6
      have HR6 := Lib.hid hr6
      have HX6 := Lib.hid (hx2.trans hx6)
      have HPX := Lib.hid hpx
      clear ho2 hx2 ho6 hr6 hown hrange hext hperm hrn hkn hpx HO
      go_wp2_with (first
        | (at_builtin
           refine wpList_append_rd _ rfl (.tmp 16) (.tmp 18) 22 rfl w.heap.size 9 i0 (.string ByteArray.empty) 1 16 Try.underlying22 hi0 hz0 hz1 hz2 rfl (by decide) u3 _ _ rfl HO6.out (some ⟨wn.heap.size, 0, none⟩) 1 1 [.string y1] rfl rfl (by exact Rd.new wn #[_] 9) (by intro u hu; simp at hu; subst hu; rfl) (by simp only [maxLen]; omega) (by omega) HX6.out.size ?_
           intro v7 w7 happ
           have HO7 := Lib.hid happ.own
           have HR7 := Lib.hid (range_app HR6.out happ HO6.out)
           have HX7 := Lib.hid (ap_ext happ HO6.out HX6.out)
           clear happ))
      go_roundg rest'.length
      case rel => exact ⟨dn ++ [(y1, y2)], rest', rfl, by
        have h1 := HP.out
        have h2 := HPX.out
        rw [List.append_assoc]
        exact (List.Perm.append_left dn h2.symm).trans h1, by simpa using HO7.out, HR7.out, HX7.out⟩
      case measure => exact hlen'
def lenG (G : ByteArray → Option (List Lab)) (k : ByteArray) : Nat := ((G k).getD []).length
def sumG (G : ByteArray → Option (List Lab)) (K : List ByteArray) : Nat := (K.map (lenG G)).sum
theorem sd_nodup {K : List ByteArray} (h : Sd K) : K.Nodup := h.imp fun hab e => lt_ne hab e
end
end Go.Proofs.Ytccjbmmhdbainaa
