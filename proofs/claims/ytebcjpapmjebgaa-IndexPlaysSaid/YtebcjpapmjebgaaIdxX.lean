/- Layer 9's known, walked. -/
import Derived.Test.YtebcjpapmjebgaaIdxA
import Derived.StillTailTactics
namespace Go.Proofs.Ytebcjpapmjebgaa
open Go.RowKit Sets
set_option linter.unusedVariables false
set_option linter.unusedSectionVars false
set_option linter.unusedSimpArgs false

theorem row_new (w : World) (cs : Array Value) (t : TypeId) (l : List Lab) (n : Nat) (hn : l.length = n) (hm : n ≤ 100000) (h : cs.toList = l.flatMap labC) : Row labC (w.alloc (.cells cs t)) (.slice (some ⟨w.heap.size, 0, none⟩) n n) l :=
  ⟨_, n, n, rfl, hn, Nat.le_refl _, by simp [maxLen]; omega, by rw [← h]; exact ap_new w cs t _ rfl⟩
theorem txt_new (w : World) (cs : Array Value) (t : TypeId) (l : List ByteArray) (n : Nat) (hn : l.length = n) (hm : n ≤ 100000) (h : cs.toList = l.map .string) : Txt (w.alloc (.cells cs t)) (.slice (some ⟨w.heap.size, 0, none⟩) n n) l :=
  ⟨_, n, n, rfl, hn, Nat.le_refl _, by omega, by rw [← h]; exact ap_new w cs t _ rfl⟩
def ka : ByteArray := ⟨#[97]⟩
def kb : ByteArray := ⟨#[98]⟩
def kc : ByteArray := ⟨#[99]⟩
def ke : ByteArray := ⟨#[]⟩
def kx : ByteArray := ⟨#[120]⟩
def l1 : List Lab := [(⟨#[121]⟩, ⟨#[51]⟩), (⟨#[120]⟩, ⟨#[49]⟩)]
def l2 : List Lab := [(⟨#[120]⟩, ⟨#[50]⟩)]
def l3 : List Lab := [(⟨#[120]⟩, ⟨#[50]⟩), (⟨#[120]⟩, ⟨#[51]⟩)]
def l4 : List Lab := [(⟨#[120]⟩, ⟨#[49]⟩), (⟨#[121]⟩, ⟨#[51]⟩)]
def m1 : Mod := [(ka, l4)]
def m2 : Mod := [(ka, l4), (kb, l2)]
def m3 : Mod := [(kb, l2)]
theorem k1 : putM [] ka l1 = m1 := by decide +kernel
theorem k2 : putM m1 kb l2 = m2 := by decide +kernel
theorem k3 : putM m2 ke [] = m2 := by decide +kernel
theorem k4 : putM m2 kc l3 = m2 := by decide +kernel
theorem e1 : errM ka l1 = 0 := by decide +kernel
theorem e2 : errM kb l2 = 0 := by decide +kernel
theorem e3 : errM ke [] = 1 := by decide +kernel
theorem e4 : errM kc l3 = 1 := by decide +kernel
theorem k5 : (lkM m2 ka).getD [] = l4 := by decide +kernel
theorem k6 : findM m2 (kx, ⟨#[49]⟩) = [ka] := by decide +kernel
theorem k7 : withM m2 kx = [ka, kb] := by decide +kernel
theorem k8 : sizeM m2 = 3 := by decide +kernel
theorem k9 : dropM m2 ka = m3 := by decide +kernel
theorem k10 : (lkM m2 ka).isSome = true := by decide +kernel
theorem k11 : dropM m3 ka = m3 := by decide +kernel
theorem k12 : (lkM m3 ka).isSome = false := by decide +kernel
theorem k13 : (lkM m3 kb).isSome = true := by decide +kernel
theorem k14 : keysM m3 = [kb] := rfl
theorem k15 : keyI ka = true := by decide +kernel
theorem k16 : keyI ke = false := by decide +kernel
theorem k17 : rightI l4 = true := by decide +kernel
theorem k18 : sameB [ka] [ka] = true := by decide +kernel
theorem k19 : sameB [ka, kb] [ka, kb] = true := by decide +kernel
theorem k20 : sameB [kb] [kb] = true := by decide +kernel
theorem kOk : ∀ s : ByteArray, s.size ≤ 1 → okS s := fun s h => by unfold okS; omega
theorem l1ok : ∀ y ∈ l1, okL y := by
  intro y hy
  simp [l1] at hy
  rcases hy with rfl | rfl <;> exact ⟨kOk _ (by decide), kOk _ (by decide)⟩
theorem l2ok : ∀ y ∈ l2, okL y := by
  intro y hy
  simp [l2] at hy
  subst hy
  exact ⟨kOk _ (by decide), kOk _ (by decide)⟩
theorem l3ok : ∀ y ∈ l3, okL y := by
  intro y hy
  simp [l3] at hy
  rcases hy with rfl | rfl <;> exact ⟨kOk _ (by decide), kOk _ (by decide)⟩
theorem l4ok : ∀ y ∈ l4, okL y := by
  intro y hy
  simp [l4] at hy
  rcases hy with rfl | rfl <;> exact ⟨kOk _ (by decide), kOk _ (by decide)⟩
/-- What a law holds: an index behind its start, all that was there kept. -/
structure Gx (w v : World) (x : Nat) (L : List Nat) (M : Mod) : Prop where
  at_ : IdxL w.heap.size v x L M
  ext : Ext w v
theorem Gx.later {w v v' : World} {x : Nat} {L : List Nat} {M : Mod} (h : Gx w v x L M) (k : Ext v v') : Gx w v' x L M := ⟨h.at_.ext k, h.ext.trans k⟩
theorem Gx.did {w v v' : World} {x : Nat} {L : List Nat} {M M' : Mod} (h : Gx w v x L M) (hi : IdxL w.heap.size v' x L M') (hk : Kp L v v') : Gx w v' x L M' := ⟨hi, hk.to_ext h.ext fun k hm => (h.at_.blocks k hm).1⟩
structure Rw (v : World) (ul uf uw : Value) : Prop where
  l : Row labC v ul l4
  f : Txt v uf [ka]
  w : Txt v uw [ka, kb]
theorem Rw.cm {v v' : World} {ul uf uw : Value} (h : Rw v ul uf uw) (k : Cm v v') : Rw v' ul uf uw := ⟨k.row h.l, k.txt h.f, k.txt h.w⟩
set_option maxRecDepth 100000 in
set_option maxHeartbeats 4000000 in
theorem known_any (w : World) : Calls Try.prog 10 #[] w fun e w' => e = .returned (.bool true) ∧ Ext w w' := by
  go_enter Try.func10, Try.ntmps10
  go_wp2_with fail
  refine (new_list w).mono ?_
  rintro e v0 ⟨x, L, rfl, hg, hx⟩
  have HK : Hid (Gx w (v0.alloc (.cells #[.string ⟨#[121]⟩, .string ⟨#[51]⟩, .string ⟨#[120]⟩, .string ⟨#[49]⟩] 24)) x L []) := Lib.hid (Gx.later ⟨hg, hx⟩ (Ext.alloc _ _))
  clear hg hx
  go_wp2_with fail
  refine (set_list (HK.out.at_) ka _ l1 (kOk _ (by decide)) (row_new v0 _ _ l1 2 rfl (by decide) rfl) (by decide) l1ok (by decide)).mono ?_
  rintro e v1 ⟨rfl, hi, hk, hc⟩
  rw [k1] at hi
  rw [e1]
  have HK2 := Lib.hid (HK.out.did hi hk)
  clear HK hi hk hc
  have HK := HK2
  clear HK2
  go_wp2_with fail
  have HK2 := Lib.hid (HK.out.later (Ext.alloc v1 (.cells #[.string ⟨#[120]⟩, .string ⟨#[50]⟩] 24)))
  clear HK
  have HK := HK2
  clear HK2
  refine (set_list (HK.out.at_) kb _ l2 (kOk _ (by decide)) (row_new v1 _ _ l2 1 rfl (by decide) rfl) (by decide) l2ok (by decide)).mono ?_
  rintro e v2 ⟨rfl, hi, hk, hc⟩
  rw [k2] at hi
  rw [e2]
  have HK2 := Lib.hid (HK.out.did hi hk)
  clear HK hi hk hc
  have HK := HK2
  clear HK2
  go_wp2_with fail
  refine (set_list (HK.out.at_) ke _ [] (kOk _ (by decide)) (row_nil _) (by decide) (by simp) (by decide)).mono ?_
  rintro e v3 ⟨rfl, hi, hk, hc⟩
  rw [k3] at hi
  rw [e3]
  have HK2 := Lib.hid (HK.out.did hi hk)
  clear HK hi hk hc
  have HK := HK2
  clear HK2
  go_wp2_with fail
  have HK2 := Lib.hid (HK.out.later (Ext.alloc v3 (.cells #[.string ⟨#[120]⟩, .string ⟨#[50]⟩, .string ⟨#[120]⟩, .string ⟨#[51]⟩] 24)))
  clear HK
  have HK := HK2
  clear HK2
  refine (set_list (HK.out.at_) kc _ l3 (kOk _ (by decide)) (row_new v3 _ _ l3 2 rfl (by decide) rfl) (by decide) l3ok (by decide)).mono ?_
  rintro e v4 ⟨rfl, hi, hk, hc⟩
  rw [k4] at hi
  rw [e4]
  have HK2 := Lib.hid (HK.out.did hi hk)
  clear HK hi hk hc
  have HK := HK2
  clear HK2
  go_wp2_with fail
  refine (labels_list HK.out.at_ ka (kOk _ (by decide))).mono ?_
  rintro e v5 ⟨ul, rfl, hl, hx⟩
  rw [k5] at hl
  have HK5 := Lib.hid (HK.out.later hx)
  have HL := Lib.hid hl
  clear HK hl hx
  go_wp2_with fail
  refine (find_list HK5.out.at_ (kx, ⟨#[49]⟩) ⟨kOk _ (by decide), kOk _ (by decide)⟩ (by decide)).mono ?_
  rintro e v6 ⟨uf, rfl, hf, hx⟩
  rw [k6] at hf
  have HK6 := Lib.hid (HK5.out.later hx)
  have HF := Lib.hid hf
  have HL6 := Lib.hid (HL.out.ext hx)
  clear HK5 hf hx HL
  go_wp2_with fail
  refine (with_list HK6.out.at_ kx (kOk _ (by decide)) (by decide)).mono ?_
  rintro e v7 ⟨uw, rfl, hw, hx⟩
  rw [k7] at hw
  have HK7 := Lib.hid (HK6.out.later hx)
  have HR7 : Hid (Rw v7 ul uf uw) := Lib.hid ⟨HL6.out.ext hx, HF.out.ext hx, hw⟩
  clear HK6 hw hx HF HL6
  go_wp2_with fail
  refine (size_list HK7.out.at_ (by decide)).mono ?_
  rintro e v8 ⟨rfl, hx⟩
  rw [k8]
  have HK8 := Lib.hid (HK7.out.later hx)
  have HR8 := Lib.hid (HR7.out.cm (Cm.of_ext hx))
  clear HK7 HR7 hx
  go_wp2_with fail
  refine (drop_list HK8.out.at_ ka (kOk _ (by decide)) (by decide)).mono ?_
  rintro e v9 ⟨rfl, hi, hk, hc⟩
  rw [k9] at hi
  rw [k10]
  have HK9 := Lib.hid (HK8.out.did hi hk)
  have HR9 := Lib.hid (HR8.out.cm hc)
  clear HK8 HR8 hi hk hc
  go_wp2_with fail
  refine (drop_list HK9.out.at_ ka (kOk _ (by decide)) (by decide)).mono ?_
  rintro e v10 ⟨rfl, hi, hk, hc⟩
  rw [k11] at hi
  rw [k12]
  have hx10 := Ext.alloc v10 (.cells #[.string ⟨#[120]⟩, .string ⟨#[49]⟩, .string ⟨#[121]⟩, .string ⟨#[51]⟩] 24)
  have HK10 := Lib.hid ((HK9.out.did hi hk).later hx10)
  have HR10 := Lib.hid ((HR9.out.cm hc).cm (Cm.of_ext hx10))
  clear HK9 HR9 hi hk hc hx10
  go_wp2_with fail
  refine (same_any ul _ l4 l4 _ HR10.out.l (row_new v10 _ _ l4 2 rfl (by decide) rfl)).mono ?_
  rintro e v11 ⟨rfl, hx⟩
  rw [decide_eq_true (rfl : l4 = l4)]
  have hx11 := Ext.alloc v11 (.cells #[.string ⟨#[97]⟩] 9)
  have HK11 := Lib.hid ((HK10.out.later hx).later hx11)
  have HR11 := Lib.hid ((HR10.out.cm (Cm.of_ext hx)).cm (Cm.of_ext hx11))
  clear HK10 HR10 hx hx11
  go_wp2_with fail
  refine (same_txt uf _ [ka] [ka] _ HR11.out.f (txt_new v11 _ _ [ka] 1 rfl (by decide) rfl)).mono ?_
  rintro e _ ⟨rfl, q1, rfl⟩
  rw [k18]
  generalize hv12 : (v11.alloc (.cells #[.string ⟨#[97]⟩] 9)).drewN q1 = v12
  have hx : Ext (v11.alloc (.cells #[.string ⟨#[97]⟩] 9)) v12 := by rw [← hv12]; exact Ext.drewN _ _
  have hx12 := Ext.alloc v12 (.cells #[.string ⟨#[97]⟩, .string ⟨#[98]⟩] 9)
  have HK12 := Lib.hid ((HK11.out.later hx).later hx12)
  have HR12 := Lib.hid ((HR11.out.cm (Cm.of_ext hx)).cm (Cm.of_ext hx12))
  clear HK11 HR11 hx hx12 hv12
  go_wp2_with fail
  refine (same_txt uw _ [ka, kb] [ka, kb] _ HR12.out.w (txt_new v12 _ _ [ka, kb] 2 rfl (by decide) rfl)).mono ?_
  rintro e _ ⟨rfl, q2, rfl⟩
  rw [k19]
  generalize hv13 : (v12.alloc (.cells #[.string ⟨#[97]⟩, .string ⟨#[98]⟩] 9)).drewN q2 = v13
  have hx : Ext (v12.alloc (.cells #[.string ⟨#[97]⟩, .string ⟨#[98]⟩] 9)) v13 := by rw [← hv13]; exact Ext.drewN _ _
  have HK13 := Lib.hid (HK12.out.later hx)
  have HL13 := Lib.hid (HR12.out.cm (Cm.of_ext hx)).l
  clear HK12 HR12 hx hv13
  go_wp2_with fail
  refine (keys_list HK13.out.at_ (by decide)).mono ?_
  rintro e v14 ⟨u14, rfl, h14, hx⟩
  rw [k14] at h14
  have hx14 := Ext.alloc v14 (.cells #[.string ⟨#[98]⟩] 9)
  have HK14 := Lib.hid ((HK13.out.later hx).later hx14)
  have HL14 := Lib.hid ((HL13.out.ext hx).ext hx14)
  have HT14 := Lib.hid (h14.ext hx14)
  clear HK13 HL13 hx hx14 h14
  go_wp2_with fail
  refine (same_txt u14 _ [kb] [kb] _ HT14.out (txt_new v14 _ _ [kb] 1 rfl (by decide) rfl)).mono ?_
  rintro e _ ⟨rfl, q3, rfl⟩
  rw [k20]
  generalize hv15 : (v14.alloc (.cells #[.string ⟨#[98]⟩] 9)).drewN q3 = v15
  have hx : Ext (v14.alloc (.cells #[.string ⟨#[98]⟩] 9)) v15 := by rw [← hv15]; exact Ext.drewN _ _
  have HK15 := Lib.hid (HK14.out.later hx)
  have HL15 := Lib.hid (HL14.out.ext hx)
  clear HK14 HL14 hx hv15 HT14
  go_wp2_with fail
  refine (has_list HK15.out.at_ kb (kOk _ (by decide))).mono ?_
  rintro e _ ⟨rfl, rfl⟩
  rw [k13]
  go_wp2_with fail
  refine (has_list HK15.out.at_ ka (kOk _ (by decide))).mono ?_
  rintro e _ ⟨rfl, rfl⟩
  rw [k12]
  go_wp2_with fail
  refine (key_any ka v15 (by decide)).mono ?_
  rintro e _ ⟨rfl, rfl⟩
  rw [k15]
  go_wp2_with fail
  refine (key_any ke v15 (by decide)).mono ?_
  rintro e _ ⟨rfl, rfl⟩
  rw [k16]
  go_wp2_with fail
  refine (right_any ul l4 v15 HL15.out l4ok (by decide)).mono ?_
  rintro e v16 ⟨rfl, hx⟩
  rw [k17]
  have HK16 := Lib.hid (HK15.out.later hx)
  clear HK15 HL15 hx
  go_wp2_with fail
  refine (copy_list HK16.out.at_ (by decide)).mono ?_
  rintro e v17 ⟨c, L', rfl, _, hx⟩
  have HK17 := Lib.hid (HK16.out.later hx)
  clear HK16 hx
  go_wp2_with fail
  go_ret
  exact ⟨rfl, HK17.out.ext⟩
end Go.Proofs.Ytebcjpapmjebgaa
