/- Package resp's Feed walked. -/
import Derived.Test.YtdbboooblbdihaaRspE
namespace Go.Proofs.Ytdbboooblbdihaa
open Go.RowKit
set_option linter.unusedVariables false
set_option linter.unusedSectionVars false
set_option linter.unusedSimpArgs false
set_option maxRecDepth 100000


theorem Try.cmdInfo : (Try.prog.info? 43).map (fun i => (i.zero, i.size, i.bytes)) = some (some (.agg #[.slice none 0 0, .int .i64 0]), 2, 32) := by kernel_rfl
/-- The parser at block p. -/
def PrsAt (w : World) (p : Nat) (left : ByteArray) (dead : Bool) : Prop := w.heap[p]? = some (.cells #[.string left, .bool dead] 26 (0, 0))
/-- What Feed answers, and leaves. -/
def feedL (left : ByteArray) (dead : Bool) (b : ByteArray) : List Cmd × ByteArray × Bool :=
  if dead = true then ([], left, true) else ((rdAll (left ++ b).toList).1, bsv (rdAll (left ++ b).toList).2.1, (rdAll (left ++ b).toList).2.2)
def FeedOut (p : Nat) (w : World) (res : List Cmd × ByteArray × Bool) (e : Ending) (w' : World) : Prop :=
  ∃ u, e = .returned u ∧ CmdsAt w w' u res.1 ∧ PrsAt w' p res.2.1 res.2.2 ∧ Kp [p] w w'
theorem exp_er {x : UInt8} {l : List UInt8} {c : Int} (h : expP x l = .er c) : c = 3 ∨ c = 4 := by
  cases l with
  | nil => injection h with h; exact .inl h.symm
  | cons a t =>
    have h : (if a = x then Pr.ok () t else .er 4) = .er c := h
    by_cases hc : a = x
    · rw [if_pos hc] at h; cases h
    · rw [if_neg hc] at h; injection h with h; exact .inr h.symm
theorem bind_er {α β : Type} {x : Pr α} {f : α → List UInt8 → Pr β} {c : Int} (h : x.bind f = .er c) : x = .er c ∨ ∃ a l', x = .ok a l' ∧ f a l' = .er c := by
  cases x with
  | ok a l' => exact .inr ⟨a, l', rfl, h⟩
  | er d => injection h with h; subst h; exact .inl rfl
theorem end_er {l : List UInt8} {c : Int} (h : endP l = .er c) : c = 3 ∨ c = 4 := by
  unfold endP at h
  cases hc : expP 13 l with
  | er d => rw [hc] at h; injection h with h; subst h; exact exp_er hc
  | ok b l1 => rw [hc] at h; exact exp_er h
theorem num_er (most : Nat) (minus : Bool) : ∀ (l : List UInt8) (k : Nat) (z : Bool) (n : Int) (c : Int), numG most minus k z n l = .er c → c = 3 ∨ c = 4 := by
  intro l
  induction l with
  | nil => intro k z n c h; injection h with h; exact .inl h.symm
  | cons a t ih =>
    intro k z n c h
    unfold numG at h
    by_cases hd : dig a
    · rw [if_pos hd] at h
      by_cases hc : k < most ∧ (k = 0 ∨ z = false)
      · rw [if_pos hc] at h
        by_cases hq : wrap64 ((nextN minus n a).tdiv 10) = n
        · rw [if_pos hq] at h; exact ih _ _ _ _ h
        · rw [if_neg hq] at h; injection h with h; exact .inr h.symm
      · rw [if_neg hc] at h; injection h with h; exact .inr h.symm
    · rw [if_neg hd] at h
      by_cases hk : 0 < k
      · rw [if_pos hk] at h; cases h
      · rw [if_neg hk] at h; injection h with h; exact .inr h.symm
theorem line_er {x : UInt8} {most : Int} {l : List UInt8} {c : Int} (h : lineP x most l = .er c) : c = 3 ∨ c = 4 ∨ c = 13 := by
  unfold lineP at h
  rcases bind_er h with h | ⟨a, l1, h1, h⟩
  · exact (exp_er h).imp id .inl
  rcases bind_er h with h | ⟨m, l2, h2, h⟩
  · exact (num_er _ _ _ _ _ _ _ h).imp id .inl
  rcases bind_er h with h | ⟨b, l3, h3, h⟩
  · exact (end_er h).imp id .inl
  by_cases hm : m ≤ most
  · rw [if_pos hm] at h; cases h
  · rw [if_neg hm] at h; injection h with h; exact .inr (.inr h.symm)
theorem word_er {l : List UInt8} {c : Int} (h : wordP l = .er c) : c = 3 ∨ c = 4 ∨ c = 13 := by
  unfold wordP at h
  rcases bind_er h with h | ⟨n, l1, h1, h⟩
  · exact line_er h
  unfold bytesP at h
  by_cases hn : l1.length < n.toNat
  · rw [if_pos hn] at h; injection h with h; exact .inl h.symm
  · rw [if_neg hn] at h
    rcases bind_er h with h | ⟨b, l3, h3, h⟩
    · exact (end_er h).imp id .inl
    · cases h
theorem words_er : ∀ (k : Nat) (out : List ByteArray) (l : List UInt8) (c : Int), wordsA k out l = .er c → c = 3 ∨ c = 4 ∨ c = 13 := by
  intro k
  induction k with
  | zero => intro out l c h; cases h
  | succ k ih =>
    intro out l c h
    unfold wordsA at h
    rcases bind_er h with h | ⟨x, l1, h1, h⟩
    · exact word_er h
    · exact ih _ _ _ h
theorem cmd_er3 {l : List UInt8} {c : Int} (h : cmdP l = .er c) : c = 3 ∨ c = 4 ∨ c = 13 := by
  unfold cmdP at h
  rcases bind_er h with h | ⟨n, l1, h1, h⟩
  · exact line_er h
  · exact words_er _ _ _ _ h
theorem cmd_er {l : List UInt8} {c : Int} (h : cmdP l = .er c) : ¬ c = 0 := by
  have := cmd_er3 h
  omega
theorem own_from {w0 w1 w : World} {v : Value} {xs : List ByteArray} (h : Own w1 w v xs) (hz : w0.heap.size ≤ w1.heap.size) : Own w0 w v xs := by
  refine ⟨h.1, ?_⟩
  rcases h.2 with h0 | ⟨g, cap, cur, rfl, hb, hh, r⟩
  · exact .inl h0
  · exact .inr ⟨g, cap, cur, rfl, Nat.le_trans hz hb, hh, r⟩
theorem cmds_put {w0 w w' : World} {u u' : Value} {xs : List CmdE} {cs : List Cmd} {x : CmdE} {c : Cmd} (hin : CmdsIn w0 w xs cs) (hx : Own w0 w x.v c.ws) (he : x.e = c.e) (hown : w.ownsRow w0.heap.size 43 2 u xs.length (xs.flatMap cmdC))
    (ha : Appended w w' w0.heap.size 43 2 u u' (xs.length + 1) (xs.flatMap cmdC ++ cmdC x)) : CmdsAt w0 w' u' (cs ++ [c]) ∧ Kp u.ownBlock.toList w w' := by
  have hk := ap_kp ha
  have hns : NoS w u.ownBlock.toList := by
    intro k hk c f hcc
    obtain ⟨c1, f1, h1⟩ := own_at hown k (by simpa using hk)
    exact blocks_ne hcc h1 (by decide) rfl
  refine ⟨⟨xs ++ [x], ?_, (hin.kp hk hns).snoc ?_ he⟩, hk⟩
  · have := ha.own
    rw [List.length_append, List.flatMap_append]
    simpa using this
  · exact own_kp hx hk (fun k hb hm => by
      obtain ⟨c', f', h3⟩ := own_at hx k hb
      exact hns k hm c' f' h3)
theorem row_new {w : World} {base e size n : Nat} {v : Value} {xs : List Value} (h : w.ownsRow base e size v n xs) : ∀ k, v.ownBlock = some k → base ≤ k := by
  intro k hk
  rcases h.2 with ⟨rfl, _⟩ | ⟨g, cap, cur, rfl, hb, hh, _⟩
  · simp [Value.ownBlock] at hk
  · simp [Value.ownBlock] at hk
    omega
set_option maxHeartbeats 8000000 in
theorem feed_any (p : Nat) (left : ByteArray) (dead : Bool) (b : ByteArray) (w : World) (h : PrsAt w p left dead) (hz : left.size + b.size ≤ 1000000000) :
    Calls Try.prog 12 #[.pointer (some ⟨p, 0, none⟩), .string b] w (FeedOut p w (feedL left dead b)) := by
  obtain ⟨i1, hi1, hz3, hz4, hz5⟩ := info_parts Try.cmdInfo
  have c0 := heap_cell h 0
  have c1 := heap_cell h 1
  have HP := Lib.hid h
  cases dead with
  | true =>
    clear h
    go_enter Try.func12, Try.ntmps12
    go_wp2_with fail
    go_ret
    exact ⟨_, rfl, CmdsAt.nil _ _, HP.out, Kp.refl _ _⟩
  | false =>
    have hR : feedL left false b = ((rdAll (left ++ b).toList).1, bsv (rdAll (left ++ b).toList).2.1, (rdAll (left ++ b).toList).2.2) := by unfold feedL; simp
    have hfz : (left ++ b).size ≤ 1000000000 := by rw [ByteArray.size_append]; omega
    obtain ⟨fs, hfs⟩ : ∃ fs, left ++ b = fs := ⟨_, rfl⟩
    rw [hfs] at hR hfz
    obtain ⟨T, hT⟩ : ∃ T, rdAll fs.toList = T := ⟨_, rfl⟩
    rw [hR, hT]
    have HT := Lib.hid hT
    have HFS := Lib.hid hfs
    clear hT hfs
    have hb1 : ¬ (9223372036854775807 < left.size + b.size) := by omega
    clear h hR
    go_enter Try.func12, Try.ntmps12
    go_upto_region 4 with fail
    clear c0 c1 hb1
    rw [HFS.out]
    have hx1 := Ext.alloc w (.cells #[.string fs, .int .i64 0] 64)
    have hb1 := heap_alloc_new w (.cells #[.string fs, .int .i64 0] 64 (0, 0))
    have hz1 : (w.alloc (.cells #[.string fs, .int .i64 0] 64)).heap.size = w.heap.size + 1 := by simp
    generalize w.alloc (.cells #[.string fs, .int .i64 0] 64) = w1 at hx1 hb1 hz1 ⊢
    have hx2 := Ext.alloc w1 (.cells #[.pointer (some ⟨w.heap.size, 0, none⟩)] 62)
    have hb2 := heap_alloc_new w1 (.cells #[.pointer (some ⟨w.heap.size, 0, none⟩)] 62 (0, 0))
    rw [hz1] at hb2
    generalize w1.alloc (.cells #[.pointer (some ⟨w.heap.size, 0, none⟩)] 62) = w2 at hx2 hb2 ⊢
    have HRD := Lib.hid (⟨0, (Kp.of_ext (L := []) hx2).heap hb1 (by simp), by omega, rfl⟩ : Rdr w2 w.heap.size fs fs.toList)
    obtain ⟨r, hr⟩ : ∃ r, r = w.heap.size := ⟨_, rfl⟩
    rw [← hr] at HRD hb2 ⊢
    have HRW := Lib.hid hr
    generalize hvr : r + 1 = vr at hb2 ⊢
    have HX := Lib.hid (hx1.trans hx2)
    have HVR := Lib.hid hb2
    have HVW : Hid (r ≤ vr) := Lib.hid (by omega)
    have hfl := size_list fs
    clear hx1 hb1 hz1 hx2 hb2 hr hvr
    go_wp2_with fail
    go_loopg [6] (fs.toList.length + 1) (fun gk lv wr => ∃ (cs : List Cmd) (l : List UInt8), gk = l.length + 1 ∧ Ext w wr ∧ wr.heap[vr]? = some (.cells #[.pointer (some ⟨r, 0, none⟩)] 62 (0, 0)) ∧ Rdr wr r fs l ∧ CmdsAt w wr lv cs ∧ cs ++ (rdAll l).1 = T.1 ∧ (rdAll l).2 = T.2 ∧ cs.length + l.length ≤ fs.size)
    case atStart => exact ⟨[], fs.toList, rfl, HX.out, HVR.out, HRD.out, CmdsAt.nil _ _, by rw [HT.out]; rfl, by rw [HT.out], by simp [hfl]⟩
    case round =>
      clear HX HVR HRD HT
      obtain ⟨cs, l, hgk, hx, hvr, hrd, hcm, hT1, hT2, hsz⟩ := hrel
      obtain ⟨q, hq, hqs, hqd⟩ := hrd
      have HX := Lib.hid hx
      have HVR := Lib.hid hvr
      have HQ := Lib.hid hq
      have HQD := Lib.hid hqd
      have HCM := Lib.hid hcm
      have HT1 := Lib.hid hT1
      have HT2 := Lib.hid hT2
      have hmf : ∀ (fn : Fn) (first cap : Array Value) (w : World), (Instr.makeFunc fn first cap).run Try.prog w = .ok (.func fn first cap) w := fun _ _ _ _ => rfl
      have a0 := heap_cell hvr 0
      obtain ⟨q0, q1⟩ := hq.cells
      clear hx hvr hq hqd hcm hT1 hT2
      go_wp2_with fail
      have hxa := Ext.alloc wr (.cells #[.slice none 0 0] 36)
      have hba := heap_alloc_new wr (.cells #[.slice none 0 0] 36 (0, 0))
      have hza : (wr.alloc (.cells #[.slice none 0 0] 36)).heap.size = wr.heap.size + 1 := by simp
      generalize wr.alloc (.cells #[.slice none 0 0] 36) = w3 at hxa hba hza ⊢
      obtain ⟨vw, hvw⟩ : ∃ vw, vw = wr.heap.size := ⟨_, rfl⟩
      rw [← hvw] at hba hza ⊢
      have HXA := Lib.hid hxa
      have HBA := Lib.hid hba
      have HZA := Lib.hid hza
      have HVV := Lib.hid hvw
      have hrl := (Array.getElem?_eq_some_iff.1 HQ.out).1
      have hL : ∀ k ∈ [r, vw], k < w3.heap.size := by simp; omega
      have HRL := Lib.hid hrl
      clear hxa hba hza hvw a0 q0 q1 hrl
      have hfeed : ∀ w4, Ext w3 w4 → Calls Try.prog 30 #[.pointer (some ⟨vr, 0, none⟩), .pointer (some ⟨vw, 0, none⟩)] w4 (CmdOut r vw fs w4 (cmdP l)) := fun w4 hx4 =>
        feed1_any r vr vw fs l w4 (Rdr.ext ⟨q, HQ.out, hqs, HQD.out⟩ (HXA.out.trans hx4)) hfz ((Kp.of_ext (L := []) (HXA.out.trans hx4)).heap HVR.out (by simp)) ((Kp.of_ext (L := []) hx4).heap HBA.out (by simp))
      cases hc : cmdP l with
      | er c =>
        have htry := try_feed #[.pointer (some ⟨vr, 0, none⟩), .pointer (some ⟨vw, 0, none⟩)] [r, vw] (fun _ => False) (fun c' wz => c' = c ∧ ∃ p', RdrAt wz r fs p') w3 hL (fun w4 hx4 hz4 => by
          refine (hfeed w4 hx4).mono ?_
          rw [hc]
          rintro e w5 ⟨hk, rfl, hh⟩
          exact ⟨hk, .inr ⟨c, rfl, rfl, hh⟩⟩)
        have HTRY := Lib.hid htry
        have HC := Lib.hid hc
        have hrd := rdAll_er hc
        clear htry hfeed hc
        refine HTRY.out.mono ?_
        rintro e w6 ⟨w4, w5, hx4, hk5, hk6, hlt, ⟨rfl, hG⟩ | ⟨c', rfl, rfl, p5, hp5⟩⟩
        · exact hG.elim
        have hkall : Kp [r] wr w6 := by
          have h1 : Kp [r] wr w5 := (Kp.of_ext (L := [r]) (HXA.out.trans hx4)).trans hk5 (fun k hk => by
            simp at hk
            rcases hk with rfl | rfl
            · exact .inl (by simp)
            · exact .inr (by rw [HVV.out]; exact Nat.le_refl _))
          exact h1.trans hk6 (fun k hk => .inr (by simp at hk; rw [hk]; exact HXA.out.size))
        have HKA := Lib.hid hkall
        have hnrv : vr ≠ r := blocks_ne HVR.out HQ.out (by decide)
        have HV6 := Lib.hid (hkall.heap HVR.out (by simpa using hnrv))
        have HX6 : Hid (Ext w w6) := Lib.hid (hkall.to_ext HX.out (by simp; have := HRW.out; omega))
        have HP6 : Hid (PrsAt w6 p left false) := Lib.hid ((Kp.of_ext (L := []) HX6.out).heap HP.out (by simp))
        have HCM6 : Hid (CmdsAt w w6 u6 cs) := Lib.hid (HCM.out.kp hkall (by
          intro k hk c f hcc
          simp at hk
          subst hk
          exact blocks_ne hcc HQ.out (by decide) rfl) (fun k hb hm => by
          obtain ⟨xs, hown, _⟩ := HCM.out
          obtain ⟨c1, f1, h1⟩ := own_at hown k hb
          simp at hm
          subst hm
          exact blocks_ne h1 HQ.out (by decide) rfl))
        have HQ6 : Hid (RdrAt w6 r fs p5) := Lib.hid (hk6.heap hp5 (by simp; have := HRL.out; have := HXA.out.size; omega))
        have HK6 := Lib.hid hk6
        clear hx4 hk5 hk6 hlt hp5 hkall hnrv HTRY
        by_cases h3 : c' = 3
        · subst h3
          rw [if_pos rfl] at hrd
          have HRDD := Lib.hid hrd
          clear hrd
          have hl0 : (0 : Int) ≤ (q : Int) ∧ (q : Int) ≤ (fs.size : Int) := by omega
          have b0 := heap_cell HP6.out 0
          have g0 := heap_frozen HP6.out 0
          have a0 := heap_cell HV6.out 0
          have q0 := heap_cell HQ6.out 0
          obtain ⟨Au, nu, cu, hu⟩ : ∃ A n c, u6 = .slice A n c := by
            obtain ⟨xs, hown, _⟩ := HCM6.out
            obtain ⟨A, c, e⟩ := own_len hown
            exact ⟨A, _, c, e⟩
          subst hu
          go_wp2_with fail
          go_ret
          have hst := heap_setCell_same w6 p 0 _ 26 (.string (fs.extract q fs.size)) HP6.out
          have hkp : Kp [p] w6 (w6.setCell ⟨p, 0, none⟩ (.string (fs.extract q fs.size))) := Kp.store p 0 _ (by simp)
          have hexq : fs.extract q fs.size = bsv l := by
            apply bytes_ext
            unfold bsv
            rw [toList_mk, ← HQD.out, Lib.toList_data, Lib.toList_data]
            simp
            exact List.take_of_length_le (by rw [List.length_drop, Array.length_toList]; exact Nat.le_refl _)
          have hTT : T = (cs, l, false) := by
            have e1 := HT1.out
            have e2 := HT2.out
            rw [HRDD.out] at e1 e2
            simp at e1 e2
            exact Prod.ext e1.symm e2.symm
          rw [hTT]
          refine ⟨_, rfl, HCM6.out.kp hkp ?_ ?_, ?_, (Kp.of_ext HX6.out).and hkp⟩
          · intro k hk c f hcc
            simp at hk
            subst hk
            exact blocks_ne hcc HP6.out (by decide) rfl
          · intro k hb hm
            obtain ⟨xs, hown, _⟩ := HCM6.out
            obtain ⟨c1, f1, h1⟩ := own_at hown k hb
            simp at hm
            subst hm
            exact blocks_ne h1 HP6.out (by decide) rfl
          · show PrsAt _ p (bsv l) false
            rw [hexq] at hst ⊢
            exact hst
        · rw [if_neg h3] at hrd
          have HRDD := Lib.hid hrd
          have h3B : (c' == 3) = false := by simpa using h3
          have hcc0 : ¬ c' = 0 := cmd_er HC.out
          have h0B : (c' == 0) = false := by simpa using hcc0
          have h0C : (c' != 0) = true := by simpa [bne] using hcc0
          clear hrd
          obtain ⟨xs, hown, hin⟩ := HCM6.out
          obtain ⟨Au, cu, rfl⟩ := own_len hown
          have HOW := Lib.hid hown
          have HIN := Lib.hid hin
          have HNS := Lib.hid (show NoS w6 [p] from by
            intro k hk c f hcc
            simp at hk
            subst hk
            exact blocks_ne hcc HP6.out (by decide) rfl)
          have HNU := Lib.hid (show ∀ k, (Value.slice Au xs.length cu).ownBlock = some k → k ∉ [p] from by
            intro k hb hm
            obtain ⟨c1, f1, h1⟩ := own_at hown k hb
            simp at hm
            subst hm
            exact blocks_ne h1 HP6.out (by decide) rfl)
          have b0 := heap_cell HP6.out 0
          have b1 := heap_cell HP6.out 1
          have g0 := heap_frozen HP6.out 0
          have g1 := heap_frozen HP6.out 1
          have hst1 : PrsAt (w6.setCell ⟨p, 0, none⟩ (.string ⟨#[]⟩)) p ⟨#[]⟩ false := heap_setCell_same w6 p 0 _ 26 (.string ⟨#[]⟩) HP6.out
          have hst2 : PrsAt ((w6.setCell ⟨p, 0, none⟩ (.string ⟨#[]⟩)).setCell ⟨p, 1, none⟩ (.bool true)) p ⟨#[]⟩ true := heap_setCell_same _ p 1 _ 26 (.bool true) hst1
          have hkp : Kp [p] w6 ((w6.setCell ⟨p, 0, none⟩ (.string ⟨#[]⟩)).setCell ⟨p, 1, none⟩ (.bool true)) := (Kp.store p 0 _ (by simp)).and (Kp.store p 1 _ (by simp))
          have HS2 := Lib.hid hst2
          have HKP := Lib.hid hkp
          have hxl : xs.length ≤ 1000000000 := by rw [hin.1]; omega
          clear hown hin hst1 hst2 hkp
          go_upto_region 13 with fail
          clear b0 b1 g0 g1
          generalize (w6.setCell ⟨p, 0, none⟩ (.string ⟨#[]⟩)).setCell ⟨p, 1, none⟩ (.bool true) = w7 at HS2 HKP ⊢
          have HIN7 := Lib.hid (HIN.out.kp HKP.out HNS.out)
          have HOW7 := Lib.hid (row_kp HOW.out HKP.out HNU.out)
          have hxz : w.heap.size ≤ w7.heap.size := Nat.le_trans HX6.out.size HKP.out.size
          go_wp2_with (first
            | (at_builtin
               have HXB := Lib.hid (Ext.alloc w7 (.cells #[.slice none 0 0, .int .i64 c'] 43))
               have HOB := Lib.hid (row_kp HOW7.out (Kp.of_ext (L := []) HXB.out) (by simp))
               refine wpList_append_rd (P := Try.prog) _ rfl (.tmp 54) (.tmp 57) 27 rfl w.heap.size 43 i1 (.agg #[.slice none 0 0, .int .i64 0]) 2 32 Try.underlying27 hi1 hz3 hz4 hz5 rfl (by decide) (.slice Au xs.length cu) xs.length (xs.flatMap cmdC) rfl (by exact HOB.out) (some ⟨w7.heap.size, 0, none⟩) 1 1 (cmdC ⟨.slice none 0 0, c'⟩) rfl rfl (by exact Rd.new w7 #[_, _] 43) (by intro u hu; simp [cmdC] at hu; rcases hu with rfl | rfl <;> rfl) (by simp only [maxLen]; omega) (by omega) (by have := HXB.out.size; omega) ?_
               intro v8 w8 happ
               obtain ⟨A8, c8, rfl⟩ := own_len happ.own
               have HPUT := Lib.hid (cmds_put (HIN7.out.ext HXB.out) (Own.nil _ _) rfl HOB.out happ : CmdsAt w w8 _ (cs ++ [⟨[], c'⟩]) ∧ _)
               clear happ))
          go_ret
          have hTT : T = (cs ++ [⟨[], c'⟩], [], true) := by
            have e1 := HT1.out
            have e2 := HT2.out
            rw [HRDD.out] at e1 e2
            simp at e1 e2
            exact Prod.ext e1.symm e2.symm
          rw [hTT]
          have hpn : p ∉ (Value.slice Au xs.length cu).ownBlock.toList := fun hm => HNU.out p (by simpa using hm) (by simp)
          refine ⟨_, rfl, HPUT.out.1, HPUT.out.2.heap ((Kp.of_ext (L := []) HXB.out).heap HS2.out (by simp)) hpn, ?_⟩
          refine (((Kp.of_ext HX6.out).and HKP.out).then HXB.out).trans HPUT.out.2 (fun k hk => .inr ?_)
          exact row_new HOW.out k (by simpa using hk)
      | ok ws l2 =>
        have htry := try_feed #[.pointer (some ⟨vr, 0, none⟩), .pointer (some ⟨vw, 0, none⟩)] [r, vw] (fun wz => Rdr wz r fs l2 ∧ ∃ v, wz.heap[vw]? = some (.cells #[v] 36 (0, 0)) ∧ Own w wz v ws ∧ ∀ k, v.ownBlock = some k → w3.heap.size < k) (fun _ _ => False) w3 hL (fun w4 hx4 hz4 => by
          refine (hfeed w4 hx4).mono ?_
          rw [hc]
          rintro e w5 ⟨hk, rfl, hr, v, hv, ho⟩
          exact ⟨hk, .inl ⟨rfl, hr, v, hv, own_from ho (Nat.le_trans HX.out.size (Nat.le_trans HXA.out.size hx4.size)), fun k hk => by have := own_blk ho k hk; omega⟩⟩)
        have HTRY := Lib.hid htry
        have hln := cmd_len hc
        have hrd := rdAll_ok hc
        have hwl : ws.length ≤ 1000000000 := by
          unfold cmdP at hc
          obtain ⟨n, l1, h1, h2⟩ := bind_ok hc
          obtain ⟨_, xs, h3, h4⟩ := words_len _ _ _ _ _ h2
          have := line_range h1
          rw [h3]
          simp
          omega
        clear htry hfeed hc
        refine HTRY.out.mono ?_
        rintro e w6 ⟨w4, w5, hx4, hk5, hk6, hlt, ⟨rfl, hr5, v5, hv5, ho5, hnb5⟩ | ⟨c', rfl, hB⟩⟩
        rotate_left
        · exact hB.elim
        have hkall : Kp [r] wr w6 := by
          have h1 : Kp [r] wr w5 := (Kp.of_ext (L := [r]) (HXA.out.trans hx4)).trans hk5 (fun k hk => by
            simp at hk
            rcases hk with rfl | rfl
            · exact .inl (by simp)
            · exact .inr (by rw [HVV.out]; exact Nat.le_refl _))
          exact h1.trans hk6 (fun k hk => .inr (by simp at hk; rw [hk]; exact HXA.out.size))
        have HKA := Lib.hid hkall
        have hnrv : vr ≠ r := blocks_ne HVR.out HQ.out (by decide)
        have HV6 := Lib.hid (hkall.heap HVR.out (by simpa using hnrv))
        have HX6 : Hid (Ext w w6) := Lib.hid (hkall.to_ext HX.out (by simp; have := HRW.out; omega))
        have HP6 : Hid (PrsAt w6 p left false) := Lib.hid ((Kp.of_ext (L := []) HX6.out).heap HP.out (by simp))
        have HCM6 : Hid (CmdsAt w w6 u6 cs) := Lib.hid (HCM.out.kp hkall (by
          intro k hk c f hcc
          simp at hk
          subst hk
          exact blocks_ne hcc HQ.out (by decide) rfl) (fun k hb hm => by
          obtain ⟨xs, hown, _⟩ := HCM.out
          obtain ⟨c1, f1, h1⟩ := own_at hown k hb
          simp at hm
          subst hm
          exact blocks_ne h1 HQ.out (by decide) rfl))
        have hbz : w3.heap.size ≠ vw := by have := HZA.out; have := HVV.out; omega
        have HR6 : Hid (Rdr w6 r fs l2) := Lib.hid (hr5.kp hk6 (by simp; have := HRL.out; have := HXA.out.size; omega))
        have HVW6 := Lib.hid (hk6.heap hv5 (by simpa using Ne.symm hbz))
        have HO6 : Hid (Own w w6 v5 ws) := Lib.hid (own_kp ho5 hk6 (fun k hb hm => by
          have := hnb5 k hb
          simp at hm
          omega))
        clear hx4 hk5 hk6 hlt hr5 hv5 ho5 hkall hnrv HTRY
        obtain ⟨Av, cv, rfl⟩ := own_len HO6.out
        have a0 := heap_cell HVW6.out 0
        by_cases hw0 : ws.length = 0
        · rw [if_pos hw0] at hrd
          have HRDD := Lib.hid hrd
          clear hrd
          have hwB : decide ((0 : Int) < (ws.length : Int)) = false := decide_eq_false (by omega)
          have hwC : decide (0 < ws.length) = false := decide_eq_false (by omega)
          have HW0 := Lib.hid hw0
          clear hw0
          go_wp2_with fail
          go_roundg (l2.length + 1)
          case measure => rw [hgk]; omega
          case rel => exact ⟨cs, l2, rfl, HX6.out, HV6.out, HR6.out, HCM6.out, by rw [← HT1.out, HRDD.out], by rw [← HT2.out, HRDD.out], by omega⟩
        · rw [if_neg hw0] at hrd
          have HRDD := Lib.hid hrd
          clear hrd
          have hwB : decide ((0 : Int) < (ws.length : Int)) = true := decide_eq_true (by omega)
          have hwC : decide (0 < ws.length) = true := decide_eq_true (by omega)
          obtain ⟨xs, hown, hin⟩ := HCM6.out
          obtain ⟨Au, cu, rfl⟩ := own_len hown
          have HOW := Lib.hid hown
          have HIN := Lib.hid hin
          have hxl : xs.length ≤ 1000000000 := by rw [hin.1]; omega
          clear hown hin hw0
          go_wp2_with (first
            | (at_builtin
               have HXB := Lib.hid (Ext.alloc w6 (.cells #[.slice Av ws.length cv, .int .i64 0] 43))
               have HOB := Lib.hid (row_kp HOW.out (Kp.of_ext (L := []) HXB.out) (by simp))
               refine wpList_append_rd (P := Try.prog) _ rfl (.tmp 63) (.tmp 66) 27 rfl w.heap.size 43 i1 (.agg #[.slice none 0 0, .int .i64 0]) 2 32 Try.underlying27 hi1 hz3 hz4 hz5 rfl (by decide) (.slice Au xs.length cu) xs.length (xs.flatMap cmdC) rfl (by exact HOB.out) (some ⟨w6.heap.size, 0, none⟩) 1 1 (cmdC ⟨.slice Av ws.length cv, 0⟩) rfl rfl (by exact Rd.new w6 #[_, _] 43) (by intro u hu; simp [cmdC] at hu; rcases hu with rfl | rfl <;> rfl) (by simp only [maxLen]; omega) (by omega) (by have := HX6.out.size; have := HXB.out.size; omega) ?_
               intro v8 w8 happ
               obtain ⟨A8, c8, rfl⟩ := own_len happ.own
               have HPUT := Lib.hid (cmds_put (HIN.out.ext HXB.out) (HO6.out.ext HXB.out) rfl HOB.out happ : CmdsAt w w8 _ (cs ++ [⟨ws, 0⟩]) ∧ _)
               clear happ))
          go_roundg (l2.length + 1)
          case measure => rw [hgk]; omega
          case rel =>
            have hnew : ∀ k ∈ (Value.slice Au xs.length cu).ownBlock.toList, w.heap.size ≤ k := fun k hk => row_new HOW.out k (by simpa using hk)
            have hX8 : Ext w w8 := HPUT.out.2.to_ext (HX6.out.trans HXB.out) hnew
            have hne : ∀ (k : Nat) (c : Array Value) (e : TypeId) (f : Nat × Nat), w6.heap[k]? = some (.cells c e f) → e ≠ 43 → k ∉ (Value.slice Au xs.length cu).ownBlock.toList := fun k c e f hk he hm => by
              obtain ⟨c1, f1, h1⟩ := own_at HOW.out k (by simpa using hm)
              exact blocks_ne hk h1 he rfl
            refine ⟨cs ++ [⟨ws, 0⟩], l2, rfl, hX8, ?_, ?_, HPUT.out.1, by rw [← HT1.out, HRDD.out]; simp, by rw [← HT2.out, HRDD.out], by rw [List.length_append]; simp; omega⟩
            · exact HPUT.out.2.heap ((Kp.of_ext (L := []) HXB.out).heap HV6.out (by simp)) (hne vr _ _ _ HV6.out (by decide))
            · obtain ⟨p6, hp6, hr6⟩ := HR6.out
              exact ⟨p6, HPUT.out.2.heap ((Kp.of_ext (L := []) HXB.out).heap hp6 (by simp)) (hne r _ _ _ hp6 (by decide)), hr6⟩
end Go.Proofs.Ytdbboooblbdihaa
