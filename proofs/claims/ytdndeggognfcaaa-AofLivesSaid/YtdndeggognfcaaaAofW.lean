/- The walks of package aof: the table of sums, made once (sync.Once); the sum of bytes. -/
import Derived.Test.YtdndeggognfcaaaAofP
import Derived.Test.YtdndeggognfcaaaFilK
import Derived.Defers
import Derived.Laws.LoneSync
import Derived.RegionCalls
import Derived.ChangeAlike
import Derived.Laws.Pointers
namespace Go.Proofs.Ytdndeggognfcaaa
open Go.RowKit Crc
set_option linter.unusedVariables false
set_option linter.unusedSectionVars false
set_option linter.unusedSimpArgs false
set_option maxRecDepth 100000

theorem disable (w : World) : (callFunc 69 #[]).run Try.prog w = .ok (.value (.tuple #[])) w := run_call_mark0 Try.func69 (by kernel_rfl) (by kernel_rfl) (by kernel_rfl) .disable (by kernel_rfl) w
theorem enable (w : World) : (callFunc 71 #[]).run Try.prog w = .ok (.value (.tuple #[])) w := run_call_mark0 Try.func71 (by kernel_rfl) (by kernel_rfl) (by kernel_rfl) .enable (by kernel_rfl) w
theorem acquire (a : Addr) (w : World) : (callFunc 72 #[.pointer (some a)]).run Try.prog w = .ok (.value (.tuple #[])) w := run_call_marked Try.func72 (by kernel_rfl) (by kernel_rfl) (by kernel_rfl) .acquire (by kernel_rfl) a w
theorem releaseMerge (a : Addr) (w : World) : (callFunc 74 #[.pointer (some a)]).run Try.prog w = .ok (.value (.tuple #[])) w := run_call_marked Try.func74 (by kernel_rfl) (by kernel_rfl) (by kernel_rfl) .releaseMerge (by kernel_rfl) a w
/-- '(*sync/atomic.Bool).Store(true)', entered as a deferred call. -/
theorem store_deferred (a : Addr) (x : Value) (u : FrameMode) (w : World) (hc : w.cell? a = some x) (hz : w.frozen? a = false) :
    CallsD Try.prog 64 #[.pointer (some a), .bool true] u w fun e u' w' => u' = u ∧ (e = .returned (.tuple #[]) ∧ w' = w.drew.setCell a (.int .u32 1)) := by
  have hc' : w.drew.cell? a = some x := by go_simp
  have hz' : w.drew.frozen? a = false := by go_simp
  have hst := run_call_store (P := Try.prog) Try.func67 (by kernel_rfl) (by kernel_rfl) (by kernel_rfl) (by kernel_rfl) (k := .u32) (y := 1) hc' hz'
  go_enter_d Try.func64, Try.ntmps64
  go_wp2
  go_region_calls
  all_goals (go_end0; exact ⟨rfl, rfl⟩)
theorem unlock_deferred (a : Addr) (u : FrameMode) (w : World) (hc : w.cell? a = some (.int .i32 1)) (hz : w.frozen? a = false) :
    CallsD Try.prog 63 #[.pointer (some a)] u w fun e u' w' => u' = u ∧ (e = .returned (.tuple #[]) ∧ w' = w.setCell a (.int .i32 0)) := by
  have hd := disable
  have he := enable
  have hr := releaseMerge
  have hadd := run_call_add (P := Try.prog) Try.func75 (by kernel_rfl) (by kernel_rfl) (by kernel_rfl) .i32 (by kernel_rfl) (y := -1) (s := 0) hc hz (by simp [go_sem]; rfl)
  have hcv := run_convert_to_unsafe (P := Try.prog) (src := 100) (dst := 104) Try.underlying100 Try.underlying104 (by kernel_rfl) hc
  go_enter_d Try.func63, Try.ntmps63
  go_wp2
  go_end0
  go_wp2
  go_end0
  exact ⟨rfl, rfl⟩
theorem lock_free (a : Addr) (w : World) (hc : w.cell? a = some (.int .i32 0)) (hz : w.frozen? a = false) :
    Calls Try.prog 62 #[.pointer (some a)] w fun e w' => e = .returned (.tuple #[]) ∧ w' = w.setCell a (.int .i32 1) := by
  have hd := disable
  have he := enable
  have ha := acquire
  have hcas := run_call_cas_hit (P := Try.prog) Try.func70 (by kernel_rfl) (by kernel_rfl) (by kernel_rfl) .i32 (by kernel_rfl) (y := 1) hc hz
  have hc' : (w.setCell a (.int .i32 1)).cell? a = some (.int .i32 1) := World.cell?_setCell_same w a _ hc
  have hcv := run_convert_to_unsafe (P := Try.prog) (src := 100) (dst := 104) Try.underlying100 Try.underlying104 (by kernel_rfl) hc'
  go_enter Try.func62, Try.ntmps62
  go_wp2
  first | go_end0 | (simp only [Exit.inBlock, Exit.then]; refine bodyPost_ret (results_none rfl _ _ _) rfl ?_) | refine bodyPost_ret (results_none rfl _ _ _) rfl ?_
  go_wp2
  go_end0
  exact ⟨rfl, rfl⟩
def itf : Nat → Nat → Nat
  | 0, n => n
  | j + 1, n => f1 (itf j n)
theorem itf8 (n : Nat) : itf 8 n = f8 n := rfl
theorem itf_lt (j : Nat) {n : Nat} (h : n < 2 ^ 32) : itf j n < 2 ^ 32 := by
  induction j with
  | zero => exact h
  | succ j ih => exact f1_lt ih
theorem step_val {m : Nat} (h : m < 4294967296) : bits BinOp.xor IntKind.u32 ((m : Int) / 2) (3988292384 * bits BinOp.and IntKind.u32 (m : Int) 1 % 4294967296) = ((f1 m : Nat) : Int) := by
  have e1 : (m : Int) / 2 = ((m / 2 : Nat) : Int) := by omega
  have e2 : bits BinOp.and IntKind.u32 (m : Int) 1 = ((m % 2 : Nat) : Int) := by
    have := u32_and_nat m 1 h (by decide)
    rw [nat_mask1] at this
    exact this
  rw [e1, e2]
  unfold f1
  rcases Nat.mod_two_eq_zero_or_one m with h2 | h2
  · rw [h2, if_neg (by decide)]
    exact u32_xor_nat (m / 2) 0 (by omega) (by decide)
  · rw [h2, if_pos rfl]
    exact u32_xor_nat (m / 2) pol (by omega) (by decide)
theorem u32_ones (a : Nat) (ha : a < 4294967296) : bits .xor .u32 IntKind.u32.max (a : Int) = ((4294967295 - a : Nat) : Int) := by
  show IntKind.u32.wrap ((BitVec.ofInt 32 4294967295 ^^^ BitVec.ofInt 32 (a : Int)).toNat : Int) = _
  have h1 : BitVec.ofInt 32 4294967295 = BitVec.allOnes 32 := by decide
  rw [h1, BitVec.allOnes_xor, BitVec.toNat_not, ofInt_u32 a (by omega)]
  simp [IntKind.wrap, IntKind.bits, IntKind.signed]
  omega
/-- The table's block: the lock is free, and no sums are there yet, or they are right. -/
def TabC (cs : Array Value) : Prop := cs.size = 259 ∧ cs[1]? = some (.int .i32 0) ∧ (cs[0]? = some (.int .u32 0) ∨ (cs[0]? = some (.int .u32 1) ∧ ∀ i, i < 256 → cs[3 + i]? = some (.int .u32 (f8 i : Nat))))
def TabAt (w : World) (b : Nat) : Prop := ∃ cs, w.heap[b]? = some (.cells cs 76 (0, 0)) ∧ TabC cs
set_option maxHeartbeats 4000000 in
theorem fill_any (b : Nat) (cs : Array Value) (w : World) (hb : w.heap[b]? = some (.cells cs 76 (0, 0))) (hs : cs.size = 259) :
    Calls Try.prog 56 #[.pointer (some ⟨b, 0, none⟩)] w fun e w' => e = .returned (.tuple #[]) ∧ ∃ cs', w'.heap[b]? = some (.cells cs' 76 (0, 0)) ∧ cs'.size = 259 ∧ cs'[0]? = cs[0]? ∧ cs'[1]? = cs[1]? ∧ (∀ i, i < 256 → cs'[3 + i]? = some (.int .u32 (f8 i : Nat))) ∧ Kp [b] w w' := by
  have HB := Lib.hid hb
  have HS := Lib.hid hs
  clear hb hs
  go_enter Try.func56, Try.ntmps56
  go_wp2_with fail
  go_loopw [4] (fun iv wr => ∃ (k : Nat) (ds : Array Value), k ≤ 256 ∧ iv = .int .i64 (k : Int) ∧ wr.heap[b]? = some (.cells ds 76 (0, 0)) ∧ ds.size = 259 ∧ ds[0]? = cs[0]? ∧ ds[1]? = cs[1]? ∧ (∀ i, i < k → ds[3 + i]? = some (.int .u32 (f8 i : Nat))) ∧ Kp [b] w wr) (fun iv _ => 256 - (intOf iv).toNat)
  case atStart => exact ⟨0, cs, by omega, rfl, HB.out, HS.out, rfl, rfl, by omega, Kp.refl _ _⟩
  case round =>
    obtain ⟨k, ds, hk, rfl, hb, hs, h0, h1, hi, hkp⟩ := hrel
    have HB := Lib.hid hb
    have HS := Lib.hid hs
    have H0 := Lib.hid h0
    have H1 := Lib.hid h1
    have HI := Lib.hid hi
    have HKP := Lib.hid hkp
    clear h0 h1 hi hkp
    by_cases hkl : k < 256
    · have hkI : (k : Int) < 256 := by omega
      go_wp2_with fail
      go_loopw [3, 9] (fun n iv wq => ∃ j : Nat, j ≤ 8 ∧ iv = .int .i64 (j : Int) ∧ n = .int .u32 (itf j k : Nat) ∧ wq = wr) (fun _ iv _ => 8 - (intOf iv).toNat)
      case atStart => exact ⟨0, by omega, rfl, rfl, rfl⟩
      case round =>
        obtain ⟨j, hj, rfl, rfl, rfl⟩ := hrel
        by_cases hjl : j < 8
        · have hjI : (j : Int) < 8 := by omega
          have hm : itf j k < 4294967296 := itf_lt j (by omega)
          go_wp2_with fail
          go_roundw
          case rel =>
            refine ⟨j + 1, by omega, by go_num, ?_, trivial⟩
            rw [step_val hm]
            rfl
          case measure => simp [intOf]; omega
        · obtain rfl : j = 8 := by omega
          rw [itf8]
          obtain ⟨x, hx⟩ : ∃ x, ds[3 + k]? = some x := ⟨_, Array.getElem?_eq_getElem (by omega)⟩
          have f0 := heap_frozen hb (3 + k)
          have c0 : wr.cell? ⟨b, 3 + k, none⟩ = some x := (heap_cell hb (3 + k)).trans hx
          go_wp2_with fail
          have hst := heap_setCell_same wr b (3 + k) ds 76 (.int .u32 (f8 k : Nat)) hb
          have hk2 : Kp [b] wr (wr.setCell ⟨b, 3 + k, none⟩ (.int .u32 (f8 k : Nat))) := Kp.store b (3 + k) _ (by simp)
          go_roundw
          case rel =>
            refine ⟨k + 1, _, by omega, by go_num, hst, by rw [Array.size_setIfInBounds]; exact hs, ?_, ?_, ?_, HKP.out.trans hk2 (Sub.refl _ _)⟩
            · rw [Array.getElem?_setIfInBounds_ne (by omega)]; exact H0.out
            · rw [Array.getElem?_setIfInBounds_ne (by omega)]; exact H1.out
            · intro i hi
              by_cases e : i = k
              · subst e
                exact Array.getElem?_setIfInBounds_self_of_lt (by omega)
              · rw [Array.getElem?_setIfInBounds_ne (by omega)]
                exact HI.out i (by omega)
          case measure => simp [intOf]; omega
    · obtain rfl : k = 256 := by omega
      go_wp2_with fail
      go_end0
      exact ⟨rfl, ds, hb, hs, H0.out, H1.out, HI.out, HKP.out⟩
/-- Behind Do: the sums are there. -/
def Filled (b : Nat) (w w' : World) : Prop := (∃ ds, w'.heap[b]? = some (.cells ds 76 (0, 0)) ∧ TabC ds ∧ ds[0]? = some (.int .u32 1)) ∧ Kp [b] w w'
set_option maxHeartbeats 4000000 in
theorem slow_any (b : Nat) (cs : Array Value) (w : World) (hb : w.heap[b]? = some (.cells cs 76 (0, 0))) (hs : cs.size = 259) (h0 : cs[0]? = some (.int .u32 0)) (h1 : cs[1]? = some (.int .i32 0)) :
    Calls Try.prog 60 #[.pointer (some ⟨b, 0, none⟩), .func (.func 56) #[.pointer (some ⟨b, 0, none⟩)] #[]] w fun e w' => e = .returned (.tuple #[]) ∧ Filled b w w' := by
  have c0 : w.cell? ⟨b, 0, none⟩ = some (.int .u32 0) := (heap_cell hb 0).trans h0
  have c1 : w.cell? ⟨b, 1, none⟩ = some (.int .i32 0) := (heap_cell hb 1).trans h1
  have f1 := heap_frozen hb 1
  have hb1 := heap_setCell_same w b 1 cs 76 (.int .i32 1) hb
  have hk1 : Kp [b] w (w.setCell ⟨b, 1, none⟩ (.int .i32 1)) := Kp.store b 1 _ (by simp)
  have hl := run_call_load (P := Try.prog) Try.func61 (by kernel_rfl) (by kernel_rfl) (by kernel_rfl) .u32 (by kernel_rfl) (w := w.setCell ⟨b, 1, none⟩ (.int .i32 1)) (a := ⟨b, 0, none⟩) (x := 0) ((heap_cell hb1 0).trans (by rw [Array.getElem?_setIfInBounds_ne (by decide)]; exact h0))
  have hnot : ∀ (x : Bool) (w : World), (Op.unary .not (.bool x)).run Try.prog w = .ok (.bool (!x)) w := fun _ _ => rfl
  have HB := Lib.hid hb1
  go_enter_defers Try.func60, Try.ntmps60
  go_wp2_with (first | (go_at_call 62; refine (lock_free ⟨b, 1, none⟩ _ c1 f1).mono ?_; rintro e w' ⟨rfl, rfl⟩) | (go_at_call 59; go_in))
  refine (fill_any b _ _ hb1 (by rw [Array.size_setIfInBounds]; exact hs)).mono ?_
  rintro e v ⟨rfl, ds, hd, hds, g0, g1, gt, hk2⟩
  rw [Array.getElem?_setIfInBounds_ne (by decide), h0] at g0
  rw [Array.getElem?_setIfInBounds_self_of_lt (by omega)] at g1
  have hd2 := heap_setCell_same v.drew b 0 ds 76 (.int .u32 1) hd
  have hd3 := heap_setCell_same (v.drew.setCell ⟨b, 0, none⟩ (.int .u32 1)) b 1 _ 76 (.int .i32 0) hd2
  have e0 : (ds.setIfInBounds 0 (.int .u32 1))[1]? = some (.int .i32 1) := by rw [Array.getElem?_setIfInBounds_ne (by decide)]; exact g1
  have hk3 : Kp [b] v (v.drew.setCell ⟨b, 0, none⟩ (.int .u32 1)) := (Kp.of_ext (L := [b]) (Ext.drew v)).trans (Kp.store b 0 _ (by simp)) (Sub.refl _ _)
  have hk4 : Kp [b] (v.drew.setCell ⟨b, 0, none⟩ (.int .u32 1)) ((v.drew.setCell ⟨b, 0, none⟩ (.int .u32 1)).setCell ⟨b, 1, none⟩ (.int .i32 0)) := Kp.store b 1 _ (by simp)
  have hpost : Filled b w ((v.drew.setCell ⟨b, 0, none⟩ (.int .u32 1)).setCell ⟨b, 1, none⟩ (.int .i32 0)) := by
    refine ⟨⟨_, hd3, ⟨by rw [Array.size_setIfInBounds, Array.size_setIfInBounds]; exact hds, Array.getElem?_setIfInBounds_self_of_lt (by rw [Array.size_setIfInBounds]; omega), .inr ⟨?_, fun i hi => ?_⟩⟩, ?_⟩, ((hk1.trans hk2 (Sub.refl _ _)).trans hk3 (Sub.refl _ _)).trans hk4 (Sub.refl _ _)⟩
    · rw [Array.getElem?_setIfInBounds_ne (by decide)]; exact Array.getElem?_setIfInBounds_self_of_lt (by omega)
    · rw [Array.getElem?_setIfInBounds_ne (by omega), Array.getElem?_setIfInBounds_ne (by omega)]; exact gt i hi
    · rw [Array.getElem?_setIfInBounds_ne (by decide)]; exact Array.getElem?_setIfInBounds_self_of_lt (by omega)
  have HP := Lib.hid hpost
  have HD := Lib.hid hd
  have HD2 := Lib.hid hd2
  clear hd3 hk3 hk4 hpost hk2 gt hd hd2
  go_wp2_with fail
  refine leaves_cons (f := 64) (args := #[.pointer (some ⟨b, 0, none⟩), .bool true]) (by simp) (by simp [go_sem]) ?_
  refine (store_deferred ⟨b, 0, none⟩ (.int .u32 0) .returning v ((heap_cell HD.out 0).trans g0) (heap_frozen HD.out 0)).mono ?_
  rintro e u' w'' ⟨rfl, rfl, rfl⟩
  refine leaves_cons (f := 63) (args := #[.pointer (some ⟨b, 1, none⟩)]) (by simp [settle]) (by simp [go_sem]) ?_
  refine (unlock_deferred ⟨b, 1, none⟩ _ _ ((heap_cell HD2.out 1).trans e0) (heap_frozen HD2.out 1)).mono ?_
  rintro e u' w'' ⟨rfl, rfl, rfl⟩
  simp [Leaves, settle, results, Try.results60]
  exact HP.out
set_option maxHeartbeats 4000000 in
theorem do_any (b : Nat) (w : World) (h : TabAt w b) :
    Calls Try.prog 55 #[.pointer (some ⟨b, 0, none⟩), .func (.func 56) #[.pointer (some ⟨b, 0, none⟩)] #[]] w fun e w' => e = .returned (.tuple #[]) ∧ Filled b w w' := by
  obtain ⟨cs, hb, hs, h1, h0⟩ := h
  have hnot : ∀ (x : Bool) (w : World), (Op.unary .not (.bool x)).run Try.prog w = .ok (.bool (!x)) w := fun _ _ => rfl
  rcases h0 with h0 | ⟨h0, ht⟩
  · have hl := run_call_load (P := Try.prog) Try.func61 (by kernel_rfl) (by kernel_rfl) (by kernel_rfl) .u32 (by kernel_rfl) ((heap_cell hb 0).trans h0)
    go_enter Try.func55, Try.ntmps55
    go_wp2_with (first | (go_at_call 60; refine (slow_any b cs w hb hs h0 h1).mono ?_; rintro e w' ⟨rfl, hf⟩) | (go_at_call 59; go_in))
    go_end0
    exact ⟨rfl, hf⟩
  · have hl := run_call_load (P := Try.prog) Try.func61 (by kernel_rfl) (by kernel_rfl) (by kernel_rfl) .u32 (by kernel_rfl) ((heap_cell hb 0).trans h0)
    have hf : Filled b w w := ⟨⟨cs, hb, ⟨hs, h1, .inr ⟨h0, ht⟩⟩, h0⟩, Kp.refl _ _⟩
    go_enter Try.func55, Try.ntmps55
    go_wp2_with (go_at_call 59; go_in)
    go_end0
    exact ⟨rfl, hf⟩
set_option maxHeartbeats 4000000 in
theorem sum_any (b : Nat) (s : ByteArray) (w : World) (h : TabAt w b) (hs : s.size ≤ 17179869184) :
    Calls Try.prog 35 #[.pointer (some ⟨b, 0, none⟩), .string s] w fun e w' => e = .returned (.int .u32 (crcL s.toList : Nat)) ∧ TabAt w' b ∧ Kp [b] w w' := by
  have hmf : ∀ (fn : Fn) (first cap : Array Value) (w : World), (Instr.makeFunc fn first cap).run Try.prog w = .ok (.func fn first cap) w := fun _ _ _ _ => rfl
  go_enter Try.func35, Try.ntmps35
  go_wp2_with fail
  refine (do_any b w h).mono ?_
  rintro e v ⟨rfl, ⟨ds, hd, ht, h0⟩, hk⟩
  obtain ⟨cc, hcc, hbt⟩ := bytes_new v s hs
  have hconv := run_bytes_of_string (P := Try.prog) v 9 50 5 s Try.underlying9 Try.underlying50 Try.underlying5
  rw [hcc] at hconv
  have hx1 : Ext v (v.drew.alloc (.cells (bytesRow s cc) 5 ((bytesRow s cc).size, (bytesRow s cc).size + 1))) := (Ext.drew v).trans (Ext.alloc _ _)
  obtain ⟨v1, hv1⟩ : ∃ w1, w1 = v.drew.alloc (.cells (bytesRow s cc) 5 ((bytesRow s cc).size, (bytesRow s cc).size + 1)) := ⟨_, rfl⟩
  rw [← hv1] at hconv hbt hx1
  obtain ⟨A1, n1, c1, e1, hl1, hc1, hm1, hr1⟩ := hbt.byt
  injection e1 with e1 e2 e3
  subst e1 e2 e3
  have HR := Lib.hid hr1
  have HD := Lib.hid ((Kp.of_ext (L := []) hx1).heap hd (by simp))
  have HT := Lib.hid ht
  have HK := Lib.hid (hk.then hx1)
  have HL : Hid (s.toList.length = s.size) := Lib.hid (size_list s)
  obtain ⟨_, _, ht0⟩ := ht
  have htt : ∀ i, i < 256 → ds[3 + i]? = some (.int .u32 (f8 i : Nat)) := by
    rcases ht0 with ht0 | ht0
    · rw [h0] at ht0; cases ht0
    · exact ht0.2
  have HTT := Lib.hid htt
  clear hbt hr1 hd ht0 htt h0 hk hv1 hcc hx1 hl1
  generalize v.heap.size = q at hconv HR
  have hszI : (s.size : Int) ≤ 17179869184 := by omega
  go_wp2_with fail
  go_loopw [5, 17] (fun n iv wq => ∃ k : Nat, k ≤ s.size ∧ iv = .int .i64 (k : Int) ∧ n = .int .u32 ((s.toList.take k).foldl st 4294967295 : Nat) ∧ wq = v1) (fun _ iv _ => s.size - (intOf iv).toNat)
  case atStart => exact ⟨0, by omega, rfl, rfl, rfl⟩
  case round =>
    obtain ⟨k, hk, rfl, rfl, rfl⟩ := hrel
    by_cases hkl : k < s.size
    · have hkI : (k : Int) < (s.size : Int) := by omega
      obtain ⟨c, hc⟩ : ∃ c, s.toList[k]? = some c := ⟨_, List.getElem?_eq_getElem (by rw [HL.out]; exact hkl)⟩
      have hst : (s.toList.take (k + 1)).foldl st 4294967295 = st ((s.toList.take k).foldl st 4294967295) c := by
        rw [List.take_add_one, hc, List.foldl_append]; rfl
      have HST := Lib.hid hst
      have hn := run_lt (s.toList.take k) 4294967295 (by decide)
      obtain ⟨ad, ea, hcell⟩ := HR.out.some_ (by rw [List.length_map, HL.out]; omega)
      injection ea with ea
      subst ea
      have c0 := hcell k (byteV c) (by rw [List.getElem?_map, hc]; rfl)
      rw [add_at] at c0
      simp only [byteV] at c0
      generalize (s.toList.take k).foldl st 4294967295 = n at hst hn HST
      have hcl := c.toNat_lt
      have hxj : bits BinOp.xor IntKind.u8 ((n : Int) % 256) (c.toNat : Int) = (((n % 256) ^^^ c.toNat : Nat) : Int) := by
        have := u8_xor_nat (n % 256) c.toNat (by omega) (by omega)
        rwa [Int.natCast_emod] at this
      have hjl : (n % 256) ^^^ c.toNat < 256 := Nat.xor_lt_two_pow (n := 8) (by omega) (by omega)
      have hse : bits BinOp.xor IntKind.u32 ((n : Int) / 256) ((f8 ((n % 256) ^^^ c.toNat) : Nat) : Int) = ((st n c : Nat) : Int) := by
        have e1 : (n : Int) / 256 = ((n / 256 : Nat) : Int) := by omega
        rw [e1, u32_xor_nat _ _ (by omega) (f8_lt (by omega)), step_eq]
        rfl
      have HSE := Lib.hid hse
      generalize ((n % 256) ^^^ c.toNat) = j at hxj hjl hse HSE
      have c1 := (heap_cell HD.out (3 + j)).trans (HTT.out j hjl)
      have hjI : (j : Int) < 256 := by omega
      clear hst hc hcell hse
      go_wp2_with fail
      go_roundw
      case rel => exact ⟨k + 1, by omega, by go_num, by rw [HST.out, HSE.out], trivial⟩
      case measure => simp [intOf]; omega
    · obtain rfl : k = s.size := by omega
      rw [List.take_of_length_le (by rw [HL.out]; exact Nat.le_refl _)]
      have hn := run_lt s.toList 4294967295 (by decide)
      have hcr : crcL s.toList = 4294967295 - s.toList.foldl st 4294967295 := rfl
      generalize s.toList.foldl st 4294967295 = n at hn hcr ⊢
      have hn2 := u32_ones n hn
      go_wp2_with fail
      go_ret
      exact ⟨rfl, ⟨ds, HD.out, HT.out⟩, HK.out⟩
end Go.Proofs.Ytdndeggognfcaaa
