/- Package resp's try walked: what a read panics with. -/
import Derived.Test.YtdbboooblbdihaaRspB
import Derived.Defers
import Derived.Recover
namespace Go.Proofs.Ytdbboooblbdihaa
open Go.RowKit
set_option linter.unusedVariables false
set_option linter.unusedSectionVars false
set_option linter.unusedSimpArgs false
set_option maxRecDepth 100000


theorem assert_fault (v : Value) (w : World) : (Instr.typeAssert (.iface 79 v) 20 79 true).run Try.prog w = .ok (.tuple #[v, .bool true]) w := by kernel_rfl
theorem catch_panicking (b : Nat) (x : Value) (c : Int) (older : List PanicEntry) (w : World) (hb : w.heap[b]? = some (.cells #[x] 41 (0, 0))) :
    CallsD Try.prog 44 #[.pointer (some ⟨b, 0, none⟩)] (.panicking (flt c :: older)) w fun e u' w' =>
      e = .returned (.tuple #[]) ∧ u' = .panicking ({ v := .iface 79 (.agg #[.int .i64 c]), recovered := true } :: older) ∧ Kp [b] w w' ∧ w'.heap[b]? = some (.cells #[.int .i64 c] 41 (0, 0)) := by
  have hta := assert_fault
  have hx := Ext.alloc w (.cells #[.int .i64 c] 79)
  have hb2 := (Kp.of_ext (L := []) hx).heap hb (by simp)
  have b0 := heap_cell hb2 0
  have g0 := heap_frozen hb2 0
  have hs := heap_setCell_same (w.alloc (.cells #[.int .i64 c] 79)) b 0 _ 41 (.int .i64 c) hb2
  refine callsD_of_wpS Try.func44 rfl fun c₀ cs hu => ?_
  apply wpS_seq
  apply wpS_region
  simp [wpOpsS, go_sem, recoverD, hu, Try.ntmps44, Exit.thenS, flt]
  refine wpS_of_wp ?_
  rw [show (#[Value.pointer (some { block := b, off := 0 })] ++ (Array.replicate 11 undef).setIfInBounds 3 (Value.iface 79 (Value.agg #[Value.int IntKind.i64 c]))) = #[Value.pointer (some { block := b, off := 0 }), undef, undef, undef, Value.iface 79 (Value.agg #[Value.int IntKind.i64 c]), undef, undef, undef, undef, undef, undef, undef] from rfl]
  go_wp2_with fail
  have hk : Kp [b] w ((w.alloc (.cells #[.int .i64 c] 79)).setCell ⟨b, 0, none⟩ (.int .i64 c)) := (Kp.of_ext hx).and (Kp.store b 0 _ (by simp))
  simp [bodyPostS, results, Try.results44]
  exact ⟨hk, hs⟩
theorem catch_idle (a : Addr) (w : World) :
    CallsD Try.prog 44 #[.pointer (some a)] .returning w fun e u' w' => e = .returned (.tuple #[]) ∧ u' = .returning ∧ w' = w := by
  refine callsD_of_wpS Try.func44 rfl fun c₀ cs hu => ?_
  apply wpS_seq
  apply wpS_region
  simp [wpOpsS, go_sem, recoverD, hu, Try.ntmps44, Exit.thenS]
  refine wpS_of_wp ?_
  rw [show (#[Value.pointer (some a)] ++ (Array.replicate 11 undef).setIfInBounds 3 Value.nilIface) = #[Value.pointer (some a), undef, undef, undef, Value.nilIface, undef, undef, undef, undef, undef, undef, undef] from rfl]
  go_wp2_with fail
  cases c₀
  simp_all [bodyPostS, results, Try.results44]
/-- What try leaves: the variable of its own error is block b. -/
def TryOut (L : List Nat) (G : World → Prop) (B : Int → World → Prop) (w : World) (e : Ending) (w' : World) : Prop :=
  ∃ w1 w2, Ext w w1 ∧ Kp L w1 w2 ∧ Kp [w.heap.size] w2 w' ∧ w.heap.size < w1.heap.size ∧ ((e = .returned (.int .i64 0) ∧ G w2) ∨ ∃ c, e = .returned (.int .i64 c) ∧ B c w2)
set_option maxHeartbeats 1000000 in
theorem try_feed (caps : Array Value) (L : List Nat) (G : World → Prop) (B : Int → World → Prop) (w : World) (hL : ∀ k ∈ L, k < w.heap.size)
    (hc : ∀ w1, Ext w w1 → w.heap.size < w1.heap.size → Calls Try.prog 30 caps w1 fun e w' => Kp L w1 w' ∧ ((e = .returned (.tuple #[]) ∧ G w') ∨ ∃ c, e = .panicked [flt c] ∧ B c w')) :
    Calls Try.prog 29 #[.func (.func 30) #[] caps] w (TryOut L G B w) := by
  have hmf : ∀ (fn : Fn) (first cap : Array Value) (w : World), (Instr.makeFunc fn first cap).run Try.prog w = .ok (.func fn first cap) w := fun _ _ _ _ => rfl
  have hx := Ext.alloc w (.cells #[.int .i64 0] 41)
  have hb := heap_alloc_new w (.cells #[.int .i64 0] 41 (0, 0))
  have HL := Lib.hid hL
  have hz : w.heap.size < (w.alloc (.cells #[.int .i64 0] 41)).heap.size := by simp
  have HC := Lib.hid (hc _ hx hz)
  go_enter_defers Try.func29, Try.ntmps29
  go_wp2_with fail
  generalize w.alloc (.cells #[.int .i64 0] 41) = w1 at hx hb HC hz ⊢
  obtain ⟨b, hbe⟩ : ∃ b, b = w.heap.size := ⟨_, rfl⟩
  rw [← hbe] at hb hz ⊢
  have HBE := Lib.hid hbe
  have HX := Lib.hid hx
  have HZ := Lib.hid hz
  have HB := Lib.hid hb
  clear hbe hx hz hb hc hL
  refine HC.out.mono ?_
  rintro e w2 ⟨hk, ⟨rfl, hg⟩ | ⟨c, rfl, hB⟩⟩
  · have hb2 := hk.heap HB.out (fun hm => by have := HL.out b hm; have := HBE.out; omega)
    have b0 := heap_cell hb2 0
    have g0 := heap_frozen hb2 0
    have hs := heap_setCell_same w2 b 0 _ 41 (.int .i64 0) hb2
    have HK := Lib.hid hk
    have HGG := Lib.hid hg
    clear hk hg
    go_wp2_with fail
    refine leaves_cons (f := 44) (args := #[.pointer (some ⟨b, 0, none⟩)]) (by simp) (by simp [go_sem]) ?_
    refine (catch_idle ⟨b, 0, none⟩ _).mono ?_
    rintro e u' w3 ⟨rfl, rfl, rfl⟩
    have b3 := heap_cell hs 0
    have hfin : TryOut L G B w (.returned (.int .i64 0)) (w2.setCell ⟨b, 0, none⟩ (.int .i64 0)) :=
      ⟨w1, w2, HX.out, HK.out, by rw [← HBE.out]; exact Kp.store b 0 _ (by simp), by rw [← HBE.out]; exact HZ.out, .inl ⟨rfl, HGG.out⟩⟩
    simp only [Leaves, settle]
    refine ⟨_, ?_, hfin⟩
    simp [results, Try.results29, go_sem, b3]
  · have hb2 := hk.heap HB.out (fun hm => by have := HL.out b hm; have := HBE.out; omega)
    refine leaves_cons (f := 44) (args := #[.pointer (some ⟨b, 0, none⟩)]) (by simp) (by simp [go_sem]) ?_
    refine (catch_panicking b (.int .i64 0) c [] w2 hb2).mono ?_
    rintro e u' w3 ⟨rfl, rfl, hk3, hb3⟩
    have b3 := heap_cell hb3 0
    have hfin : TryOut L G B w (.returned (.int .i64 c)) w3 := ⟨w1, w2, HX.out, hk, by rw [← HBE.out]; exact hk3, by rw [← HBE.out]; exact HZ.out, .inr ⟨c, rfl, hB⟩⟩
    simp only [Leaves, settle]
    refine ⟨_, ?_, hfin⟩
    simp [results, Try.results29, go_sem, b3]
end Go.Proofs.Ytdbboooblbdihaa
