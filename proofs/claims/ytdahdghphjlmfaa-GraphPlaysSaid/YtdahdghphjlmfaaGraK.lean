/- What layer 11's known counts on. -/
import Derived.Test.YtdahdghphjlmfaaGraD
namespace Go.Proofs.Ytdahdghphjlmfaa
open Go.RowKit Sets Gra
set_option linter.unusedVariables false

def kab : Rule := ⟨⟨#[97]⟩, ⟨#[98]⟩, 1, 10, 0⟩
def kbc : Rule := ⟨⟨#[98]⟩, ⟨#[99]⟩, 1, 10, 0⟩
def kac : Rule := ⟨⟨#[97]⟩, ⟨#[99]⟩, 2, 5, 4⟩
def kdc : Rule := ⟨⟨#[100]⟩, ⟨#[99]⟩, 1, 10, 0⟩
def kaa : Rule := ⟨⟨#[97]⟩, ⟨#[97]⟩, 1, 10, 0⟩
def kda : Rule := ⟨⟨#[100]⟩, ⟨#[97]⟩, 1, 10, 0⟩
theorem k_lt : ltB (⟨#[98]⟩ : ByteArray) ⟨#[99]⟩ = true := by
  unfold ltB
  rw [Lib.toList_data, Lib.toList_data]
  decide
theorem k1 : addR [] kab = (0, [kab]) := by decide +kernel
theorem k2 : addR [kab] kbc = (10, [kab]) := by decide +kernel
theorem k3 : addR [kab] kac = (0, [kab, kac]) := by decide +kernel
theorem k4 : addR [kab, kac] kdc = (6, [kab, kac]) := by decide +kernel
theorem k5 : addR [kab, kac] kaa = (1, [kab, kac]) := by decide +kernel
theorem k6 : addR [kab, kac] kda = (10, [kab, kac]) := by decide +kernel
theorem k7 : ofL [kab, kac] ⟨#[97]⟩ = [kab, kac] := by decide +kernel
theorem k8 : intoL [kab, kac] ⟨#[98]⟩ = some kab := by decide +kernel
theorem k9 : dropR [kab, kac] ⟨#[97]⟩ ⟨#[98]⟩ = ((kab, 0), [kac]) := by decide +kernel
theorem k10 : dropR [kac] ⟨#[97]⟩ ⟨#[98]⟩ = ((zeroR, 5), [kac]) := by decide +kernel
theorem k11 : [kac].filter (isAt ⟨#[99]⟩) = [kac] := by decide +kernel
theorem k12 : goneL [kac] ⟨#[99]⟩ = [] := by decide +kernel
theorem k13 : rightR kab = true := by decide +kernel
theorem k14 : rightR zeroR = false := by decide +kernel
theorem kOk (s d : ByteArray) (k z a : Int) (hs : s.size ≤ 1) (hd : d.size ≤ 1) (h1 : 0 ≤ k) (h2 : k ≤ 10) (h3 : 0 ≤ z) (h4 : z ≤ 10) (h5 : 0 ≤ a) (h6 : a ≤ 10) : RuleOk ⟨s, d, k, z, a⟩ := by
  constructor <;> dsimp only <;> omega
theorem kabOk : RuleOk kab := kOk _ _ _ _ _ (by decide) (by decide) (by decide) (by decide) (by decide) (by decide) (by decide) (by decide)
theorem kbcOk : RuleOk kbc := kOk _ _ _ _ _ (by decide) (by decide) (by decide) (by decide) (by decide) (by decide) (by decide) (by decide)
theorem kacOk : RuleOk kac := kOk _ _ _ _ _ (by decide) (by decide) (by decide) (by decide) (by decide) (by decide) (by decide) (by decide)
theorem kdcOk : RuleOk kdc := kOk _ _ _ _ _ (by decide) (by decide) (by decide) (by decide) (by decide) (by decide) (by decide) (by decide)
theorem kaaOk : RuleOk kaa := kOk _ _ _ _ _ (by decide) (by decide) (by decide) (by decide) (by decide) (by decide) (by decide) (by decide)
theorem kdaOk : RuleOk kda := kOk _ _ _ _ _ (by decide) (by decide) (by decide) (by decide) (by decide) (by decide) (by decide) (by decide)
theorem kzOk : RuleOk zeroR := kOk _ _ _ _ _ (by decide) (by decide) (by decide) (by decide) (by decide) (by decide) (by decide) (by decide)

/-- The graph, and a rule that lies by itself. -/
structure Kn (w : World) (p g : Nat) (v : World) (L : List Rule) : Prop where
  at_ : GraphAt w.heap.size v g L
  box : v.heap[p]? = some (.cells #[.string ⟨#[97]⟩, .string ⟨#[98]⟩, .int .i64 1, .int .i64 10, .int .i64 0] 31)
  below : Below w.heap.size w v
theorem Kn.did {w : World} {p g : Nat} {v v' : World} {L L' : List Rule} (h : Kn w p g v L) (k : GDid w.heap.size v v' g L') : Kn w p g v' L' := ⟨k.at_, k.cm.cells _ _ _ _ h.box, h.below.trans k.below⟩
theorem Kn.ext {w : World} {p g : Nat} {v v' : World} {L : List Rule} (h : Kn w p g v L) (k : Ext v v') : Kn w p g v' L := ⟨h.at_.ext k, (Cm.of_ext k).cells _ _ _ _ h.box, h.below.trans (k.to_below h.below.size)⟩
theorem Kn.cells {w : World} {p g : Nat} {v : World} {L : List Rule} (h : Kn w p g v L) : v.cell? ⟨p, 0, none⟩ = some (.string ⟨#[97]⟩) ∧ v.cell? ⟨p, 1, none⟩ = some (.string ⟨#[98]⟩) ∧ v.cell? ⟨p, 2, none⟩ = some (.int .i64 1) ∧ v.cell? ⟨p, 3, none⟩ = some (.int .i64 10) ∧ v.cell? ⟨p, 4, none⟩ = some (.int .i64 0) :=
  ⟨heap_cell h.box 0, heap_cell h.box 1, heap_cell h.box 2, heap_cell h.box 3, heap_cell h.box 4⟩
theorem k15 : intoV [kab, kac] ⟨#[98]⟩ = kab := by decide +kernel
/-- The same, with boxes that hold that rule and a row of two. -/
structure Km (w : World) (Q : List Nat) (g : Nat) (v : World) (L : List Rule) (ad : Addr) : Prop where
  at_ : GraphAt w.heap.size v g L
  bx : ∀ q ∈ Q, v.heap[q]? = some (.cells #[.string ⟨#[97]⟩, .string ⟨#[98]⟩, .int .i64 1, .int .i64 10, .int .i64 0] 31)
  below : Below w.heap.size w v
  row : Rd v (some ad) ([kab, kac].flatMap ruleC)
theorem Km.did {w : World} {Q : List Nat} {g : Nat} {v v' : World} {L L' : List Rule} {ad : Addr} (h : Km w Q g v L ad) (k : GDid w.heap.size v v' g L') : Km w Q g v' L' ad := ⟨k.at_, fun q hq => k.cm.cells _ _ _ _ (h.bx q hq), h.below.trans k.below, k.cm.rd h.row⟩
theorem Km.ext {w : World} {Q : List Nat} {g : Nat} {v v' : World} {L : List Rule} {ad : Addr} (h : Km w Q g v L ad) (k : Ext v v') : Km w Q g v' L ad := ⟨h.at_.ext k, fun q hq => (Cm.of_ext k).cells _ _ _ _ (h.bx q hq), h.below.trans (k.to_below h.below.size), (Cm.of_ext k).rd h.row⟩
theorem Km.more {w : World} {Q : List Nat} {g : Nat} {v : World} {L : List Rule} {ad : Addr} (h : Km w Q g v L ad) : Km w (v.heap.size :: Q) g (v.alloc (.cells #[.string ⟨#[97]⟩, .string ⟨#[98]⟩, .int .i64 1, .int .i64 10, .int .i64 0] 31)) L ad := by
  have k := h.ext (Ext.alloc v (.cells #[.string ⟨#[97]⟩, .string ⟨#[98]⟩, .int .i64 1, .int .i64 10, .int .i64 0] 31))
  refine ⟨k.at_, ?_, k.below, k.row⟩
  intro q hq
  rcases List.mem_cons.1 hq with rfl | hq
  · exact heap_alloc_new v _
  · exact k.bx q hq
theorem box_cells {v : World} {p : Nat} (h : v.heap[p]? = some (.cells #[.string ⟨#[97]⟩, .string ⟨#[98]⟩, .int .i64 1, .int .i64 10, .int .i64 0] 31)) : v.cell? ⟨p, 0, none⟩ = some (.string ⟨#[97]⟩) ∧ v.cell? ⟨p, 1, none⟩ = some (.string ⟨#[98]⟩) ∧ v.cell? ⟨p, 2, none⟩ = some (.int .i64 1) ∧ v.cell? ⟨p, 3, none⟩ = some (.int .i64 10) ∧ v.cell? ⟨p, 4, none⟩ = some (.int .i64 0) :=
  ⟨heap_cell h 0, heap_cell h 1, heap_cell h 2, heap_cell h 3, heap_cell h 4⟩
theorem row_cells {v : World} {ad : Addr} (h : Rd v (some ad) ([kab, kac].flatMap ruleC)) : v.cell? ad = some (.string ⟨#[97]⟩) ∧ v.cell? ⟨ad.block, ad.off + 1, none⟩ = some (.string ⟨#[98]⟩) ∧ v.cell? ⟨ad.block, ad.off + 2, none⟩ = some (.int .i64 1) ∧ v.cell? ⟨ad.block, ad.off + 3, none⟩ = some (.int .i64 10) ∧ v.cell? ⟨ad.block, ad.off + 4, none⟩ = some (.int .i64 0) := by
  have e : ad.add 0 = ad := by simp [Addr.add]
  have r0 := row_cell ruleC_len h 0 0 (x := kab) rfl rfl
  have r1 := row_field ruleC_len h 0 1 (by decide) (x := kab) rfl rfl
  have r2 := row_field ruleC_len h 0 2 (by decide) (x := kab) rfl rfl
  have r3 := row_field ruleC_len h 0 3 (by decide) (x := kab) rfl rfl
  have r4 := row_field ruleC_len h 0 4 (by decide) (x := kab) rfl rfl
  simp only [Nat.zero_mul, Nat.zero_add, e] at r0 r1 r2 r3 r4
  exact ⟨r0, r1, r2, r3, r4⟩
end Go.Proofs.Ytdahdghphjlmfaa
