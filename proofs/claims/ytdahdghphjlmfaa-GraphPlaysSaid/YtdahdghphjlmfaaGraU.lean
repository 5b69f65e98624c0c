/- The walks of package graph: the rule into a key; dropping. -/
import Derived.Test.YtdahdghphjlmfaaGraV
import Derived.StillTailTactics
namespace Go.Proofs.Ytdahdghphjlmfaa
open Go.RowKit Sets Gra
set_option linter.unusedVariables false

theorem ruleV_inj {a b : Rule} (h : ruleV a = ruleV b) : a = b := by
  obtain ⟨a1, a2, a3, a4, a5⟩ := a
  obtain ⟨b1, b2, b3, b4, b5⟩ := b
  simp [ruleV] at h
  obtain ⟨rfl, rfl, rfl, rfl, rfl⟩ := h
  rfl
theorem Try.strK : Ke Try.prog 9 Value.string okS := strKe Try.underlying9
theorem Try.zeroRule (w : World) : (zeroValue 31).run Try.prog w = .ok (ruleV zeroR) w := by kernel_rfl

/-- What the map holds at a key. -/
theorem graph_lkp {L : List Rule} {l : List (ByteArray × Value)} (hp : l.Perm (L.map fun r => (r.dst, ruleV r))) (hn : (l.map (·.1)).Nodup) (hok : Ok L) (s : ByteArray) : lkp l s = (intoL L s).map ruleV := by
  cases hi : intoL L s with
  | none =>
    rw [Option.map_none, lkp_none_iff]
    intro p hpm
    obtain ⟨r, hr, rfl⟩ := List.mem_map.1 (hp.mem_iff.1 hpm)
    exact intoL_none hi r hr
  | some r =>
    obtain ⟨hr, rfl⟩ := intoL_mem hi
    exact lkp_some hn (hp.mem_iff.2 (List.mem_map.2 ⟨r, hr, rfl⟩))
def intoV (L : List Rule) (s : ByteArray) : Rule := (intoL L s).getD zeroR
/-- The look-up in a graph's map. -/
theorem graph_lookup {B g : Nat} {w : World} {L : List Rule} (h : GraphAt B w g L) : ∃ b, w.cell? ⟨g, 0, none⟩ = some (.map (some b)) ∧
    ∀ (s : ByteArray) (hs : s.size ≤ 9223372036854775807) (w' : World) (hw : Ext w w') , (Instr.lookup 60 (.map (some b)) (.string s) true).run Try.prog w' = .ok (.tuple #[ruleV (intoV L s), .bool (intoL L s).isSome]) w' ∧
      (Instr.lookup 60 (.map (some b)) (.string s) false).run Try.prog w' = .ok (ruleV (intoV L s)) w' := by
  obtain ⟨b, l, h1, h2, h3, h4, h5, h6⟩ := h
  refine ⟨b, heap_cell h1 0, fun s hs w' hw => ?_⟩
  have hl := graph_lkp h3 h2.nodup h6 s
  have e : (lkp l s).getD (ruleV zeroR) = ruleV (intoV L s) := by
    rw [hl]
    unfold intoV
    cases intoL L s <;> rfl
  have e2 : (lkp l s).isSome = (intoL L s).isSome := by rw [hl]; cases intoL L s <;> rfl
  have hb : w'.heap[b]? = w.heap[b]? := hw.block b h2.lt
  have g1 := h2.lookup Try.strK Try.underlying60 Try.zeroRule s hs w' hb true
  have g2 := h2.lookup Try.strK Try.underlying60 Try.zeroRule s hs w' hb false
  rw [e, e2] at g1
  rw [e] at g2
  exact ⟨g1, g2⟩

theorem into_any (B g : Nat) (L : List Rule) (s : ByteArray) (w : World) (h : GraphAt B w g L) (hs : s.size ≤ 9223372036854775807) :
    Calls Try.prog 20 #[.pointer (some ⟨g, 0, none⟩), .string s] w fun e w' => e = .returned (.tuple #[ruleV (intoV L s), .bool (intoL L s).isSome]) ∧ Ext w w' := by
  obtain ⟨b, c0, hlk⟩ := graph_lookup h
  have hl := (hlk s hs (w.alloc (.cells #[.string ⟨#[]⟩, .string ⟨#[]⟩, .int .i64 0, .int .i64 0, .int .i64 0] 31)) (Ext.alloc w _)).1
  have hlt := World.block_lt_of_cell? w _ c0
  have hex : ∃ src dst kind size align, ruleV (intoV L s) = .agg #[.string src, .string dst, .int .i64 kind, .int .i64 size, .int .i64 align] := ⟨_, _, _, _, _, rfl⟩
  obtain ⟨src, dst, kind, size, align, hv⟩ := hex
  rw [hv] at hl ⊢
  clear h hlk hv
  go_enter Try.func20, Try.ntmps20
  go_wp2_with fail
  exact bodyPost_ret (v := .tuple #[.agg #[.string src, .string dst, .int .i64 kind, .int .i64 size, .int .i64 align], .bool (intoL L s).isSome]) (by simp [results, Try.results20, go_sem]) rfl ⟨rfl, (Ext.alloc w _).trans (Ext.alloc _ _)⟩

/-- Taking a rule out of a graph's map. -/
theorem graph_delete {B g : Nat} {w : World} {L : List Rule} (h : GraphAt B w g L) : ∃ b, w.cell? ⟨g, 0, none⟩ = some (.map (some b)) ∧ B ≤ b ∧
    ∀ (s : ByteArray) (hs : s.size ≤ 9223372036854775807) (w1 : World) (hw : Ext w w1), ∃ w2, (∀ ty, (Builtin.delete_ #[60, 9] ty #[.map (some b), .string s]).run Try.prog w1 = .ok (.tuple #[]) w2) ∧ GraphAt B w2 g (L.filter fun r => decide (r.dst ≠ s)) ∧ Kp [b] w1 w2 ∧ Cm w1 w2 := by
  obtain ⟨b, l, h1, h2, h3, h4, h5, h6⟩ := h
  refine ⟨b, heap_cell h1 0, h4, fun s hs w1 hw => ?_⟩
  have hm1 := h2.ext hw
  obtain ⟨w2, hrun, hm2, hk⟩ := hm1.delete Try.strK Try.underlying60 s hs 0
  have hcm := Cm.of_map hk hm1
  refine ⟨w2, fun ty => hrun, ⟨b, _, hcm.cells _ _ _ _ ((Kp.of_ext (L := []) hw).heap h1 (by simp)), hm2, ?_, h4, h5, h6.filter _⟩, hk, hcm⟩
  unfold delL
  refine (h3.filter _).trans ?_
  rw [List.filter_map]
  exact List.Perm.refl _

theorem drop_filter {L : List Rule} (h : Ok L) {r : Rule} (hr : r ∈ L) : (L.filter fun q => decide (q.dst ≠ r.dst)) = L.filter fun q => decide (q ≠ r) := by
  refine List.filter_congr fun q hq => ?_
  by_cases e : q = r
  · subst e
    simp
  · have : q.dst ≠ r.dst := fun e2 => e (h.inj hq hr e2)
    simp [e, this]

/-- What a call leaves of a graph: cells are as they were; only blocks from B on have changed. -/
structure GDid (B : Nat) (w w' : World) (g : Nat) (L : List Rule) : Prop where
  at_ : GraphAt B w' g L
  cm : Cm w w'
  below : Below B w w'
  kp : ∃ b, w.cell? ⟨g, 0, none⟩ = some (.map (some b)) ∧ Kp [b] w w'
theorem GDid.of_ext {B g : Nat} {w w' : World} {L : List Rule} (h : GraphAt B w g L) (hx : Ext w w') (hB : B ≤ w.heap.size) : GDid B w w' g L := ⟨h.ext hx, Cm.of_ext hx, hx.to_below hB, (graph_delete h).imp fun _ k => ⟨k.1, Kp.of_ext hx⟩⟩
theorem GDid.trans {B g : Nat} {w w' w'' : World} {L L' : List Rule} (h : GDid B w w' g L) (k : GDid B w' w'' g L') : GDid B w w'' g L' := by
  refine ⟨k.at_, h.cm.trans k.cm, h.below.trans k.below, ?_⟩
  obtain ⟨b, hb, h1⟩ := h.kp
  obtain ⟨b', hb', h2⟩ := k.kp
  have := h.cm.cell hb
  rw [hb'] at this
  injection this with e; injection e with e; injection e with e
  subst e
  exact ⟨_, hb, h1.and h2⟩
theorem Kp.to_below {B b : Nat} {w w' : World} (h : Kp [b] w w') (hb : B ≤ b) (hB : B ≤ w.heap.size) : Below B w w' := h.below (Below.refl _ _) (by simpa using hb) hB

theorem Cm.new {w w2 w3 : World} {k0 : Nat} (h : Cm w w2) (hk : Kp [k0] w2 w3) (h0 : w.heap.size ≤ k0) : Cm w w3 :=
  ⟨hk.os.trans h.os, hk.tape.trans h.tape, hk.output.trans h.output, Nat.le_trans h.size hk.size, fun k c e f hc => hk.heap (h.cells k c e f hc) (by
    have := (Array.getElem?_eq_some_iff.1 hc).1
    simp
    omega)⟩
theorem GraphAt.kp {B g k0 : Nat} {w w' : World} {L : List Rule} (h : GraphAt B w g L) (hk : Kp [k0] w w') {c : Array Value} {f : Nat × Nat} (hc : w.heap[k0]? = some (.cells c 31 f)) : GraphAt B w' g L := by
  obtain ⟨b, l, h1, h2, h3, h4, h5, h6⟩ := h
  exact ⟨b, l, hk.heap h1 (by simpa using blocks_ne h1 hc (by decide)), h2.kp hk (by simpa using (h2.ne hc).symm), h3, h4, h5, h6⟩
set_option maxHeartbeats 1000000 in
theorem drop_any (B g : Nat) (L : List Rule) (src dst : ByteArray) (w : World) (h : GraphAt B w g L) (hs : src.size ≤ 9223372036854775807) (hd : dst.size ≤ 9223372036854775807) (hB : B ≤ w.heap.size) :
    Calls Try.prog 15 #[.pointer (some ⟨g, 0, none⟩), .string src, .string dst] w fun e w' => e = .returned (.tuple #[ruleV (dropR L src dst).1.1, .int .i64 (dropR L src dst).1.2]) ∧ GDid B w w' g (dropR L src dst).2 := by
  obtain ⟨b, c0, hlk⟩ := graph_lookup h
  obtain ⟨b', c0', hBb, hdel⟩ := graph_delete h
  obtain rfl : b = b' := by rw [c0] at c0'; injection c0' with e; injection e with e; injection e
  have hlt := World.block_lt_of_cell? w _ c0
  have hl := (hlk dst hd (w.alloc (.cells #[.string ⟨#[]⟩, .string ⟨#[]⟩, .int .i64 0, .int .i64 0, .int .i64 0] 31)) (Ext.alloc w _)).1
  have H := Lib.hid h
  have HD := Lib.hid hdel
  clear h hlk hdel c0'
  cases hi : intoL L dst with
  | none =>
    have hr : dropR L src dst = ((zeroR, 5), L) := by unfold dropR; rw [hi]
    rw [hr]
    have hv : intoV L dst = zeroR := by unfold intoV; rw [hi]; rfl
    rw [hi, hv] at hl
    clear hr hv hi
    unfold ruleV zeroR at *
    go_enter Try.func15, Try.ntmps15
    go_wp2_with fail
    exact bodyPost_ret (v := .tuple #[.agg #[.string ⟨#[]⟩, .string ⟨#[]⟩, .int .i64 0, .int .i64 0, .int .i64 0], .int .i64 5]) (by simp [results, Try.results15, go_sem]) rfl ⟨rfl, GDid.of_ext H.out ((Ext.alloc w _).trans (Ext.alloc _ _)) hB⟩
  | some r =>
    have hv : intoV L dst = r := by unfold intoV; rw [hi]; rfl
    rw [hi, hv] at hl
    obtain ⟨hm, he⟩ := intoL_mem hi
    by_cases hne : r.src = src
    · have hr : dropR L src dst = ((r, 0), L.filter fun q => decide (q ≠ r)) := by unfold dropR; rw [hi]; simp [hne]
      rw [hr]
      obtain ⟨w2, hrun, hg2, hk2, hc2⟩ := HD.out dst hd ((w.alloc (.cells #[.string ⟨#[]⟩, .string ⟨#[]⟩, .int .i64 0, .int .i64 0, .int .i64 0] 31)).alloc (.cells #[.string r.src, .string r.dst, .int .i64 r.kind, .int .i64 r.size, .int .i64 r.align] 31)) ((Ext.alloc w _).trans (Ext.alloc _ _))
      rw [← he, drop_filter H.out.ok hm] at hg2
      obtain ⟨rs, rd, rk, rz, ra⟩ := r
      simp only at hne he hrun hl
      subst hne he
      have hz1 := hc2.cells w.heap.size _ _ _ ((Kp.of_ext (L := []) (Ext.alloc _ _)).heap (heap_alloc_new w (.cells #[.string ⟨#[]⟩, .string ⟨#[]⟩, .int .i64 0, .int .i64 0, .int .i64 0] 31)) (by simp))
      have c1 := heap_cell hz1 0
      have c2 := heap_cell hz1 1
      have c3 := heap_cell hz1 2
      have c4 := heap_cell hz1 3
      have c5 := heap_cell hz1 4
      have f1 := heap_frozen hz1 0
      have f2 := heap_frozen hz1 1
      have f3 := heap_frozen hz1 2
      have f4 := heap_frozen hz1 3
      have f5 := heap_frozen hz1 4
      have hz2 : w2.heap[w.heap.size + 1]? = some (.cells #[.string rs, .string rd, .int .i64 rk, .int .i64 rz, .int .i64 ra] 31 (0, 0)) := hc2.cells _ _ _ _ (by
        have := heap_alloc_new (w.alloc (.cells #[.string ⟨#[]⟩, .string ⟨#[]⟩, .int .i64 0, .int .i64 0, .int .i64 0] 31)) (.cells #[.string rs, .string rd, .int .i64 rk, .int .i64 rz, .int .i64 ra] 31)
        simpa using this)
      have d1 := heap_cell hz2 0
      have d2 := heap_cell hz2 1
      have d3 := heap_cell hz2 2
      have d4 := heap_cell hz2 3
      have d5 := heap_cell hz2 4
      have HZ1 := Lib.hid hz1
      have HG2 := Lib.hid hg2
      have HK2 := Lib.hid hk2
      have HC2 := Lib.hid hc2
      have HM := Lib.hid hm
      clear hr hv hm hi hz1 hz2 hg2 hk2 hc2
      unfold ruleV at hl ⊢
      simp only at hl
      go_enter Try.func15, Try.ntmps15
      go_wp2_with fail
      have s1 := heap_setCell_same _ w.heap.size 0 _ _ (.string rs) HZ1.out
      simp only [List.setIfInBounds_toArray, List.set_cons_zero] at s1
      have s2 := heap_setCell_same _ w.heap.size 1 _ _ (.string rd) s1
      simp only [List.setIfInBounds_toArray, List.set_cons_zero, List.set_cons_succ] at s2
      have s3 := heap_setCell_same _ w.heap.size 2 _ _ (.int .i64 rk) s2
      simp only [List.setIfInBounds_toArray, List.set_cons_zero, List.set_cons_succ] at s3
      have s4 := heap_setCell_same _ w.heap.size 3 _ _ (.int .i64 rz) s3
      simp only [List.setIfInBounds_toArray, List.set_cons_zero, List.set_cons_succ] at s4
      have s5 := heap_setCell_same _ w.heap.size 4 _ _ (.int .i64 ra) s4
      simp only [List.setIfInBounds_toArray, List.set_cons_zero, List.set_cons_succ] at s5
      have hk : Kp [w.heap.size] w2 (((((w2.setCell ⟨w.heap.size, 0, none⟩ (.string rs)).setCell ⟨w.heap.size, 1, none⟩ (.string rd)).setCell ⟨w.heap.size, 2, none⟩ (.int .i64 rk)).setCell ⟨w.heap.size, 3, none⟩ (.int .i64 rz)).setCell ⟨w.heap.size, 4, none⟩ (.int .i64 ra)) :=
        ((((Kp.store _ 0 _ (by simp) : Kp [w.heap.size] _ _).and (Kp.store _ 1 _ (by simp))).and (Kp.store _ 2 _ (by simp))).and (Kp.store _ 3 _ (by simp))).and (Kp.store _ 4 _ (by simp))
      generalize ((((w2.setCell ⟨w.heap.size, 0, none⟩ (.string rs)).setCell ⟨w.heap.size, 1, none⟩ (.string rd)).setCell ⟨w.heap.size, 2, none⟩ (.int .i64 rk)).setCell ⟨w.heap.size, 3, none⟩ (.int .i64 rz)).setCell ⟨w.heap.size, 4, none⟩ (.int .i64 ra) = w3 at s5 hk ⊢
      have q1 : w3.cell? ⟨w.heap.size, 0, none⟩ = some (.string rs) := heap_cell s5 0
      have q2 : w3.cell? ⟨w.heap.size, 1, none⟩ = some (.string rd) := heap_cell s5 1
      have q3 : w3.cell? ⟨w.heap.size, 2, none⟩ = some (.int .i64 rk) := heap_cell s5 2
      have q4 : w3.cell? ⟨w.heap.size, 3, none⟩ = some (.int .i64 rz) := heap_cell s5 3
      have q5 : w3.cell? ⟨w.heap.size, 4, none⟩ = some (.int .i64 ra) := heap_cell s5 4
      have hxa : Ext w ((w.alloc (.cells #[.string ⟨#[]⟩, .string ⟨#[]⟩, .int .i64 0, .int .i64 0, .int .i64 0] 31)).alloc (.cells #[.string rs, .string rd, .int .i64 rk, .int .i64 rz, .int .i64 ra] 31)) := (Ext.alloc w _).trans (Ext.alloc _ _)
      refine bodyPost_ret (v := .tuple #[.agg #[.string rs, .string rd, .int .i64 rk, .int .i64 rz, .int .i64 ra], .int .i64 0]) (by simp [results, Try.results15, go_sem, q1, q2, q3, q4, q5]) rfl ⟨rfl, by simpa using HG2.out.kp hk HZ1.out, ((Cm.of_ext hxa).trans HC2.out).new hk (Nat.le_refl _), ?_, ⟨b, c0, ((Kp.of_ext hxa : Kp [b] _ _).and HK2.out).trans hk (fun k hk => by simp at hk; subst hk; exact .inr (Nat.le_refl _))⟩⟩
      exact hk.below (HK2.out.below (hxa.to_below hB) (by simpa using hBb) (Nat.le_trans hB hxa.size)) (by simpa using hB) (Nat.le_trans hB (Nat.le_trans hxa.size HC2.out.size))
    · have hr : dropR L src dst = ((zeroR, 5), L) := by unfold dropR; rw [hi]; simp [hne]
      rw [hr]
      obtain ⟨rs, rd, rk, rz, ra⟩ := r
      simp only at hne he hl
      have hn1 : rs.toList ≠ src.toList := fun e => hne (text_ext e)
      have hn2 : (rs.toList != src.toList) = true := by simpa using hn1
      have hn3 : (rs.toList == src.toList) = false := by simpa using hn1
      clear hr hv hm hi hne hn1 he
      unfold ruleV zeroR at *
      simp only at hl
      go_enter Try.func15, Try.ntmps15
      go_wp2_with fail
      exact bodyPost_ret (v := .tuple #[.agg #[.string ⟨#[]⟩, .string ⟨#[]⟩, .int .i64 0, .int .i64 0, .int .i64 0], .int .i64 5]) (by simp [results, Try.results15, go_sem]) rfl ⟨rfl, GDid.of_ext H.out ((Ext.alloc w _).trans (Ext.alloc _ _)) hB⟩
end Go.Proofs.Ytdahdghphjlmfaa
