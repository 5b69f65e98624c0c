/- Package index: Copy walked. -/
import Derived.Test.YtccjbmmhdbainaaIdxG
namespace Go.Proofs.Ytccjbmmhdbainaa
open Go.RowKit Sets
set_option linter.unusedVariables false
set_option maxRecDepth 100000
set_option linter.unusedSectionVars false
set_option linter.unusedSimpArgs false

theorem srt_pair {a : List Lab} (h : SrtA a.length a) : a.Pairwise fun x y => ltB x.1 y.1 = true := by
  rw [List.pairwise_iff_getElem]
  intro i j hi hj hij
  have := h i j hij hj
  unfold nmA at this
  rw [List.getD_eq_getElem?_getD, List.getD_eq_getElem?_getD, List.getElem?_eq_getElem hi, List.getElem?_eq_getElem hj] at this
  exact this
theorem srt_unique {a b : List Lab} (hp : a.Perm b) (ha : SrtA a.length a) (hb : SrtA b.length b) : a = b :=
  List.Perm.eq_of_pairwise (fun x y _ _ h1 h2 => absurd (lt_trans h1 h2) (by rw [lt_irrefl]; simp)) (srt_pair ha) (srt_pair hb) hp
theorem key_ok {s : ByteArray} (h : keyI s = true) : okS s := by
  unfold keyI at h
  simp at h
  unfold okS
  omega
theorem right_ok {l : List Lab} (h : rightI l = true) : (∀ y ∈ l, okL y) ∧ l.length ≤ 8 := by
  unfold rightI goodI at h
  simp only [Bool.and_eq_true, decide_eq_true_eq, List.all_eq_true] at h
  exact ⟨fun y hy => ⟨key_ok (h.1.1 y hy).1, key_ok (h.1.1 y hy).2⟩, h.2⟩
section
variable {K : List ByteArray} {G : ByteArray → Option (List Lab)} {F : Lab → Option (List ByteArray)} {N : ByteArray → Option (List ByteArray)}
theorem GoodI.shortF (h : GoodI K G F N) (hK : K.length ≤ 1000000) : Go.Proofs.Ytccjbmmhdbainaa.shortF F := fun y =>
  Nat.le_trans ((sd_nodup (h.sdF y)).length_le_of_subset (fun k hk => by
    obtain ⟨ls, h1, _⟩ := (h.memF y k).1 hk
    exact (h.keys k).2 (by rw [h1]; rfl))) hK
theorem GoodI.shortN (h : GoodI K G F N) (hK : K.length ≤ 1000000) : Go.Proofs.Ytccjbmmhdbainaa.shortF N := fun y =>
  Nat.le_trans ((sd_nodup (h.sdN y)).length_le_of_subset (fun k hk => by
    obtain ⟨ls, h1, _⟩ := (h.memN y k).1 hk
    exact (h.keys k).2 (by rw [h1]; rfl))) hK
theorem GoodI.gok (h : GoodI K G F N) (key : ByteArray) : ∀ ls, G key = some ls → ls.length ≤ 100000 ∧ ∀ y ∈ ls, okL y := fun ls hg => by
  have := right_ok (h.labs key ls hg).2.1
  exact ⟨by omega, this.1⟩
end
theorem Cm.of_iter {κ : Type} {enc : κ → Value} {ok : κ → Prop} {w w' : World} {r b : Nat} {l rest : List (κ × Value)} (h : Kp [r] w w') (hr : RangeAt enc ok w r b l rest) : Cm w w' :=
  ⟨h.os, h.tape, h.output, h.size, fun k c e f hk => h.heap hk (by
    simp
    rintro rfl
    obtain ⟨es, clock, seen, h1, h2, h3, h4, h5, h6, h7, h8⟩ := hr
    rw [hk] at h7
    cases h7)⟩
theorem IdxM.kp {B x b1 b2 b3 : Nat} {w w' : World} {G : ByteArray → Option (List Lab)} {F : Lab → Option (List ByteArray)} {N : ByteArray → Option (List ByteArray)} {L : List Nat} (h : IdxM B w x G F N b1 b2 b3) (hk : Kp L w w') (hc : Cm w w') (h1 : b1 ∉ L) (h2 : b2 ∉ L) (h3 : b3 ∉ L) : IdxM B w' x G F N b1 b2 b3 :=
  ⟨hc.cells _ _ _ _ h.blk, h.g.kp row_cm hk hc h1, h.f.kp txt_cm hk hc h2, h.n.kp txt_cm hk hc h3, h.d12, h.d13, h.d23, h.hx, h.h1, h.h2, h.h3⟩
theorem IdxM.lts {B x b1 b2 b3 : Nat} {w : World} {G : ByteArray → Option (List Lab)} {F : Lab → Option (List ByteArray)} {N : ByteArray → Option (List ByteArray)} (h : IdxM B w x G F N b1 b2 b3) : b1 < w.heap.size ∧ b2 < w.heap.size ∧ b3 < w.heap.size := ⟨h.g.lt, h.f.lt, h.n.lt⟩
end Go.Proofs.Ytccjbmmhdbainaa
