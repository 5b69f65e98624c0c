/- The document's calls leave the index as it is. -/
import Derived.Test.YtccjbmmhdbainaaIxrF
namespace Go.Proofs.Ytccjbmmhdbainaa
open Go.RowKit Sets
set_option linter.unusedVariables false
set_option maxRecDepth 100000
set_option linter.unusedSectionVars false
set_option linter.unusedSimpArgs false

section
variable {w w' : World} {r n c : Nat} {B : Option Addr} {t : TypeId} {f : Nat × Nat}
theorem str_past (hb : w.heap[r]? = some (.cells #[.slice B n c] t f)) {a : Addr} {s : ByteArray} (h : w.cell? a = some (.string s)) : a.block ≠ r := by
  intro e
  unfold World.cell? at h
  rw [e, hb] at h
  simp only at h
  split at h
  · cases h
  · cases ho : a.off with
    | zero => rw [ho] at h; simp at h
    | succ k => rw [ho] at h; simp at h
theorem rd_past (hb : w.heap[r]? = some (.cells #[.slice B n c] t f)) (hk : Kp [r] w w') {A : Option Addr} {cs : List Value} (h : Rd w A cs) (hs : ∀ u ∈ cs, ∃ s, u = .string s) : Rd w' A cs := fun hne => by
  obtain ⟨ad, e, hcell⟩ := h hne
  refine ⟨ad, e, fun j u hu => ?_⟩
  obtain ⟨s, rfl⟩ := hs u (List.mem_of_getElem? hu)
  exact hk.cell (hcell j _ hu) (by simpa using str_past hb (hcell j _ hu))
theorem txt_past (hb : w.heap[r]? = some (.cells #[.slice B n c] t f)) (hk : Kp [r] w w') {v : Value} {xs : List ByteArray} (h : Txt w v xs) : Txt w' v xs := by
  obtain ⟨A, n, c, h1, h2, h3, h4, h5⟩ := h
  exact ⟨A, n, c, h1, h2, h3, h4, rd_past hb hk h5 (fun u hu => by obtain ⟨s, _, rfl⟩ := List.mem_map.1 hu; exact ⟨s, rfl⟩)⟩
theorem lrow_past (hb : w.heap[r]? = some (.cells #[.slice B n c] t f)) (hk : Kp [r] w w') {v : Value} {xs : List Lab} (h : Row labC w v xs) : Row labC w' v xs := by
  obtain ⟨A, n, c, h1, h2, h3, h4, h5⟩ := h
  refine ⟨A, n, c, h1, h2, h3, h4, rd_past hb hk h5 (fun u hu => ?_)⟩
  obtain ⟨y, _, hy⟩ := List.mem_flatMap.1 hu
  simp only [labC, List.mem_cons, List.not_mem_nil, or_false] at hy
  rcases hy with rfl | rfl
  · exact ⟨_, rfl⟩
  · exact ⟨_, rfl⟩
theorem map_past {κ α : Type} [DecidableEq κ] {enc : κ → Value} {ok : κ → Prop} {R : World → Value → α → Prop} {b : Nat} {F : κ → Option α} (hb : w.heap[r]? = some (.cells #[.slice B n c] t f)) (hk : Kp [r] w w') (hR : ∀ v a, R w v a → R w' v a) (h : MapV enc ok R w b F) : MapV enc ok R w' b F := by
  obtain ⟨l, h1, h2, h3⟩ := h
  exact ⟨l, h1.kp hk (by simpa using (h1.ne hb).symm), fun p hp => by
    obtain ⟨a, e, hr⟩ := h2 p hp
    exact ⟨a, e, hR _ _ hr⟩, h3⟩
theorem idx_past {N x : Nat} {L : List Nat} {M : Mod} (hb : w.heap[r]? = some (.cells #[.slice B n c] t f)) (hk : Kp [r] w w') (h : IdxL N w x L M) : IdxL N w' x L M := by
  obtain ⟨⟨b1, b2, b3, F, G, rfl, hi, hg⟩, hm⟩ := h
  obtain ⟨q1, q2, q3, q4, q5, q6, q7, q8, q9, q10, q11⟩ := hi
  refine ⟨⟨b1, b2, b3, F, G, rfl, ⟨hk.heap q1 ?_, map_past hb hk (fun v a h => lrow_past hb hk h) q2, map_past hb hk (fun v a h => txt_past hb hk h) q3, map_past hb hk (fun v a h => txt_past hb hk h) q4, q5, q6, q7, q8, q9, q10, q11⟩, hg⟩, hm⟩
  simp only [List.mem_singleton]
  rintro rfl
  rw [hb] at q1
  injection q1 with q1
  injection q1 with q1
  have := congrArg Array.size q1
  simp at this
end
theorem gx_past {w v v' : World} {x r : Nat} {L : List Nat} {M N : Mod} (h : Gx w v x L M) (hr : RefX v r N) (hB : w.heap.size ≤ r) (hk : Kp [r] v v') : Gx w v' x L M := by
  obtain ⟨A, n, c, es, h1, _⟩ := hr
  exact ⟨idx_past h1 hk h.at_, hk.to_ext h.ext (by simpa using hB)⟩
/-- What the law holds. -/
structure Px (w v : World) (x r : Nat) (L : List Nat) (M : Mod) : Prop where
  gx : Gx w v x L M
  ref : RefX v r M
theorem Px.later {w v v' : World} {x r : Nat} {L : List Nat} {M : Mod} (h : Px w v x r L M) (k : Ext v v') : Px w v' x r L M := ⟨h.gx.later k, h.ref.ext k⟩
end Go.Proofs.Ytccjbmmhdbainaa
