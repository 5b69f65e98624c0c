/- Maps in memory: a block that holds a map reads as a list of its entries; look-up, store, delete, and ranging, whatever the order. -/
import Derived.Test.YtccjbmmhdbainaaKp
import Derived.Maps.Keyed
import Derived.Maps.RangeRun
namespace Go.Proofs.Ytccjbmmhdbainaa
open Go.RowKit
open Go.ChangeMaps (setBlock)
set_option linter.unusedVariables false

/-- What is known of a key's type: how its keys are told apart. -/
structure Ke {κ : Type} (P : Program) (k : TypeId) (enc : κ → Value) (ok : κ → Prop) : Prop where
  law : Maps.Keyed P k
  lit : ∀ x, ok x → ∃ l, keyOf P k (enc x) = some l
  inj : ∀ x y, enc x = enc y → x = y

section
variable {κ : Type}
def kv (e : MapEntry) : Value × Value := (e.key, e.val)
/-- Block b is a map with these entries. -/
def MapAt (enc : κ → Value) (ok : κ → Prop) (w : World) (b : Nat) (l : List (κ × Value)) : Prop :=
  ∃ es clock, w.heap[b]? = some (.map es clock) ∧ es.toList.map kv = l.map (fun p => (enc p.1, p.2)) ∧ (es.toList.map (·.born)).Nodup ∧ (∀ e ∈ es.toList, e.born < clock) ∧ (l.map (·.1)).Nodup ∧ ∀ p ∈ l, ok p.1

variable {P : Program} {k : TypeId} {enc : κ → Value} {ok : κ → Prop} {w w' : World} {b : Nat} {l : List (κ × Value)}

theorem MapAt.kp {L : List Nat} (h : MapAt enc ok w b l) (hk : Kp L w w') (hn : b ∉ L) : MapAt enc ok w' b l := by
  obtain ⟨es, clock, hb, rest⟩ := h
  exact ⟨es, clock, hk.heap hb hn, rest⟩
theorem MapAt.ext (h : MapAt enc ok w b l) (hx : Ext w w') : MapAt enc ok w' b l := h.kp (L := []) (Kp.of_ext hx) (by simp)
theorem MapAt.lt (h : MapAt enc ok w b l) : b < w.heap.size := by
  obtain ⟨es, clock, hb, _⟩ := h
  exact (Array.getElem?_eq_some_iff.1 hb).1
theorem MapAt.nodup (h : MapAt enc ok w b l) : (l.map (·.1)).Nodup := by
  obtain ⟨es, clock, _, _, _, _, hn, _⟩ := h
  exact hn
/-- A map's block is no block of cells. -/
theorem MapAt.cells (h : MapAt enc ok w b l) {c : Array Value} {e : TypeId} {f : Nat × Nat} (hc : w.heap[b]? = some (.cells c e f)) : False := by
  obtain ⟨es, clock, hb, _⟩ := h
  rw [hb] at hc
  cases hc
theorem MapAt.ne (h : MapAt enc ok w b l) {g : Nat} {c : Array Value} {e : TypeId} {f : Nat × Nat} (hc : w.heap[g]? = some (.cells c e f)) : g ≠ b := by
  rintro rfl
  exact h.cells hc
theorem MapAt.made (w : World) : MapAt enc ok (w.alloc (.map #[] 0)) w.heap.size [] :=
  ⟨#[], 0, heap_alloc_new w _, rfl, by simp, by simp, by simp, by simp⟩

theorem get_kv {es : List MapEntry} (h : es.map kv = l.map (fun p => (enc p.1, p.2))) {j : Nat} {e : MapEntry} (he : es[j]? = some e) : ∃ p, l[j]? = some p ∧ e.key = enc p.1 ∧ e.val = p.2 := by
  have h1 : (es.map kv)[j]? = some (e.key, e.val) := by rw [List.getElem?_map, he]; rfl
  rw [h, List.getElem?_map] at h1
  cases hp : l[j]? with
  | none => rw [hp] at h1; simp at h1
  | some p =>
    rw [hp] at h1
    simp only [Option.map_some, Option.some.injEq, Prod.mk.injEq] at h1
    exact ⟨p, rfl, h1.1.symm, h1.2.symm⟩
theorem mem_kv {es : List MapEntry} (h : es.map kv = l.map (fun p => (enc p.1, p.2))) {e : MapEntry} (he : e ∈ es) : ∃ p ∈ l, e.key = enc p.1 ∧ e.val = p.2 := by
  obtain ⟨j, hj⟩ := List.mem_iff_getElem?.1 he
  obtain ⟨p, hp, h1⟩ := get_kv h hj
  exact ⟨p, List.mem_of_getElem? hp, h1⟩
end

section
variable {κ : Type} [DecidableEq κ]
def lkp (l : List (κ × Value)) (x : κ) : Option Value := (l.find? fun p => decide (p.1 = x)).map (·.2)
def putL (l : List (κ × Value)) (x : κ) (v : Value) : List (κ × Value) := if (lkp l x).isSome then l.map (fun p => if p.1 = x then (x, v) else p) else l ++ [(x, v)]
def delL (l : List (κ × Value)) (x : κ) : List (κ × Value) := l.filter fun p => decide (p.1 ≠ x)

variable {P : Program} {k : TypeId} {enc : κ → Value} {ok : κ → Prop} {w w' : World} {b : Nat} {l : List (κ × Value)}

theorem lkp_none {x : κ} (h : ∀ p ∈ l, p.1 ≠ x) : lkp l x = none := by
  unfold lkp
  rw [List.find?_eq_none.2 (by intro p hp; simpa using h p hp)]
  rfl
theorem lkp_none_iff {x : κ} : lkp l x = none ↔ ∀ p ∈ l, p.1 ≠ x := by
  refine ⟨fun h p hp he => ?_, lkp_none⟩
  unfold lkp at h
  rw [Option.map_eq_none_iff, List.find?_eq_none] at h
  exact h p hp (by simpa using he)
theorem lkp_some {x : κ} {v : Value} (hn : (l.map (·.1)).Nodup) (h : (x, v) ∈ l) : lkp l x = some v := by
  unfold lkp
  cases hf : l.find? fun p => decide (p.1 = x) with
  | none => exact absurd (by simp) (List.find?_eq_none.1 hf _ h)
  | some q =>
    have h1 := List.find?_some hf
    have h2 := List.mem_of_find?_eq_some hf
    simp only [decide_eq_true_eq] at h1
    obtain ⟨i, hi⟩ := List.mem_iff_getElem?.1 h
    obtain ⟨j, hj⟩ := List.mem_iff_getElem?.1 h2
    have hi' : (l.map (·.1))[i]? = some x := by rw [List.getElem?_map, hi]; rfl
    have hj' : (l.map (·.1))[j]? = some x := by rw [List.getElem?_map, hj]; simp [h1]
    have hil := (List.getElem?_eq_some_iff.1 hi').1
    have hij : i = j := ((List.getElem?_inj hil hn).1 (hi'.trans hj'.symm))
    subst hij
    rw [hi] at hj
    injection hj with hj
    rw [← hj]
    rfl
theorem lkp_mem {x : κ} {v : Value} (h : lkp l x = some v) : (x, v) ∈ l := by
  unfold lkp at h
  rw [Option.map_eq_some_iff] at h
  obtain ⟨q, hq, rfl⟩ := h
  have h1 := List.find?_some hq
  simp only [decide_eq_true_eq] at h1
  subst h1
  exact List.mem_of_find?_eq_some hq

/-- Whether a key is found, by the model's search. -/
theorem MapAt.search (K : Ke P k enc ok) {es : Array MapEntry} (hm : es.toList.map kv = l.map (fun p => (enc p.1, p.2))) (hn : (l.map (·.1)).Nodup) (hk : ∀ p ∈ l, ok p.1) (w : World) (x : κ) (hx : ok x) :
    ((Instr.findKey k (enc x) es.toList).run P w = .ok none w ∧ lkp l x = none) ∨ ∃ j v, (Instr.findKey k (enc x) es.toList).run P w = .ok (some (j, v)) w ∧ l[j]? = some (x, v) ∧ lkp l x = some v := by
  obtain ⟨lx, hlx⟩ := K.lit x hx
  rcases K.law.find w hlx es.toList (fun e he => by
    obtain ⟨p, hp, h1, _⟩ := mem_kv hm he
    rw [h1]
    exact K.lit p.1 (hk p hp)) with ⟨h1, h2⟩ | ⟨j, e, h1, h2, h3⟩
  · refine .inl ⟨h1, lkp_none fun p hp he => ?_⟩
    obtain ⟨j, hj⟩ := List.mem_iff_getElem?.1 hp
    have hj' : (es.toList.map kv)[j]? = some (enc p.1, p.2) := by rw [hm, List.getElem?_map, hj]; rfl
    rw [List.getElem?_map] at hj'
    cases he2 : es.toList[j]? with
    | none => rw [he2] at hj'; simp at hj'
    | some e =>
      rw [he2] at hj'
      simp only [Option.map_some, Option.some.injEq, kv, Prod.mk.injEq] at hj'
      exact h2 e (List.mem_of_getElem? he2) (by rw [hj'.1, he])
  · obtain ⟨p, hp, h4, h5⟩ := get_kv hm h2
    have : p.1 = x := K.inj _ _ (by rw [← h4, h3])
    obtain ⟨p1, p2⟩ := p
    simp only at this h4 h5
    subst this
    refine .inr ⟨j, e.val, h1, by rw [hp, h5], ?_⟩
    rw [h5]
    exact lkp_some hn (List.mem_of_getElem? hp)

theorem MapAt.lookup {t e : TypeId} (h : MapAt enc ok w b l) (K : Ke P k enc ok) (ht : P.underlying t = some (.map k e)) {z : Value} (hz : ∀ w : World, (zeroValue e).run P w = .ok z w) (x : κ) (hx : ok x) (w' : World) (hw : w'.heap[b]? = w.heap[b]?) (c : Bool) :
    (Instr.lookup t (.map (some b)) (enc x) c).run P w' = .ok (if c then .tuple #[(lkp l x).getD z, .bool (lkp l x).isSome] else (lkp l x).getD z) w' := by
  obtain ⟨es, clock, hb, hm, hs, hlt, hn, hk⟩ := h
  rw [← hw] at hb
  obtain ⟨lx, hlx⟩ := K.lit x hx
  rcases MapAt.search K hm hn hk w' x hx with ⟨h1, h2⟩ | ⟨j, v, h1, h2, h3⟩
  · rw [h2]
    cases c <;> simp [Instr.lookup, run_underlying ht, MapKept.run_getObj_map hb, K.law.check w' es.isEmpty hlx, h1, Result.andThen, hz w']
  · rw [h3]
    cases c <;> simp [Instr.lookup, run_underlying ht, MapKept.run_getObj_map hb, K.law.check w' es.isEmpty hlx, h1, Result.andThen]

theorem kp_setBlock (w : World) (b : Nat) (o : Obj) : Kp [b] w (setBlock w b o) :=
  ⟨rfl, rfl, rfl, by simp [setBlock], fun i hi hn => by
    have hne : b ≠ i := fun e => hn (by simp [e])
    show (w.heap.setIfInBounds b o)[i]? = w.heap[i]?
    rw [Array.getElem?_setIfInBounds_ne hne]⟩
theorem set_same {w : World} {b : Nat} {o o' : Obj} (h : w.heap[b]? = some o) : (setBlock w b o').heap[b]? = some o' := by
  have hlt := (Array.getElem?_eq_some_iff.1 h).1
  show (w.heap.setIfInBounds b o')[b]? = some o'
  rw [Array.getElem?_setIfInBounds_self_of_lt hlt]

theorem MapAt.update {t e : TypeId} (h : MapAt enc ok w b l) (K : Ke P k enc ok) (ht : P.underlying t = some (.map k e)) (x : κ) (v : Value) (hx : ok x) :
    ∃ w', (Instr.mapUpdate t (.map (some b)) (enc x) v).run P w = .ok () w' ∧ MapAt enc ok w' b (putL l x v) ∧ Kp [b] w w' := by
  obtain ⟨es, clock, hb, hm, hs, hlt, hn, hk⟩ := h
  obtain ⟨lx, hlx⟩ := K.lit x hx
  rcases MapAt.search K hm hn hk w x hx with ⟨h1, h2⟩ | ⟨j, v0, h1, h2, h3⟩
  · refine ⟨setBlock w b (.map (es.push ⟨enc x, v, clock⟩) (clock + 1)), ?_, ⟨es.push ⟨enc x, v, clock⟩, clock + 1, set_same hb, ?_, ?_, ?_, ?_, ?_⟩, kp_setBlock _ _ _⟩
    · simp [Instr.mapUpdate, run_underlying ht, MapKept.run_getObj_map hb, K.law.check w false hlx, h1, MapKept.run_setObj_map _ hb, Result.andThen, setBlock]
    · rw [putL, h2]
      simp [hm, kv]
    · simp only [Array.toList_push, List.map_append, List.map_cons, List.map_nil]
      refine List.nodup_append.2 ⟨hs, by simp, ?_⟩
      intro a ha c hc
      simp at hc
      subst hc
      obtain ⟨e, he, rfl⟩ := List.mem_map.1 ha
      exact Nat.ne_of_lt (hlt e he)
    · intro e he
      simp only [Array.toList_push, List.mem_append, List.mem_singleton] at he
      rcases he with he | rfl
      · exact Nat.lt_succ_of_lt (hlt e he)
      · exact Nat.lt_succ_self _
    · rw [putL, h2]
      simp only [Option.isSome_none, Bool.false_eq_true, if_false, List.map_append, List.map_cons, List.map_nil]
      refine List.nodup_append.2 ⟨hn, by simp, ?_⟩
      intro a ha c hc
      simp at hc
      subst hc
      obtain ⟨p, hp, rfl⟩ := List.mem_map.1 ha
      exact (lkp_none_iff.1 h2) p hp
    · rw [putL, h2]
      simp only [Option.isSome_none, Bool.false_eq_true, if_false, List.mem_append, List.mem_singleton]
      rintro p (hp | rfl)
      · exact hk p hp
      · exact hx
  · have hj : ∃ e0, es[j]? = some e0 ∧ e0.key = enc x := by
      have : (es.toList.map kv)[j]? = some (enc x, v0) := by rw [hm, List.getElem?_map, h2]; rfl
      rw [List.getElem?_map] at this
      cases he : es.toList[j]? with
      | none => rw [he] at this; simp at this
      | some e0 =>
        rw [he] at this
        simp only [Option.map_some, Option.some.injEq, kv, Prod.mk.injEq] at this
        exact ⟨e0, by simpa using he, this.1⟩
    obtain ⟨e0, hj, h0⟩ := hj
    have hjl : j < es.toList.length := (List.getElem?_eq_some_iff.1 (by simpa using hj : es.toList[j]? = some e0)).1
    have hset : (es.modify j (fun e' => { e' with key := enc x, val := v })).toList = es.toList.set j { e0 with key := enc x, val := v } := by
      rw [Array.toList_modify, ChangeMaps.modify_eq_set _ _ _ _ (by simpa using hj)]
    have hput : putL l x v = l.set j (x, v) := by
      unfold putL
      rw [h3]
      simp only [Option.isSome_some, if_true]
      apply List.ext_getElem?
      intro i
      rw [List.getElem?_map, List.getElem?_set]
      by_cases hij : j = i
      · subst hij
        have := (List.getElem?_eq_some_iff.1 h2).1
        rw [h2]
        simp [this]
      · rw [if_neg hij]
        cases hi : l[i]? with
        | none => rfl
        | some p =>
          have hne : p.1 ≠ x := by
            rintro rfl
            have hi' : (l.map (·.1))[i]? = some p.1 := by rw [List.getElem?_map, hi]; rfl
            have hj' : (l.map (·.1))[j]? = some p.1 := by rw [List.getElem?_map, h2]; rfl
            exact hij ((List.getElem?_inj (List.getElem?_eq_some_iff.1 hj').1 hn).1 (hj'.trans hi'.symm))
          simp [hne]
    refine ⟨setBlock w b (.map (es.modify j (fun e' => { e' with key := enc x, val := v })) clock), ?_, ⟨_, clock, set_same hb, ?_, ?_, ?_, ?_, ?_⟩, kp_setBlock _ _ _⟩
    · simp [Instr.mapUpdate, run_underlying ht, MapKept.run_getObj_map hb, K.law.check w false hlx, h1, hj, h0, K.law.stays w hlx, MapKept.run_setObj_map _ hb, Result.andThen, setBlock]
    · rw [hset, hput, List.map_set, List.map_set, hm]
      rfl
    · rw [hset, List.map_set]
      have hbj : (es.toList.map (·.born))[j]? = some e0.born := by rw [List.getElem?_map, (by simpa using hj : es.toList[j]? = some e0)]; rfl
      have : (es.toList.map (·.born)).set j e0.born = es.toList.map (·.born) := by
        apply List.ext_getElem?
        intro i
        rw [List.getElem?_set]
        split
        · rename_i hi
          subst hi
          rw [hbj]
          simpa using hjl
        · rfl
      show ((es.toList.map (·.born)).set j e0.born).Nodup
      rw [this]
      exact hs
    · intro e he
      rw [hset] at he
      rcases List.mem_or_eq_of_mem_set he with he | rfl
      · exact hlt e he
      · exact hlt e0 (List.mem_of_getElem? (by simpa using hj : es.toList[j]? = some e0))
    · rw [hput, List.map_set]
      have : (l.map (·.1)).set j x = l.map (·.1) := by
        apply List.ext_getElem?
        intro i
        rw [List.getElem?_set]
        split
        · rename_i hi
          subst hi
          rw [List.getElem?_map, h2]
          simp [(List.getElem?_eq_some_iff.1 h2).1]
        · rfl
      show ((l.map (·.1)).set j x).Nodup
      rw [this]
      exact hn
    · intro p hp
      rw [hput] at hp
      rcases List.mem_or_eq_of_mem_set hp with hp | rfl
      · exact hk p hp
      · exact hx

theorem MapAt.delete {t e : TypeId} (h : MapAt enc ok w b l) (K : Ke P k enc ok) (ht : P.underlying t = some (.map k e)) (x : κ) (hx : ok x) (ty : TypeId) :
    ∃ w', (Builtin.delete_ #[t, k] ty #[.map (some b), enc x]).run P w = .ok (.tuple #[]) w' ∧ MapAt enc ok w' b (delL l x) ∧ Kp [b] w w' := by
  obtain ⟨es, clock, hb, hm, hs, hlt, hn, hk⟩ := h
  obtain ⟨lx, hlx⟩ := K.lit x hx
  rcases MapAt.search K hm hn hk w x hx with ⟨h1, h2⟩ | ⟨j, v0, h1, h2, h3⟩
  · refine ⟨setBlock w b (.map es clock), ?_, ⟨es, clock, set_same hb, ?_, hs, hlt, ?_, ?_⟩, kp_setBlock _ _ _⟩
    · simp [Builtin.delete_, run_underlying ht, MapKept.run_getObj_map hb, K.law.check w _ hlx, h1, MapKept.run_setObj_map _ hb, Result.andThen, setBlock]
    · rw [hm, delL, List.filter_eq_self.2 (fun p hp => by simpa using lkp_none_iff.1 h2 p hp)]
    · rw [delL, List.filter_eq_self.2 (fun p hp => by simpa using lkp_none_iff.1 h2 p hp)]
      exact hn
    · intro p hp
      exact hk p (List.mem_filter.1 hp).1
  · have hdel : delL l x = l.eraseIdx j := by
      have := ChangeMaps.filter_eq_eraseIdx (fun p : κ × Value => decide (p.1 = x)) l j (x, v0) h2 (by simp) (by
        have h4 : l.Pairwise (fun a c => a.1 ≠ c.1) := by rw [List.Nodup, List.pairwise_map] at hn; exact hn
        refine h4.imp ?_
        intro a c hne hh
        simp only [decide_eq_true_eq] at hh
        exact hne (hh.1.trans hh.2.symm))
      rw [← this, delL]
      congr 1
      funext p
      simp
    have hje : es.toList[j]?.isSome = true := by
      have : (es.toList.map kv)[j]? = some (enc x, v0) := by rw [hm, List.getElem?_map, h2]; rfl
      rw [List.getElem?_map] at this
      cases he : es.toList[j]? with
      | none => rw [he] at this; simp at this
      | some e0 => rfl
    have hjl : j < es.toList.length := by
      obtain ⟨e0, he0⟩ := Option.isSome_iff_exists.1 hje
      exact (List.getElem?_eq_some_iff.1 he0).1
    have hlist : (es.eraseIdxIfInBounds j).toList = es.toList.eraseIdx j := by
      unfold Array.eraseIdxIfInBounds
      rw [dif_pos (by simpa using hjl), Array.toList_eraseIdx]
    refine ⟨setBlock w b (.map (es.eraseIdxIfInBounds j) clock), ?_, ⟨_, clock, set_same hb, ?_, ?_, ?_, ?_, ?_⟩, kp_setBlock _ _ _⟩
    · simp [Builtin.delete_, run_underlying ht, MapKept.run_getObj_map hb, K.law.check w _ hlx, h1, MapKept.run_setObj_map _ hb, Result.andThen, setBlock]
    · rw [hlist, hdel, ChangeMaps.map_eraseIdx, ChangeMaps.map_eraseIdx, hm]
    · rw [hlist, ChangeMaps.map_eraseIdx]
      exact hs.sublist (List.eraseIdx_sublist _ _)
    · intro e he
      rw [hlist] at he
      exact hlt e (List.mem_of_mem_eraseIdx he)
    · rw [hdel, ChangeMaps.map_eraseIdx]
      exact hn.sublist (List.eraseIdx_sublist _ _)
    · intro p hp
      rw [hdel] at hp
      exact hk p (List.mem_of_mem_eraseIdx hp)
end
end Go.Proofs.Ytccjbmmhdbainaa
