/- AofLives: the plain law, and what the walk keeps. -/
import Derived.Test.YtdndeggognfcaaaAofF
namespace Go.Proofs.Ytdndeggognfcaaa
open Go.RowKit Crc Fil
set_option linter.unusedVariables false
set_option linter.unusedSectionVars false
set_option linter.unusedSimpArgs false
set_option maxRecDepth 100000

theorem open_eq (g : Nat) (t : St) : openL g t = ⟨g, ⟨bs (frmsB (recsL t)), (frmsB (recsL t)).length, t.other, none⟩, recsL t, (recsL t).length, false⟩ := by
  obtain ⟨_, r, h2, _⟩ := read_good t.s.toList
  have hz := congrArg List.length h2
  rw [List.length_append, size_list] at hz
  have hF : frmsB (recsL t) = frms (readL t.s.toList) := by unfold recsL; rw [frmsB_bs]
  unfold openL
  rw [hF]
  have hc : (cutR t ((frms (readL t.s.toList)).length : Int)).2 = ⟨bs (frms (readL t.s.toList)), (frms (readL t.s.toList)).length, t.other, none⟩ := by
    unfold cutR
    rw [if_neg (by omega)]
    unfold syncT
    dsimp only
    have e : cutS t.s ((frms (readL t.s.toList)).length : Int).toNat = bs (frms (readL t.s.toList)) := by
      apply bytes_ext
      rw [cutS_list, bs_list, Int.toNat_natCast]
      generalize readL t.s.toList = R at h2 ⊢
      rw [h2, List.take_left' rfl]
    rw [e, bs_size]
  rw [hc]
/-- The text has all records; those that are sure are. -/
def LA (t : St) (all : List ByteArray) (sure : Nat) : Prop := t.old = none ∧ t.s = bs (frmsB all) ∧ t.sure = (frmsB (all.take sure)).length
/-- The text has other records; the old one has all. -/
def LB (t : St) (all : List ByteArray) (sure : Nat) (other : List ByteArray) : Prop := t.s = bs (frmsB other) ∧ t.sure = t.s.size ∧ t.old = some (bs (frmsB all), (frmsB (all.take sure)).length)
structure Inv (S : LSt) (all : List ByteArray) (sure : Nat) (other : List ByteArray) (cut : Bool) : Prop where
  le : sure ≤ all.length
  good : ∀ x ∈ all, good x.toList
  halt : S.halted = cut
  run : cut = false → S.l = all ∧ LA S.t all sure
  stop : cut = true → (∀ x ∈ other, Crc.good x.toList) ∧ (LA S.t all sure ∨ LB S.t all sure other)
section
variable {S : LSt} {all other : List ByteArray} {sure : Nat} {cut : Bool}
theorem Inv.append (h : Inv S all sure other cut) (x : ByteArray) : ((appL S x).1 = 0 ∧ Inv (appL S x).2 (all ++ [x]) sure other cut) ∨ ((appL S x).1 ≠ 0 ∧ (appL S x).2 = S) := by
  unfold appL
  split
  · exact .inr ⟨by simp, rfl⟩
  rename_i hh
  split
  · exact .inr ⟨by simp, rfl⟩
  rename_i hg
  split
  · exact .inr ⟨by simp, rfl⟩
  rename_i hz
  have hc : cut = false := by rw [← h.halt]; simpa using hh
  subst hc
  obtain ⟨h1, h2, h3, h4⟩ := h.run rfl
  have hgx : Crc.good x.toList := by simpa using hg
  refine .inl ⟨rfl, by rw [List.length_append]; have := h.le; omega, fun y hy => ?_, h.halt, fun _ => ⟨by dsimp only; rw [h1], ?_, ?_, ?_⟩, fun hc => by cases hc⟩
  · rcases List.mem_append.1 hy with hy | hy
    · exact h.good y hy
    · simp at hy
      subst hy
      exact hgx
  · unfold appendR; rw [if_neg hz]; exact h2
  · unfold appendR
    rw [if_neg hz]
    dsimp only
    rw [h3, bs_app]
    unfold frmsB
    rw [List.map_append, frms_app]
    simp [frms]
  · unfold appendR
    rw [if_neg hz]
    dsimp only
    rw [h4, List.take_append_of_le_length h.le]
theorem Inv.sync (h : Inv S all sure other cut) : ((syncL S).1 = 0 ∧ Inv (syncL S).2 all all.length other cut) ∨ ((syncL S).1 ≠ 0 ∧ (syncL S).2 = S) := by
  unfold syncL
  split
  · exact .inr ⟨by simp, rfl⟩
  rename_i hh
  have hc : cut = false := by rw [← h.halt]; simpa using hh
  subst hc
  obtain ⟨h1, h2, h3, h4⟩ := h.run rfl
  exact .inl ⟨rfl, Nat.le_refl _, h.good, h.halt, fun _ => ⟨h1, rfl, h3, by
    show S.t.s.size = _
    rw [h3, bs_size, List.take_length]⟩, fun hc => by cases hc⟩
theorem ok_good {l : List ByteArray} (h : frmsOk l = true) : ∀ x ∈ l, Crc.good x.toList := by
  unfold frmsOk at h
  rw [List.all_eq_true] at h
  intro x hx
  simpa using h x hx
theorem Inv.rewrite (h : Inv S all sure other cut) (l : List ByteArray) (n : Int) (hn : 0 ≤ n) :
    ((rewL S l n).1 = 0 ∧ Inv (rewL S l n).2 l l.length other cut) ∨ ((rewL S l n).1 = 12 ∧ cut = false ∧ Inv (rewL S l n).2 all sure l true) ∨ ((rewL S l n).1 = 12 ∧ cut = true ∧ (rewL S l n).2 = S) ∨ ((rewL S l n).1 = 1 ∧ (rewL S l n).2 = S) := by
  unfold rewL
  split
  · rename_i hh
    exact .inr (.inr (.inl ⟨rfl, by rw [← h.halt]; exact hh, rfl⟩))
  rename_i hh
  have hc : cut = false := by rw [← h.halt]; simpa using hh
  subst hc
  obtain ⟨h1, h2, h3, h4⟩ := h.run rfl
  split
  · exact .inr (.inr (.inr ⟨rfl, rfl⟩))
  rename_i ho
  have hok : frmsOk l = true := by
    cases hq : frmsOk l with
    | true => rfl
    | false => exact absurd (.inl hq) ho
  have hgl := ok_good hok
  split
  · rename_i h4n
    refine .inr (.inl ⟨rfl, rfl, h.le, h.good, rfl, (fun hc => by cases hc), fun _ => ⟨hgl, ?_⟩⟩)
    have hcs : n = 0 ∨ n = 1 ∨ n = 2 ∨ n = 3 := by omega
    rcases hcs with rfl | rfl | rfl | rfl
    · exact .inl ⟨h2, h3, h4⟩
    · exact .inl ⟨h2, h3, h4⟩
    · exact .inl ⟨h2, h3, h4⟩
    · refine .inr ⟨rfl, ?_, ?_⟩
      · rfl
      · show some (S.t.old.getD (S.t.s, S.t.sure)) = _
        rw [h2, h3, h4]
        rfl
  · rename_i h4n
    refine .inl ⟨rfl, Nat.le_refl _, hgl, h.halt, fun _ => ⟨rfl, rfl, ?_, ?_⟩, fun hc => by cases hc⟩
    · show (rewT S.t (bs (frmsB l)) n).s = _
      exact rewT_s (by omega)
    · show (rewT S.t (bs (frmsB l)) n).s.size = _
      rw [rewT_s (by omega), bs_size, List.take_length]
/-- What is read behind a crash of a text that has all. -/
theorem crash_core (hg : ∀ x ∈ all, Crc.good x.toList) (hle : sure ≤ all.length) (kk : Nat) (h1 : (frmsB (all.take sure)).length ≤ kk) (h2 : kk ≤ (frmsB all).length) :
    ∃ j, sure ≤ j ∧ j ≤ all.length ∧ (readL (cutS (bs (frmsB all)) kk).toList).map bs = all.take j := by
  obtain ⟨j, hj, hop, hl, hn⟩ := open_cut hg 0 kk 0 h2
  have he : (readL (cutS (bs (frmsB all)) kk).toList).map bs = all.take j := congrArg LSt.l hop
  refine ⟨j, ?_, hj, he⟩
  apply Decidable.byContradiction
  intro hlt
  obtain ⟨x, hx⟩ : ∃ x, all[j]? = some x := ⟨_, List.getElem?_eq_getElem (by omega)⟩
  have e1 := hn x hx
  have e2 := frms_next hx (hg x (List.mem_of_getElem? hx))
  have e3 : (frmsB (all.take (j + 1))).length ≤ (frmsB (all.take sure)).length := by
    have h := frms_pre_le (all.take sure) (j + 1)
    rw [List.take_take, Nat.min_eq_left (by omega)] at h
    exact h
  omega
theorem Inv.crash (h : Inv S all sure other cut) (keep oth : Int) (ren : Bool) (h1 : 0 ≤ keep) (h2 : 0 ≤ oth) :
    (∃ j, sure ≤ j ∧ j ≤ all.length ∧ recsL (crashR S.t keep oth ren).2 = all.take j) ∨ (cut = true ∧ recsL (crashR S.t keep oth ren).2 = other) := by
  have hcr : (crashR S.t keep oth ren).2 = syncT ⟨(crash1 (backT S.t ren) keep).1, (crash1 (backT S.t ren) keep).2, S.t.other.map fun p => crash1 p oth, S.t.old⟩ := by
    unfold crashR
    rw [if_neg (by omega)]
  rw [hcr]
  show (∃ j, sure ≤ j ∧ j ≤ all.length ∧ (readL (crash1 (backT S.t ren) keep).1.toList).map bs = all.take j) ∨ (cut = true ∧ (readL (crash1 (backT S.t ren) keep).1.toList).map bs = other)
  have core : ∀ p : ByteArray × Nat, p.1 = bs (frmsB all) → p.2 = (frmsB (all.take sure)).length → ∃ j, sure ≤ j ∧ j ≤ all.length ∧ (readL (crash1 p keep).1.toList).map bs = all.take j := by
    intro p hp1 hp2
    unfold crash1
    have hz := bs_size (frmsB all)
    have hp := frms_pre_le all sure
    rw [hp1, hp2]
    refine crash_core h.good h.le _ ?_ ?_
    · unfold keptN; omega
    · unfold keptN; omega
  have hA : LA S.t all sure → ∃ j, sure ≤ j ∧ j ≤ all.length ∧ (readL (crash1 (backT S.t ren) keep).1.toList).map bs = all.take j := by
    rintro ⟨a1, a2, a3⟩
    have hb : backT S.t ren = (S.t.s, S.t.sure) := by unfold backT; rw [a1]
    rw [hb]
    exact core _ a2 a3
  cases hc : cut with
  | false => exact .inl (hA (h.run hc).2)
  | true =>
    obtain ⟨hgo, ha | ⟨b1, b2, b3⟩⟩ := h.stop hc
    · exact .inl (hA ha)
    · cases ren with
      | false =>
        have hb : backT S.t false = (bs (frmsB all), (frmsB (all.take sure)).length) := by unfold backT; rw [b3]; rfl
        rw [hb]
        exact .inl (core _ rfl rfl)
      | true =>
        have hb : backT S.t true = (S.t.s, S.t.sure) := by unfold backT; rw [b3]; rfl
        rw [hb]
        refine .inr ⟨rfl, ?_⟩
        unfold crash1
        dsimp only
        have hk : keptN S.t.s S.t.sure keep = S.t.s.size := by unfold keptN; omega
        rw [hk, cutS_all _ _ (Nat.le_refl _), b1, bs_list]
        have : readL (frmsB other) = other.map fun s => s.toList := read_frms' (by intro x hx; obtain ⟨s, hs, rfl⟩ := List.mem_map.1 hx; exact hgo s hs)
        rw [this, bs_inv]
theorem inv_open (g : Nat) (t : St) (other : List ByteArray) : Inv (openL g t) (recsL t) (recsL t).length other false := by
  refine ⟨Nat.le_refl _, fun x hx => ?_, rfl, fun _ => ⟨rfl, ?_⟩, fun hc => by cases hc⟩
  · obtain ⟨y, hy, rfl⟩ := List.mem_map.1 hx
    rw [bs_list]
    exact (read_good t.s.toList).1 y hy
  · rw [open_eq]
    exact ⟨rfl, rfl, by rw [List.take_length]⟩
end
/-- What AofLives' walk keeps (w0: the world in which it began): the log, the row of all records, the row of the others. -/
def Lv (w0 w : World) (lg : Nat) (va vo : Value) (S : LSt) (all other : List ByteArray) : Prop :=
  ∃ tb rv L, LogC w lg tb rv L S ∧ Ext w0 w ∧ (∀ k ∈ bl lg tb rv L, w0.heap.size ≤ k) ∧ S.t.Ok ∧ Own w0 w va all ∧ Own w0 w vo other ∧ (∀ k, va.ownBlock = some k → k ∉ bl lg tb rv L) ∧ (∀ k, vo.ownBlock = some k → k ∉ bl lg tb rv L) ∧ (∀ k, va.ownBlock = some k → vo.ownBlock ≠ some k)
section
variable {w0 w w' : World} {lg : Nat} {va vo va' vo' : Value} {S S' : LSt} {all other all' other' : List ByteArray}
theorem own_lt {w : World} {base e size n : Nat} {v : Value} {xs : List Value} (h : w.ownsRow base e size v n xs) : ∀ k, v.ownBlock = some k → k < w.heap.size := fun k hk => by
  obtain ⟨c, f, h1⟩ := own_at h k hk
  exact (Array.getElem?_eq_some_iff.1 h1).1
theorem own_from {w0 w1 w : World} {v : Value} {xs : List ByteArray} (h : Own w1 w v xs) (hz : w0.heap.size ≤ w1.heap.size) : Own w0 w v xs := by
  refine ⟨h.1, ?_⟩
  rcases h.2 with h0 | ⟨g, cap, cur, rfl, hb, hh, r⟩
  · exact .inl h0
  · exact .inr ⟨g, cap, cur, rfl, Nat.le_trans hz hb, hh, r⟩
theorem Lv.ext (h : Lv w0 w lg va vo S all other) : Ext w0 w := by obtain ⟨_, _, _, _, h, _⟩ := h; exact h
theorem Lv.ok (h : Lv w0 w lg va vo S all other) : S.t.Ok := by obtain ⟨_, _, _, _, _, _, h, _⟩ := h; exact h
theorem Lv.rowA (h : Lv w0 w lg va vo S all other) : Own w0 w va all := by obtain ⟨_, _, _, _, _, _, _, h, _⟩ := h; exact h
theorem Lv.rowO (h : Lv w0 w lg va vo S all other) : Own w0 w vo other := by obtain ⟨_, _, _, _, _, _, _, _, h, _⟩ := h; exact h
theorem Lv.later (h : Lv w0 w lg va vo S all other) (hx : Ext w w') : Lv w0 w' lg va vo S all other := by
  obtain ⟨tb, rv, L, h1, h2, h3, h4, h5, h6, h7, h8, h9⟩ := h
  exact ⟨tb, rv, L, h1.ext hx, h2.trans hx, h3, h4, h5.ext hx, h6.ext hx, h7, h8, h9⟩
theorem Lv.left (h : Lv w0 w lg va vo S all other) {P : Program} {f : FuncId} {args : Array Value} {c : Int} (hc : ∀ tb rv L, LogC w lg tb rv L S → (∀ k ∈ bl lg tb rv L, w0.heap.size ≤ k) → Calls P f args w fun e w' => e = .returned (.int .i64 c) ∧ LDid w w' lg tb rv L S') (hok : S'.t.Ok) :
    Calls P f args w fun e w' => e = .returned (.int .i64 c) ∧ Lv w0 w' lg va vo S' all other ∧ OpK w w' := by
  obtain ⟨tb, rv, L, h1, h2, h3, h4, h5, h6, h7, h8, h9⟩ := h
  refine (hc tb rv L h1 h3).mono ?_
  rintro e w' ⟨rfl, rvn, Ln, hcn, hk, hs⟩
  have ha := own_lt h5
  have hb := own_lt h6
  exact ⟨rfl, ⟨tb, rvn, Ln, hcn, hk.to_ext h2 h3, fun k hm => (hs k hm).elim (h3 k) (fun hh => Nat.le_trans h2.size hh), hok, own_kp h5 hk h7, own_kp h6 hk h8,
    fun k e hm => (hs k hm).elim (h7 k e) (fun hh => by have := ha k e; omega), fun k e hm => (hs k hm).elim (h8 k e) (fun hh => by have := hb k e; omega), h9⟩, h1.opk hk⟩
theorem Lv.append (h : Lv w0 w lg va vo S all other) (x : ByteArray) (hx : x.size ≤ 9223372036854775807) (hl : S.l.length ≤ 4294967296) :
    Calls Try.prog 18 #[.pointer (some ⟨lg, 0, none⟩), .string x] w fun e w' => e = .returned (.int .i64 (appL S x).1) ∧ Lv w0 w' lg va vo (appL S x).2 all other ∧ OpK w w' :=
  h.left (fun tb rv L hc _ => lappend_any lg tb rv L S x w hc h.ok hx hl) (appL_ok h.ok x)
theorem Lv.sync (h : Lv w0 w lg va vo S all other) (hl : S.l.length ≤ 4294967296) :
    Calls Try.prog 19 #[.pointer (some ⟨lg, 0, none⟩)] w fun e w' => e = .returned (.int .i64 (syncL S).1) ∧ Lv w0 w' lg va vo (syncL S).2 all other ∧ OpK w w' :=
  h.left (fun tb rv L hc _ => lsync_any lg tb rv L S w hc hl) (syncL_ok h.ok)
theorem Lv.rewrite (h : Lv w0 w lg va vo S all other) (v : Value) (l : List ByteArray) (n : Int) (hv : Txt w0 v l) (hl : l.length ≤ 1000) (hs : ∀ x ∈ l, x.size ≤ 400) (h1 : -9223372036854775808 ≤ n) (h2 : n ≤ 9223372036854775807) :
    Calls Try.prog 21 #[.pointer (some ⟨lg, 0, none⟩), v, .int .i64 n] w fun e w' => e = .returned (.int .i64 (rewL S l n).1) ∧ Lv w0 w' lg va vo (rewL S l n).2 all other ∧ OpK w w' :=
  h.left (fun tb rv L hc hb => rewrite_any lg tb rv L S v l n w hc (keep_old hv h.ext hb) hl hs h1 h2) (rewL_ok h.ok l hl hs n)
theorem Lv.crash (h : Lv w0 w lg va vo S all other) (keep other' : Int) (renamed : Bool) (hk1 : -9223372036854775808 ≤ keep) (hk2 : keep ≤ 9223372036854775807) (ho1 : -9223372036854775808 ≤ other') (ho2 : other' ≤ 9223372036854775807) :
    Calls Try.prog 22 #[.pointer (some ⟨S.g, 0, none⟩), .int .i64 keep, .int .i64 other', .bool renamed] w fun e w' => e = .returned (.int .i64 (crashR S.t keep other' renamed).1) ∧ Lv w0 w' lg va vo { S with t := (crashR S.t keep other' renamed).2 } all other ∧ OpK w w' :=
  h.left (fun tb rv L hc _ => by
    refine (crash_any S.g L S.t keep other' renamed w hc.file h.ok hk1 hk2 ho1 ho2).mono ?_
    rintro e w' ⟨rfl, hd⟩
    obtain ⟨L', hc', hk', hs'⟩ := hc.filed hd
    exact ⟨rfl, (LStep.file hk' hs').did hc'⟩) (h.ok.crash keep other' renamed)
theorem Lv.opened (h : Lv w0 w lg va vo S all other) :
    Calls Try.prog 16 #[.pointer (some ⟨S.g, 0, none⟩)] w fun e w' => ∃ lg', e = .returned (.tuple #[.pointer (some ⟨lg', 0, none⟩), .int .i64 0]) ∧ Lv w0 w' lg' va vo (openL S.g S.t) all other ∧ OpK w w' := by
  obtain ⟨tb, rv, L, h1, h2, h3, h4, h5, h6, h7, h8, h9⟩ := h
  refine (open_any S.g L S.t w h1.file h4).mono ?_
  rintro e w' ⟨lg', tb', rvn, Ln, rfl, hcn, hk, hs⟩
  have ha := own_lt h5
  have hb := own_lt h6
  have hbL : ∀ k ∈ L, k ∈ bl lg tb rv L := fun k hk => mem_bl.2 (.inr (.inr (.inr hk)))
  exact ⟨lg', rfl, ⟨tb', rvn, Ln, hcn, hk.to_ext h2 (fun k hk => h3 k (hbL k hk)), fun k hm => (hs k hm).elim (fun hh => h3 k (hbL k hh)) (fun hh => Nat.le_trans h2.size hh), openL_ok h4 S.g, own_kp h5 hk (fun k e hm => h7 k e (hbL k hm)), own_kp h6 hk (fun k e hm => h8 k e (hbL k hm)),
    fun k e hm => (hs k hm).elim (fun hh => h7 k e (hbL k hh)) (fun hh => by have := ha k e; omega), fun k e hm => (hs k hm).elim (fun hh => h8 k e (hbL k hh)) (fun hh => by have := hb k e; omega), h9⟩, h1.opk (hk.mono hbL)⟩
theorem Lv.records (h : Lv w0 w lg va vo S all other) (hl : S.l.length ≤ 4294967296) : Calls Try.prog 23 #[.pointer (some ⟨lg, 0, none⟩)] w fun e w' => ∃ u, e = .returned u ∧ Own w w' u S.l ∧ Ext w w' := by
  obtain ⟨tb, rv, L, h1, _⟩ := h
  exact records_any lg tb rv L S w h1 hl
theorem Lv.halted (h : Lv w0 w lg va vo S all other) : Calls Try.prog 20 #[.pointer (some ⟨lg, 0, none⟩)] w fun e w' => e = .returned (.bool S.halted) ∧ w = w' := by
  obtain ⟨tb, rv, L, h1, _⟩ := h
  exact halted_any lg tb rv L S w h1
/-- Another row of all records, made since. -/
theorem Lv.renew (h : Lv w0 w lg va vo S all other) (hx : Ext w w') (hu : Own w w' va' all') : Lv w0 w' lg va' vo S all' other := by
  obtain ⟨tb, rv, L, h1, h2, h3, h4, h5, h6, h7, h8, h9⟩ := h
  have hb := own_lt h6
  exact ⟨tb, rv, L, h1.ext hx, h2.trans hx, h3, h4, own_from hu h2.size, h6.ext hx, fun k e hm => by have := own_new hu k e; have := h1.lts k hm; omega, h8, fun k e e2 => by have := own_new hu k e; have := hb k e2; omega⟩
theorem Lv.reother (h : Lv w0 w lg va vo S all other) (hx : Ext w w') (hu : Own w w' vo' other') : Lv w0 w' lg va vo' S all other' := by
  obtain ⟨tb, rv, L, h1, h2, h3, h4, h5, h6, h7, h8, h9⟩ := h
  have ha := own_lt h5
  exact ⟨tb, rv, L, h1.ext hx, h2.trans hx, h3, h4, h5.ext hx, own_from hu h2.size, h7, fun k e hm => by have := own_new hu k e; have := h1.lts k hm; omega, fun k e e2 => by have := own_new hu k e2; have := ha k e; omega⟩
/-- A record is put behind all. -/
theorem Lv.put (h : Lv w0 w lg va vo S all other) (hp : Appended w w' w0.heap.size 9 1 va va' all'.length (all'.map .string)) : Lv w0 w' lg va' vo S all' other ∧ OpK w w' := by
  obtain ⟨tb, rv, L, h1, h2, h3, h4, h5, h6, h7, h8, h9⟩ := h
  have hk := ap_kp hp
  have hlt := h1.lts
  have hb := own_lt h6
  have hnew : ∀ k, va'.ownBlock = some k → va.ownBlock = some k ∨ w.heap.size ≤ k := fun k e => by
    rcases hp.lies with h1 | h1
    · exact .inl (by rw [← h1]; exact e)
    · rw [e] at h1
      injection h1 with h1
      exact .inr (by omega)
  refine ⟨⟨tb, rv, L, h1.kp hk ?_ (fun k hm hk => h7 k (by simpa using hk) hm), hk.to_ext h2 (fun k hk => own_new h5 k (by simpa using hk)), h3, h4, hp.own, own_kp h6 hk (fun k e hm => h9 k (by simpa using hm) e),
    fun k e hm => (hnew k e).elim (fun hh => h7 k hh hm) (fun hh => by have := hlt k hm; omega), h8, fun k e e2 => (hnew k e).elim (fun hh => h9 k hh e2) (fun hh => by have := hb k e2; omega)⟩, fun p c f hq => hk.heap hq (fun hm => ?_)⟩
  · intro k hm c f hc
    obtain ⟨c', f', h1⟩ := own_at h5 k (by simpa using hm)
    exact blocks_ne hc h1 (by decide) rfl
  · obtain ⟨c', f', h1⟩ := own_at h5 p (by simpa using hm)
    exact blocks_ne hq h1 (by decide) rfl
end
end Go.Proofs.Ytdndeggognfcaaa
