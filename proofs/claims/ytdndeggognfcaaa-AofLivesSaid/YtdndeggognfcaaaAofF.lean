/- AofPlays walked. -/
import Derived.Test.YtdndeggognfcaaaAofE
import Derived.Deep.CutRange
import Derived.Deep.CutBlock
import Derived.Deep.RegionHeld3
namespace Go.Proofs.Ytdndeggognfcaaa
open Go.RowKit Crc Fil
set_option linter.unusedVariables false
set_option linter.unusedSectionVars false
set_option linter.unusedSimpArgs false
set_option maxRecDepth 100000


/-- A law's calls stay as they are. -/
def OpK (w w' : World) : Prop := ∀ (p : Nat) (c : Array Value) (f : Nat × Nat), w.heap[p]? = some (Obj.cells c 36 f) → w'.heap[p]? = some (Obj.cells c 36 f)
theorem OpK.ext {w w' : World} (h : Ext w w') : OpK w w' := fun p c f hp => (Kp.of_ext (L := []) h).heap hp (by simp)
theorem LogC.opk {w w' : World} {lg tb : Nat} {rv : Value} {L : List Nat} {s : LSt} (h : LogC w lg tb rv L s) (hk : Kp (bl lg tb rv L) w w') : OpK w w' := fun p c f hp => hk.heap hp (fun hm => by
  rcases mem_bl.1 hm with rfl | rfl | hm | hm
  · exact blocks_ne hp h.blk (by decide) rfl
  · obtain ⟨cs, hb, _⟩ := h.tab
    exact blocks_ne hp hb (by decide) rfl
  · obtain ⟨c', f', h1⟩ := own_at h.own p hm
    exact blocks_ne hp h1 (by decide) rfl
  · exact h.file.other hp (by decide) (by decide) hm)
theorem RLogC.opk {w w' : World} {rl rg : Nat} {rv : Value} {s : LSt} (h : RLogC w rl rg rv s) (hk : Kp (rb rl rg rv) w w') : OpK w w' := fun p c f hp => hk.heap hp (fun hm => by
  rcases mem_rb.1 hm with rfl | rfl | hm
  · exact blocks_ne hp h.blk (by decide) rfl
  · exact blocks_ne hp h.file (by decide) rfl
  · obtain ⟨c', f', h1⟩ := own_at h.own p hm
    exact blocks_ne hp h1 (by decide) rfl)
theorem aop_cells {w : World} {ad : Addr} {xs : List AOp} {k : Nat} {o : AOp} (h : Rd w (some ad) (xs.flatMap opC)) (hx : xs[k]? = some o) :
    w.cell? (ad.add (k * 6)) = some (.int .i64 o.kind) ∧ w.cell? ⟨(ad.add (k * 6)).block, (ad.add (k * 6)).off + 1, none⟩ = some (.string o.s) ∧ w.cell? ⟨(ad.add (k * 6)).block, (ad.add (k * 6)).off + 2, none⟩ = some o.v ∧
    w.cell? ⟨(ad.add (k * 6)).block, (ad.add (k * 6)).off + 3, none⟩ = some (.int .i64 o.n) ∧ w.cell? ⟨(ad.add (k * 6)).block, (ad.add (k * 6)).off + 4, none⟩ = some (.int .i64 o.m) ∧ w.cell? ⟨(ad.add (k * 6)).block, (ad.add (k * 6)).off + 5, none⟩ = some (.bool o.ren) :=
  ⟨row_cell opC_len h k 0 hx rfl, row_field opC_len h k 1 (by decide) hx rfl, row_field opC_len h k 2 (by decide) hx rfl, row_field opC_len h k 3 (by decide) hx rfl, row_field opC_len h k 4 (by decide) hx rfl, row_field opC_len h k 5 (by decide) hx rfl⟩
/-- Both logs of a law (w0: the world in which it began). -/
def Pl (w0 w : World) (lg rl rg : Nat) (S R : LSt) : Prop :=
  ∃ tb rv L rv', LogC w lg tb rv L S ∧ RLogC w rl rg rv' R ∧ Ext w0 w ∧ (∀ k ∈ bl lg tb rv L, w0.heap.size ≤ k) ∧ (∀ k ∈ rb rl rg rv', w0.heap.size ≤ k) ∧ (∀ k ∈ bl lg tb rv L, k ∉ rb rl rg rv') ∧ S.t.Ok ∧ R.t.Ok
section
variable {w0 w w' : World} {lg rl rg : Nat} {S R S' R' : LSt}
theorem Pl.ext (h : Pl w0 w lg rl rg S R) : Ext w0 w := by obtain ⟨_, _, _, _, _, _, h, _⟩ := h; exact h
theorem Pl.ok (h : Pl w0 w lg rl rg S R) : S.t.Ok := by obtain ⟨_, _, _, _, _, _, _, _, _, _, h, _⟩ := h; exact h
theorem Pl.rok (h : Pl w0 w lg rl rg S R) : R.t.Ok := by obtain ⟨_, _, _, _, _, _, _, _, _, _, _, h⟩ := h; exact h
theorem Pl.later (h : Pl w0 w lg rl rg S R) (hx : Ext w w') : Pl w0 w' lg rl rg S R := by
  obtain ⟨tb, rv, L, rv', h1, h2, h3, h4, h5, h6, h7, h8⟩ := h
  exact ⟨tb, rv, L, rv', h1.ext hx, h2.ext hx, h3.trans hx, h4, h5, h6, h7, h8⟩
/-- A call of the program's log. -/
theorem Pl.left (h : Pl w0 w lg rl rg S R) {P : Program} {f : FuncId} {args : Array Value} {c : Int} (hc : ∀ tb rv L, LogC w lg tb rv L S → (∀ k ∈ bl lg tb rv L, w0.heap.size ≤ k) → Calls P f args w fun e w' => e = .returned (.int .i64 c) ∧ LDid w w' lg tb rv L S') (hok : S'.t.Ok) :
    Calls P f args w fun e w' => e = .returned (.int .i64 c) ∧ Pl w0 w' lg rl rg S' R ∧ OpK w w' := by
  obtain ⟨tb, rv, L, rv', h1, h2, h3, h4, h5, h6, h7, h8⟩ := h
  refine (hc tb rv L h1 h4).mono ?_
  rintro e w' ⟨rfl, rvn, Ln, hcn, hk, hs⟩
  have hlt := h2.lts
  exact ⟨rfl, ⟨tb, rvn, Ln, rv', hcn, h2.kp hk (fun k hm hb => h6 k hb hm), hk.to_ext h3 h4, fun k hm => (hs k hm).elim (h4 k) (fun hh => Nat.le_trans h3.size hh), h5,
    fun k hm hr => (hs k hm).elim (fun hb => h6 k hb hr) (fun hh => by have := hlt k hr; omega), hok, h8⟩, h1.opk hk⟩
/-- A call of the document's log. -/
theorem Pl.right (h : Pl w0 w lg rl rg S R) {P : Program} {f : FuncId} {args : Array Value} {c : Int} (hc : ∀ rv', RLogC w rl rg rv' R → (∀ k ∈ rb rl rg rv', w0.heap.size ≤ k) → Calls P f args w fun e w' => e = .returned (.int .i64 c) ∧ RDid w w' rl rg rv' R') (hok : R'.t.Ok) :
    Calls P f args w fun e w' => e = .returned (.int .i64 c) ∧ Pl w0 w' lg rl rg S R' ∧ OpK w w' := by
  obtain ⟨tb, rv, L, rv', h1, h2, h3, h4, h5, h6, h7, h8⟩ := h
  refine (hc rv' h2 h5).mono ?_
  rintro e w' ⟨rfl, rvn, hcn, hk, hs⟩
  have hlt := h1.lts
  exact ⟨rfl, ⟨tb, rv, L, rvn, h1.kp hk h2.nob (fun k hm => h6 k hm), hcn, hk.to_ext h3 h5, h4, fun k hm => (hs k hm).elim (h5 k) (fun hh => Nat.le_trans h3.size hh),
    fun k hm hr => (hs k hr).elim (fun hb => h6 k hm hb) (fun hh => by have := hlt k hm; omega), h7, hok⟩, h2.opk hk⟩
theorem Pl.append (h : Pl w0 w lg rl rg S R) (x : ByteArray) (hx : x.size ≤ 9223372036854775807) (hl : S.l.length ≤ 4294967296) :
    Calls Try.prog 18 #[.pointer (some ⟨lg, 0, none⟩), .string x] w fun e w' => e = .returned (.int .i64 (appL S x).1) ∧ Pl w0 w' lg rl rg (appL S x).2 R ∧ OpK w w' :=
  h.left (fun tb rv L hc _ => lappend_any lg tb rv L S x w hc h.ok hx hl) (appL_ok h.ok x)
theorem Pl.rAppend (h : Pl w0 w lg rl rg S R) (x : ByteArray) (hx : x.size ≤ 9223372036854775807) (hl : R.l.length ≤ 4294967296) :
    Calls Try.prog 29 #[.pointer (some ⟨rl, 0, none⟩), .string x] w fun e w' => e = .returned (.int .i64 (appL R x).1) ∧ Pl w0 w' lg rl rg S (appL R x).2 ∧ OpK w w' :=
  h.right (fun rv hc _ => rlAppend_any rl rg rv R x w hc h.rok hx hl) (appL_ok h.rok x)
theorem Pl.sync (h : Pl w0 w lg rl rg S R) (hl : S.l.length ≤ 4294967296) :
    Calls Try.prog 19 #[.pointer (some ⟨lg, 0, none⟩)] w fun e w' => e = .returned (.int .i64 (syncL S).1) ∧ Pl w0 w' lg rl rg (syncL S).2 R ∧ OpK w w' :=
  h.left (fun tb rv L hc _ => lsync_any lg tb rv L S w hc hl) (syncL_ok h.ok)
theorem Pl.rSync (h : Pl w0 w lg rl rg S R) (hl : R.l.length ≤ 4294967296) :
    Calls Try.prog 30 #[.pointer (some ⟨rl, 0, none⟩)] w fun e w' => e = .returned (.int .i64 (syncL R).1) ∧ Pl w0 w' lg rl rg S (syncL R).2 ∧ OpK w w' :=
  h.right (fun rv hc _ => rlSync_any rl rg rv R w hc h.rok hl) (syncL_ok h.rok)
theorem Pl.rewrite (h : Pl w0 w lg rl rg S R) (v : Value) (l : List ByteArray) (n : Int) (hv : Txt w0 v l) (hl : l.length ≤ 1000) (hs : ∀ x ∈ l, x.size ≤ 400) (h1 : -9223372036854775808 ≤ n) (h2 : n ≤ 9223372036854775807) :
    Calls Try.prog 21 #[.pointer (some ⟨lg, 0, none⟩), v, .int .i64 n] w fun e w' => e = .returned (.int .i64 (rewL S l n).1) ∧ Pl w0 w' lg rl rg (rewL S l n).2 R ∧ OpK w w' :=
  h.left (fun tb rv L hc hb => rewrite_any lg tb rv L S v l n w hc (keep_old hv h.ext hb) hl hs h1 h2) (rewL_ok h.ok l hl hs n)
theorem Pl.rRewrite (h : Pl w0 w lg rl rg S R) (v : Value) (l : List ByteArray) (n : Int) (hv : Txt w0 v l) (hl : l.length ≤ 1000) (hs : ∀ x ∈ l, x.size ≤ 400) (h1 : -9223372036854775808 ≤ n) (h2 : n ≤ 9223372036854775807) :
    Calls Try.prog 31 #[.pointer (some ⟨rl, 0, none⟩), v, .int .i64 n] w fun e w' => e = .returned (.int .i64 (rewL R l n).1) ∧ Pl w0 w' lg rl rg S (rewL R l n).2 ∧ OpK w w' :=
  h.right (fun rv hc hb => rlRewrite_any rl rg rv R v l n w hc h.rok (keep_old hv h.ext hb) hl hs h1 h2) (rewL_ok h.rok l hl hs n)
theorem Pl.crash (h : Pl w0 w lg rl rg S R) (keep other : Int) (renamed : Bool) (hk1 : -9223372036854775808 ≤ keep) (hk2 : keep ≤ 9223372036854775807) (ho1 : -9223372036854775808 ≤ other) (ho2 : other ≤ 9223372036854775807) :
    Calls Try.prog 22 #[.pointer (some ⟨S.g, 0, none⟩), .int .i64 keep, .int .i64 other, .bool renamed] w fun e w' => e = .returned (.int .i64 (crashR S.t keep other renamed).1) ∧ Pl w0 w' lg rl rg { S with t := (crashR S.t keep other renamed).2 } R ∧ OpK w w' :=
  h.left (fun tb rv L hc _ => by
    refine (crash_any S.g L S.t keep other renamed w hc.file h.ok hk1 hk2 ho1 ho2).mono ?_
    rintro e w' ⟨rfl, hd⟩
    obtain ⟨L', hc', hk', hs'⟩ := hc.filed hd
    exact ⟨rfl, (LStep.file hk' hs').did hc'⟩) (h.ok.crash keep other renamed)
theorem Pl.rCrash (h : Pl w0 w lg rl rg S R) (keep other : Int) (renamed : Bool) (hk1 : -9223372036854775808 ≤ keep) (hk2 : keep ≤ 9223372036854775807) (ho1 : -9223372036854775808 ≤ other) (ho2 : other ≤ 9223372036854775807) :
    Calls Try.prog 32 #[.pointer (some ⟨rg, 0, none⟩), .int .i64 keep, .int .i64 other, .bool renamed] w fun e w' => e = .returned (.int .i64 (crashR R.t keep other renamed).1) ∧ Pl w0 w' lg rl rg S { R with t := (crashR R.t keep other renamed).2 } ∧ OpK w w' :=
  h.right (fun rv hc _ => by
    refine (rCrash_any rg R.t keep other renamed w hc.file h.rok hk1 hk2 ho1 ho2).mono ?_
    rintro e w' ⟨rfl, hk', hf'⟩
    exact ⟨rfl, (RStep.file hk').did (hc.filed hk' hf')⟩) (h.rok.crash keep other renamed)
theorem Pl.opened (h : Pl w0 w lg rl rg S R) :
    Calls Try.prog 16 #[.pointer (some ⟨S.g, 0, none⟩)] w fun e w' => ∃ lg', e = .returned (.tuple #[.pointer (some ⟨lg', 0, none⟩), .int .i64 0]) ∧ Pl w0 w' lg' rl rg (openL S.g S.t) R ∧ OpK w w' := by
  obtain ⟨tb, rv, L, rv', h1, h2, h3, h4, h5, h6, h7, h8⟩ := h
  refine (open_any S.g L S.t w h1.file h7).mono ?_
  rintro e w' ⟨lg', tb', rvn, Ln, rfl, hcn, hk, hs⟩
  have hlt := h2.lts
  have hbL : ∀ k ∈ L, k ∈ bl lg tb rv L := fun k hk => mem_bl.2 (.inr (.inr (.inr hk)))
  exact ⟨lg', rfl, ⟨tb', rvn, Ln, rv', hcn, h2.kp hk (fun k hm hb => h6 k (hbL k hb) hm), hk.to_ext h3 (fun k hk => h4 k (hbL k hk)), fun k hm => (hs k hm).elim (fun hh => h4 k (hbL k hh)) (fun hh => Nat.le_trans h3.size hh), h5,
    fun k hm hr => (hs k hm).elim (fun hb => h6 k (hbL k hb) hr) (fun hh => by have := hlt k hr; omega), openL_ok h7 S.g, h8⟩, h1.opk (hk.mono hbL)⟩
theorem Pl.rOpened (h : Pl w0 w lg rl rg S R) (g : Nat) :
    Calls Try.prog 28 #[.pointer (some ⟨rg, 0, none⟩)] w fun e w' => ∃ rl', e = .returned (.pointer (some ⟨rl', 0, none⟩)) ∧ Pl w0 w' lg rl' rg S (openL g R.t) ∧ OpK w w' := by
  obtain ⟨tb, rv, L, rv', h1, h2, h3, h4, h5, h6, h7, h8⟩ := h
  refine (rOpen_any g rg R.t w h2.file h8).mono ?_
  rintro e w' ⟨rl', rvn, rfl, hcn, hk, hs⟩
  have hlt := h1.lts
  have hbr : ∀ k ∈ [rg], k ∈ rb rl rg rv' := fun k hk => mem_rb.2 (.inr (.inl (by simpa using hk)))
  exact ⟨rl', rfl, ⟨tb, rv, L, rvn, h1.kp hk (h2.nob.sub hbr) (fun k hm hb => h6 k hm (hbr k hb)), hcn, hk.to_ext h3 (fun k hk => h5 k (hbr k hk)), h4, fun k hm => (hs k hm).elim (fun hh => h5 k (hbr k hh)) (fun hh => Nat.le_trans h3.size hh),
    fun k hm hr => (hs k hr).elim (fun hb => h6 k hm (hbr k hb)) (fun hh => by have := hlt k hm; omega), h7, openL_ok h8 g⟩, h2.opk (hk.mono hbr)⟩
end
theorem appL_len (S : LSt) (x : ByteArray) : (appL S x).2.l.length ≤ S.l.length + 1 ∧ (appL S x).2.g = S.g := by
  unfold appL
  split
  · exact ⟨by simp, rfl⟩
  split
  · exact ⟨by simp, rfl⟩
  split
  · exact ⟨by simp, rfl⟩
  · exact ⟨by simp, rfl⟩
theorem syncL_len (S : LSt) : (syncL S).2.l.length = S.l.length ∧ (syncL S).2.g = S.g := by
  unfold syncL
  split <;> exact ⟨rfl, rfl⟩
theorem rewL_len (S : LSt) (l : List ByteArray) (n : Int) : ((rewL S l n).2.l.length ≤ S.l.length ∨ (rewL S l n).2.l.length ≤ l.length) ∧ (rewL S l n).2.g = S.g := by
  unfold rewL
  split
  · exact ⟨.inl (Nat.le_refl _), rfl⟩
  split
  · exact ⟨.inl (Nat.le_refl _), rfl⟩
  split
  · exact ⟨.inl (Nat.le_refl _), rfl⟩
  · exact ⟨.inr (Nat.le_refl _), rfl⟩
theorem openL_len (g : Nat) (t : St) (h : t.Ok) : (openL g t).l.length ≤ 2097152 := by
  have hto := h.text.1
  dsimp only at hto
  obtain ⟨h1, r, h2, _⟩ := read_good t.s.toList
  have := congrArg List.length h2
  rw [List.length_append, size_list] at this
  have h3 := frms_len8 _ h1
  show ((readL t.s.toList).map bs).length ≤ _
  rw [List.length_map]
  omega
/-- Both files, before a log is opened. -/
def Fl (w0 w : World) (g rg : Nat) (t t' : St) : Prop := ∃ L, Ext w0 w ∧ FileAt w g L t ∧ (∀ k ∈ L, w0.heap.size ≤ k) ∧ t.Ok ∧ RefAt w rg t' ∧ w0.heap.size ≤ rg ∧ t'.Ok
section
variable {w0 w w' : World} {g rg : Nat} {t t' : St}
theorem Fl.append (h : Fl w0 w g rg t t') (s : ByteArray) (hs : s.size ≤ 9223372036854775807) :
    Calls Try.prog 26 #[.pointer (some ⟨g, 0, none⟩), .string s] w fun e w' => e = .returned (.int .i64 (appendR t s).1) ∧ Fl w0 w' g rg (appendR t s).2 t' := by
  obtain ⟨L, h1, h2, h3, h4, h5, h6, h7⟩ := h
  refine (append_did g L t s w h2 h4 hs).mono ?_
  rintro e w' ⟨rfl, hk, L', hf, hsb⟩
  exact ⟨rfl, L', hk.to_ext h1 h3, hf, fun k hm => (hsb k hm).elim (h3 k) (fun hh => Nat.le_trans h1.size hh), h4.append s, h5.kp hk (h2.other h5 (by decide) (by decide)), h6, h7⟩
theorem Fl.rAppend (h : Fl w0 w g rg t t') (s : ByteArray) (hs : s.size ≤ 140737488351232) :
    Calls Try.prog 27 #[.pointer (some ⟨rg, 0, none⟩), .string s] w fun e w' => e = .returned (.int .i64 (appendR t' s).1) ∧ Fl w0 w' g rg t (appendR t' s).2 := by
  obtain ⟨L, h1, h2, h3, h4, h5, h6, h7⟩ := h
  refine (rAppend_any rg t' s w h5 h7.text.1 hs).mono ?_
  rintro e w' ⟨rfl, hk, hf⟩
  have hrL := h2.other h5 (by decide) (by decide)
  exact ⟨rfl, L, hk.to_ext h1 (by simpa using h6), h2.kp hk (nob_of h5 (by decide)) (fun k hm hk => by simp at hk; exact hrL (hk ▸ hm)), h3, h4, hf, h6, h7.append s⟩
/-- The program's log is opened, the document's not yet. -/
def Pm (w0 w : World) (lg rg : Nat) (S : LSt) (t' : St) : Prop := ∃ tb rv L, LogC w lg tb rv L S ∧ Ext w0 w ∧ (∀ k ∈ bl lg tb rv L, w0.heap.size ≤ k) ∧ S.t.Ok ∧ RefAt w rg t' ∧ w0.heap.size ≤ rg ∧ t'.Ok ∧ rg ∉ bl lg tb rv L
theorem Fl.opened (h : Fl w0 w g rg t t') :
    Calls Try.prog 16 #[.pointer (some ⟨g, 0, none⟩)] w fun e w' => ∃ lg, e = .returned (.tuple #[.pointer (some ⟨lg, 0, none⟩), .int .i64 0]) ∧ Pm w0 w' lg rg (openL g t) t' := by
  obtain ⟨L, h1, h2, h3, h4, h5, h6, h7⟩ := h
  have hrL := h2.other h5 (by decide) (by decide)
  have hlt := (Array.getElem?_eq_some_iff.1 h5).1
  refine (open_any g L t w h2 h4).mono ?_
  rintro e w' ⟨lg, tb, rv, L', rfl, hc, hk, hs⟩
  exact ⟨lg, rfl, tb, rv, L', hc, hk.to_ext h1 h3, fun k hm => (hs k hm).elim (h3 k) (fun hh => Nat.le_trans h1.size hh), openL_ok h4 g, h5.kp hk hrL, h6, h7, fun hm => (hs rg hm).elim hrL (fun hh => by omega)⟩
theorem Pm.opened {lg : Nat} {S : LSt} (h : Pm w0 w lg rg S t') (g : Nat) :
    Calls Try.prog 28 #[.pointer (some ⟨rg, 0, none⟩)] w fun e w' => ∃ rl, e = .returned (.pointer (some ⟨rl, 0, none⟩)) ∧ Pl w0 w' lg rl rg S (openL g t') := by
  obtain ⟨tb, rv, L, h1, h2, h3, h4, h5, h6, h7, h8⟩ := h
  have hlt := h1.lts
  refine (rOpen_any g rg t' w h5 h7).mono ?_
  rintro e w' ⟨rl, rv', rfl, hc, hk, hs⟩
  exact ⟨rl, rfl, tb, rv, L, rv', h1.kp hk (nob_of h5 (by decide)) (fun k hm hk => by simp at hk; exact h8 (hk ▸ hm)), hc, hk.to_ext h2 (by simpa using h6), h3, fun k hm => (hs k hm).elim (fun hh => by simp at hh; omega) (fun hh => Nat.le_trans h2.size hh),
    fun k hm hr => (hs k hr).elim (fun hh => by simp at hh; exact h8 (hh ▸ hm)) (fun hh => by have := hlt k hm; omega), h4, openL_ok h7 g⟩
end
theorem Pl.records {w0 w : World} {lg rl rg : Nat} {S R : LSt} (h : Pl w0 w lg rl rg S R) (hl : S.l.length ≤ 4294967296) : Calls Try.prog 23 #[.pointer (some ⟨lg, 0, none⟩)] w fun e w' => ∃ u, e = .returned u ∧ Own w w' u S.l ∧ Ext w w' := by
  obtain ⟨tb, rv, L, rv', h1, _⟩ := h
  exact records_any lg tb rv L S w h1 hl
theorem Pl.cells {w0 w : World} {lg rl rg : Nat} {S R : LSt} (h : Pl w0 w lg rl rg S R) : ∃ rv', (∀ wz, Ext w wz → wz.cell? ⟨rl, 1, none⟩ = some rv' ∧ wz.cell? ⟨rl, 2, none⟩ = some (.int .i64 (R.sure : Int)) ∧ wz.cell? ⟨rl, 3, none⟩ = some (.bool R.halted) ∧
    wz.cell? ⟨rg, 0, none⟩ = some (.string R.t.s) ∧ wz.cell? ⟨rg, 1, none⟩ = some (.int .i64 (R.t.sure : Int))) ∧ Txt w rv' R.l := by
  obtain ⟨tb, rv, L, rv', h1, h2, _⟩ := h
  refine ⟨rv', fun wz hx => ?_, own_txt h2.own⟩
  have h3 := h2.ext hx
  obtain ⟨c0, c1, c2, c3⟩ := h3.cells
  exact ⟨c1, c2, c3, heap_cell h3.file 0, heap_cell h3.file 1⟩
theorem Pl.lsure {w0 w : World} {lg rl rg : Nat} {S R : LSt} (h : Pl w0 w lg rl rg S R) : Calls Try.prog 25 #[.pointer (some ⟨lg, 0, none⟩)] w fun e w' => e = .returned (.int .i64 (S.sure : Int)) ∧ w = w' := by
  obtain ⟨tb, rv, L, rv', h1, _⟩ := h
  exact lsure_any lg tb rv L S w h1
theorem Pl.halted {w0 w : World} {lg rl rg : Nat} {S R : LSt} (h : Pl w0 w lg rl rg S R) : Calls Try.prog 20 #[.pointer (some ⟨lg, 0, none⟩)] w fun e w' => e = .returned (.bool S.halted) ∧ w = w' := by
  obtain ⟨tb, rv, L, rv', h1, _⟩ := h
  exact halted_any lg tb rv L S w h1
theorem Pl.text {w0 w : World} {lg rl rg : Nat} {S R : LSt} (h : Pl w0 w lg rl rg S R) : Calls Try.prog 33 #[.pointer (some ⟨S.g, 0, none⟩)] w fun e w' => e = .returned (.string S.t.s) ∧ w = w' := by
  obtain ⟨tb, rv, L, rv', h1, _⟩ := h
  exact text_any S.g L S.t w h1.file
theorem Pl.fsure {w0 w : World} {lg rl rg : Nat} {S R : LSt} (h : Pl w0 w lg rl rg S R) : Calls Try.prog 34 #[.pointer (some ⟨S.g, 0, none⟩)] w fun e w' => e = .returned (.int .i64 (S.t.sure : Int)) ∧ w = w' := by
  obtain ⟨tb, rv, L, rv', h1, _⟩ := h
  exact sure_any S.g L S.t w h1.file
theorem append_zero (x : ByteArray) (hx : x.size ≤ 16777216) : appendR St.empty x = (0, ⟨x, 0, none, none⟩) := by
  unfold appendR
  rw [if_neg (by show ¬ (0 + x.size > 16777216); omega)]
  have : St.empty.s ++ x = x := bytes_ext (by rw [toList_append2, empty_list]; rfl)
  rw [this]
  rfl
theorem ref_new (w : World) : RefAt (w.alloc (.cells #[.string ⟨#[]⟩, .int .i64 0, .string ⟨#[]⟩, .int .i64 0, .bool false, .string ⟨#[]⟩, .int .i64 0, .bool false] 54)) w.heap.size St.empty :=
  heap_alloc_new w (.cells #[.string ⟨#[]⟩, .int .i64 0, .string ⟨#[]⟩, .int .i64 0, .bool false, .string ⟨#[]⟩, .int .i64 0, .bool false] 54 (0, 0))
set_option maxHeartbeats 20000000 in
theorem aofPlays_any (junk : ByteArray) (v : Value) (xs : List AOp) (w : World) (hv : Row opC w v xs) (hok : ∀ x ∈ xs, AOpOk w x) : Calls Try.prog 7 #[.string junk, v] w fun e w' => e = .returned (.bool true) ∧ Ext w w' := by
  obtain ⟨A, n, c, rfl, hn, hnc, hcm, hr⟩ := hv
  have HN := Lib.hid hn
  have HR := Lib.hid hr
  have HOK := Lib.hid hok
  have hc' : c ≤ 9223372036854775807 := by simpa [maxLen] using hcm
  clear hn hr hok hcm
  go_enter Try.func7, Try.ntmps7
  go_wp2_with fail
  refine (new_own w w (Ext.refl _)).mono ?_
  rintro e w1 ⟨g, rfl, hf1, hx1⟩
  have HF1 := Lib.hid hf1
  clear hf1 hx1
  by_cases hj : junk.size ≤ 500
  · have hjI : decide ((500 : Int) < (junk.size : Int)) = false := decide_eq_false (by omega)
    go_upto_region 3 with fail
    have hfl : Fl w (w1.alloc (.cells #[.string ⟨#[]⟩, .int .i64 0, .string ⟨#[]⟩, .int .i64 0, .bool false, .string ⟨#[]⟩, .int .i64 0, .bool false] 54)) g w1.heap.size St.empty St.empty := by
      obtain ⟨L, h1, h2, h3, h4⟩ := HF1.out.later (Ext.alloc w1 (.cells #[.string ⟨#[]⟩, .int .i64 0, .string ⟨#[]⟩, .int .i64 0, .bool false, .string ⟨#[]⟩, .int .i64 0, .bool false] 54))
      exact ⟨L, h1, h2, h3, h4, ref_new w1, HF1.out.ext.size, St.Ok.empty⟩
    generalize w1.heap.size = rg at hfl ⊢
    generalize w1.alloc (.cells #[.string ⟨#[]⟩, .int .i64 0, .string ⟨#[]⟩, .int .i64 0, .bool false, .string ⟨#[]⟩, .int .i64 0, .bool false] 54) = w2 at hfl ⊢
    have HF2 := Lib.hid hfl
    have hap := append_zero junk (by omega)
    clear hfl
    go_wp2_with fail
    refine (HF2.out.append junk (by omega)).mono ?_
    rintro e w3 ⟨rfl, hf3⟩
    have HF3 := Lib.hid hf3
    clear hf3
    go_wp2_with fail
    refine (HF3.out.rAppend junk (by omega)).mono ?_
    rintro e w4 ⟨rfl, hf4⟩
    have HF4 := Lib.hid hf4
    clear hf4
    rw [hap] at HF4 ⊢
    go_wp2_with fail
    refine (HF4.out.opened).mono ?_
    rintro e w5 ⟨lg, rfl, hp5⟩
    have HP5 := Lib.hid hp5
    clear hp5
    go_wp2_with fail
    refine (HP5.out.opened g).mono ?_
    rintro e w6 ⟨rl, rfl, hp6⟩
    have hol := openL_len g _ (ok_of hap (St.Ok.empty.append junk))
    have hog : (openL g ⟨junk, 0, none, none⟩).g = g := rfl
    try dsimp only at hp6
    generalize openL g ⟨junk, 0, none, none⟩ = S at hp6 hol hog
    have HP6 := Lib.hid hp6
    have HG := Lib.hid hog
    obtain ⟨rv', hcs, htx⟩ := hp6.cells
    obtain ⟨A', n', c', hAA, htx'⟩ := htx
    subst hAA
    have HCS := Lib.hid hcs
    have HTX : Hid (Txt w6 (.slice A' n' c') S.l) := Lib.hid ⟨A', n', c', rfl, htx'⟩
    clear hp6 hog hcs htx' hap
    go_wp2_with fail
    refine wp_region_held_drew (S := fun wz => wz.cell? ⟨rl, 1, none⟩ = some (.slice A' n' c')) (by kernel_rfl) (HCS.out w6 (Ext.refl _)).1 (fun hHeld => ?_)
    have hxt : Ext w6 w6.drew := Ext.drew _
    generalize w6.drew = v7 at hxt hHeld ⊢
    refine' wpAnyH_take (i := 0) (oi := _) (v := _) ?hi1 ?hs1 ?hf1 ?hr1 ?hQ1 (Or.inl ⟨?hw1, ?hy1⟩) (by assumption) ?hrest1
    case hi1 => simp only [List.getElem?_toArray]; rfl
    case hs1 => kernel_rfl
    case hf1 => kernel_rfl
    case hr1 => kernel_rfl
    case hQ1 => exact fun _ _ _ h => h
    case hw1 => rfl
    case hy1 => intro w hSw; (try dsimp only at hSw); go_simp; try with_reducible rfl
    try simp only [Act.put, List.setIfInBounds_toArray, List.set_cons_zero, List.set_cons_succ]
    refine' wpAnyH_take (i := 1) (oi := _) (v := _) ?hi2 ?hs2 ?hf2 ?hr2 ?hQ2 (Or.inl ⟨?hw2, ?hy2⟩) (by assumption) ?hrest2
    case hi2 => simp only [List.getElem?_toArray]; rfl
    case hs2 => kernel_rfl
    case hf2 => kernel_rfl
    case hr2 => kernel_rfl
    case hQ2 => exact fun _ _ _ h => h
    case hw2 => rfl
    case hy2 => intro w hSw; (try dsimp only at hSw); go_simp; try with_reducible rfl
    try simp only [Act.put, List.setIfInBounds_toArray, List.set_cons_zero, List.set_cons_succ]
    refine' wpAnyH_take (i := 2) (oi := _) (v := _) ?hi3 ?hs3 ?hf3 ?hr3 ?hQ3 (Or.inl ⟨?hw3, ?hy3⟩) (by assumption) ?hrest3
    case hi3 => simp only [List.getElem?_toArray]; rfl
    case hs3 => kernel_rfl
    case hf3 => kernel_rfl
    case hr3 => kernel_rfl
    case hQ3 => exact fun _ _ _ h => h
    case hw3 => rfl
    case hy3 => intro w hSw; (try dsimp only at hSw); go_simp; try with_reducible rfl
    try simp only [Act.put, List.setIfInBounds_toArray, List.set_cons_zero, List.set_cons_succ]
    refine' wpAnyH_take (i := 3) (oi := _) (v := _) ?hi4 ?hs4 ?hf4 ?hr4 ?hQ4 (Or.inl ⟨?hw4, ?hy4⟩) (by assumption) ?hrest4
    case hi4 => simp only [List.getElem?_toArray]; rfl
    case hs4 => kernel_rfl
    case hf4 => kernel_rfl
    case hr4 => kernel_rfl
    case hQ4 => exact fun _ _ _ h => h
    case hw4 => rfl
    case hy4 => intro w hSw; (try dsimp only at hSw); go_simp; try with_reducible rfl
    try simp only [Act.put, List.setIfInBounds_toArray, List.set_cons_zero, List.set_cons_succ]
    refine' wpAnyH_take (i := 4) (oi := _) (v := _) ?hi5 ?hs5 ?hf5 ?hr5 ?hQ5 (Or.inl ⟨?hw5, ?hy5⟩) (by assumption) ?hrest5
    case hi5 => simp only [List.getElem?_toArray]; rfl
    case hs5 => kernel_rfl
    case hf5 => kernel_rfl
    case hr5 => kernel_rfl
    case hQ5 => exact fun _ _ _ h => h
    case hw5 => rfl
    case hy5 => intro w hSw; (try dsimp only at hSw); go_simp; try with_reducible rfl
    try simp only [Act.put, List.setIfInBounds_toArray, List.set_cons_zero, List.set_cons_succ]
    refine' wpAnyH_take (i := 5) (oi := _) (v := _) ?hi6 ?hs6 ?hf6 ?hr6 ?hQ6 (Or.inl ⟨?hw6, ?hy6⟩) (by assumption) ?hrest6
    case hi6 => simp only [List.getElem?_toArray]; rfl
    case hs6 => kernel_rfl
    case hf6 => kernel_rfl
    case hr6 => kernel_rfl
    case hQ6 => exact fun _ _ _ h => h
    case hw6 => rfl
    case hy6 => intro w hSw; (try dsimp only at hSw); go_simp; try with_reducible rfl
    try simp only [Act.put, List.setIfInBounds_toArray, List.set_cons_zero, List.set_cons_succ]
    refine' wpAnyH_take (i := 6) (oi := _) (v := _) ?hi7 ?hs7 ?hf7 ?hr7 ?hQ7 (Or.inl ⟨?hw7, ?hy7⟩) (by assumption) ?hrest7
    case hi7 => simp only [List.getElem?_toArray]; rfl
    case hs7 => kernel_rfl
    case hf7 => kernel_rfl
    case hr7 => kernel_rfl
    case hQ7 => exact fun _ _ _ h => h
    case hw7 => rfl
    case hy7 => intro w hSw; (try dsimp only at hSw); go_simp; try with_reducible rfl
    try simp only [Act.put, List.setIfInBounds_toArray, List.set_cons_zero, List.set_cons_succ]
    refine' wpAnyH_take (i := 7) (oi := _) (v := _) ?hi8 ?hs8 ?hf8 ?hr8 ?hQ8 (Or.inl ⟨?hw8, ?hy8⟩) (by assumption) ?hrest8
    case hi8 => simp only [List.getElem?_toArray]; rfl
    case hs8 => kernel_rfl
    case hf8 => kernel_rfl
    case hr8 => kernel_rfl
    case hQ8 => exact fun _ _ _ h => h
    case hw8 => rfl
    case hy8 => intro w hSw; (try dsimp only at hSw); go_simp; try with_reducible rfl
    try simp only [Act.put, List.setIfInBounds_toArray, List.set_cons_zero, List.set_cons_succ]
    refine' wpAnyH_take (i := 9) (oi := _) (v := _) ?hi9 ?hs9 ?hf9 ?hr9 ?hQ9 (Or.inl ⟨?hw9, ?hy9⟩) (by assumption) ?hrest9
    case hi9 => simp only [List.getElem?_toArray]; rfl
    case hs9 => kernel_rfl
    case hf9 => kernel_rfl
    case hr9 => kernel_rfl
    case hQ9 => exact fun _ _ _ h => h
    case hw9 => rfl
    case hy9 => intro w hSw; (try dsimp only at hSw); go_simp; try with_reducible rfl
    try simp only [Act.put, List.setIfInBounds_toArray, List.set_cons_zero, List.set_cons_succ]
    refine' wpAnyH_take (i := 10) (oi := _) (v := _) ?hi10 ?hs10 ?hf10 ?hr10 ?hQ10 (Or.inl ⟨?hw10, ?hy10⟩) (by assumption) ?hrest10
    case hi10 => simp only [List.getElem?_toArray]; rfl
    case hs10 => kernel_rfl
    case hf10 => kernel_rfl
    case hr10 => kernel_rfl
    case hQ10 => exact fun _ _ _ h => h
    case hw10 => rfl
    case hy10 => intro w hSw; (try dsimp only at hSw); go_simp; try with_reducible rfl
    try simp only [Act.put, List.setIfInBounds_toArray, List.set_cons_zero, List.set_cons_succ]
    refine' wpAnyH_take (i := 11) (oi := _) (v := _) ?hi11 ?hs11 ?hf11 ?hr11 ?hQ11 (Or.inl ⟨?hw11, ?hy11⟩) (by assumption) ?hrest11
    case hi11 => simp only [List.getElem?_toArray]; rfl
    case hs11 => kernel_rfl
    case hf11 => kernel_rfl
    case hr11 => kernel_rfl
    case hQ11 => exact fun _ _ _ h => h
    case hw11 => rfl
    case hy11 => intro w hSw; (try dsimp only at hSw); go_simp; try with_reducible rfl
    try simp only [Act.put, List.setIfInBounds_toArray, List.set_cons_zero, List.set_cons_succ]
    refine' wpAnyH_take (i := 12) (oi := _) (v := _) ?hi12 ?hs12 ?hf12 ?hr12 ?hQ12 (Or.inl ⟨?hw12, ?hy12⟩) (by assumption) ?hrest12
    case hi12 => simp only [List.getElem?_toArray]; rfl
    case hs12 => kernel_rfl
    case hf12 => kernel_rfl
    case hr12 => kernel_rfl
    case hQ12 => exact fun _ _ _ h => h
    case hw12 => rfl
    case hy12 => intro w hSw; (try dsimp only at hSw); go_simp; try with_reducible rfl
    try simp only [Act.put, List.setIfInBounds_toArray, List.set_cons_zero, List.set_cons_succ]
    refine wpAnyH_ready (rs := [8]) (by kernel_rfl) (by simp) ?_
    refine' AllReadyH.cons (o := _) ?ho13 (fun K hK => ?hstep13) AllReadyH.nil
    case ho13 => simp only [List.getElem?_toArray]; rfl
    go_simp
    refine ((HP6.out.later hxt).records (by omega)).mono ?_
    rintro e v8 ⟨u, rfl, hu, hx8⟩
    have hxt8 := hxt.trans hx8
    refine hK.out _ _ ((HCS.out v8 hxt8).1) (fun hHeld => ?_)
    clear hK K
    try simp only [Act.put, List.setIfInBounds_toArray, List.set_cons_zero, List.set_cons_succ]
    refine wpAnyH_ready (rs := [13]) (by kernel_rfl) (by simp) ?_
    refine' AllReadyH.cons (o := _) ?ho15 (fun K hK => ?hstep15) AllReadyH.nil
    case ho15 => simp only [List.getElem?_toArray]; rfl
    go_simp
    refine (same_yes _ _ S.l S.l v8 hu.txt (HTX.out.ext hxt8) rfl).mono ?_
    rintro e v9 ⟨rfl, hx9⟩
    have hxt9 := hxt8.trans hx9
    refine hK.out _ _ ((HCS.out v9 hxt9).1) (fun hHeld => ?_)
    clear hK K
    try simp only [Act.put, List.setIfInBounds_toArray, List.set_cons_zero, List.set_cons_succ]
    refine' wpAnyH_take (i := 14) (oi := _) (v := _) ?hi17 ?hs17 ?hf17 ?hr17 ?hQ17 (Or.inl ⟨?hw17, ?hy17⟩) (by assumption) ?hrest17
    case hi17 => simp only [List.getElem?_toArray]; rfl
    case hs17 => kernel_rfl
    case hf17 => kernel_rfl
    case hr17 => kernel_rfl
    case hQ17 => exact fun _ _ _ h => h
    case hw17 => rfl
    case hy17 => intro w hSw; (try dsimp only at hSw); go_simp; try with_reducible rfl
    try simp only [Act.put, List.setIfInBounds_toArray, List.set_cons_zero, List.set_cons_succ]
    refine' wpAnyH_take (i := 15) (oi := _) (v := _) ?hi18 ?hs18 ?hf18 ?hr18 ?hQ18 (Or.inl ⟨?hw18, ?hy18⟩) (by assumption) ?hrest18
    case hi18 => simp only [List.getElem?_toArray]; rfl
    case hs18 => kernel_rfl
    case hf18 => kernel_rfl
    case hr18 => kernel_rfl
    case hQ18 => exact fun _ _ _ h => h
    case hw18 => rfl
    case hy18 => intro w hSw; (try dsimp only at hSw); go_simp; try with_reducible rfl
    try simp only [Act.put, List.setIfInBounds_toArray, List.set_cons_zero, List.set_cons_succ]
    refine wpAnyH_done (by kernel_rfl) ?_ _
    have HP9 := Lib.hid (HP6.out.later hxt9)
    clear hHeld hxt hx8 hxt8 hx9 hxt9 HP6 hu HCS HTX
    go_wp2_with fail
    go_loopw [7, 9, 10] (fun lp rp i wr => ∃ (lg rl k : Nat) (S : LSt), lp = .pointer (some ⟨lg, 0, none⟩) ∧ rp = .pointer (some ⟨rl, 0, none⟩) ∧ k ≤ n ∧ k ≤ 50 ∧ i = .int .i64 (k : Int) ∧ Pl w wr lg rl rg S S ∧ S.g = g ∧ S.l.length ≤ 3000000 + k) (fun _ _ i _ => n - (intOf i).toNat)
    case atStart => exact ⟨lg, rl, 0, S, rfl, rfl, by omega, by omega, rfl, HP9.out, HG.out, by omega⟩
    case round =>
      clear HP9 HG hol
      obtain ⟨lg, rl, k, S, rfl, rfl, hk, hk50, rfl, hpl, hsg, hsl⟩ := hrel
      have HP := Lib.hid hpl
      have HG := Lib.hid hsg
      clear hpl hsg
      by_cases hkn : k < n
      · by_cases hk5 : k < 50
        · obtain ⟨ad, rfl⟩ : ∃ ad, A = some ad := row_some HR.out opC_len (by decide) (by have := HN.out; omega)
          obtain ⟨o, ho⟩ : ∃ o, xs[k]? = some o := ⟨_, List.getElem?_eq_getElem (by have := HN.out; omega)⟩
          obtain ⟨c0, c1, c2, c3, c4, c5⟩ := aop_cells (HR.out.ext HP.out.ext) ho
          have HO := Lib.hid (HOK.out o (List.mem_of_getElem? ho))
          obtain ⟨kd, sx, u, ls, on, om, ren⟩ := o
          dsimp only at c0 c1 c2 c3 c4 c5
          clear ho
          obtain ⟨Au, nu, cu, hu, _⟩ := HO.out.row
          dsimp only at hu
          subst hu
          go_upto_region 15 with fail
          clear c0 c1 c2 c3 c4 c5
          have hb := heap_alloc_new wr (.cells #[.int .i64 kd, .string sx, .slice Au nu cu, .int .i64 on, .int .i64 om, .bool ren] 36 (0, 0))
          have hxa := Ext.alloc wr (.cells #[.int .i64 kd, .string sx, .slice Au nu cu, .int .i64 on, .int .i64 om, .bool ren] 36)
          have HP1 := Lib.hid (HP.out.later hxa)
          clear HP hxa
          generalize wr.alloc (.cells #[.int .i64 kd, .string sx, .slice Au nu cu, .int .i64 on, .int .i64 om, .bool ren] 36) = v1 at hb HP1 ⊢
          generalize wr.heap.size = p at hb ⊢
          have HB := Lib.hid hb
          clear hb
          have hB0 := heap_cell HB.out 0
          have hB1 := heap_cell HB.out 1
          have hB2 := heap_cell HB.out 2
          have hB3 := heap_cell HB.out 3
          have hB4 := heap_cell HB.out 4
          have hB5 := heap_cell HB.out 5
          go_wp2_with fail
          clear hB0 hB1 hB2 hB3 hB4 hB5
          refine (light_any ⟨kd, sx, .slice Au nu cu, ls, on, om, ren⟩ v1 (HO.out.ext HP1.out.ext)).mono ?_
          rintro e v2 ⟨lt, rfl, hlt, hx⟩
          have HB2 := Lib.hid (OpK.ext hx _ _ _ HB.out)
          have HP2 := Lib.hid (HP1.out.later hx)
          clear HB HP1 hx
          cases lt with
          | false =>
            clear hlt
            go_wp2_with fail
            go_roundw
            case rel => exact ⟨lg, rl, k + 1, S, rfl, rfl, by omega, by omega, by go_num, HP2.out, HG.out, by omega⟩
            case measure => simp [intOf]; omega
          | true =>
            have hl := hlt rfl
            dsimp only at hl
            have HL := Lib.hid hl
            clear hlt hl
            have hB0 := heap_cell HB2.out 0
            have hB1 := heap_cell HB2.out 1
            have hB2 := heap_cell HB2.out 2
            have hB3 := heap_cell HB2.out 3
            have hB4 := heap_cell HB2.out 4
            have hB5 := heap_cell HB2.out 5
            go_upto_block 2 with fail
            go_cut [7, 9, 12, 13] from 77 to 140 (fun s7 s9 s12 s13 wx => ∃ (lg' rl' : Nat) (S' : LSt), s7 = .pointer (some ⟨lg', 0, none⟩) ∧ s9 = .pointer (some ⟨rl', 0, none⟩) ∧ Pl w wx lg' rl' rg S' S' ∧ S'.g = g ∧ S'.l.length ≤ 3000000 + k + 1)
            case first =>
              by_cases h0 : kd = 0
              · subst h0
                have hlen := appL_len S sx
                clear hB0 hB2 hB3 hB4 hB5
                go_upto_region 25 with fail
                refine wp_region_held_drew (S := fun wz => wz.cell? ⟨p, 1, none⟩ = some (.string sx)) (by kernel_rfl) hB1 (fun hHeld => ?_)
                have hxt : Ext v2 v2.drew := Ext.drew _
                generalize v2.drew = v3 at hxt hHeld ⊢
                refine' wpAnyH_take (i := 0) (oi := _) (v := _) ?hi20 ?hs20 ?hf20 ?hr20 ?hQ20 (Or.inl ⟨?hw20, ?hy20⟩) (by assumption) ?hrest20
                case hi20 => simp only [List.getElem?_toArray]; rfl
                case hs20 => kernel_rfl
                case hf20 => kernel_rfl
                case hr20 => kernel_rfl
                case hQ20 => exact fun _ _ _ h => h
                case hw20 => rfl
                case hy20 => intro w hSw; (try dsimp only at hSw); go_simp; try with_reducible rfl
                try simp only [Act.put, List.setIfInBounds_toArray, List.set_cons_zero, List.set_cons_succ]
                refine' wpAnyH_take (i := 1) (oi := _) (v := _) ?hi21 ?hs21 ?hf21 ?hr21 ?hQ21 (Or.inl ⟨?hw21, ?hy21⟩) (by assumption) ?hrest21
                case hi21 => simp only [List.getElem?_toArray]; rfl
                case hs21 => kernel_rfl
                case hf21 => kernel_rfl
                case hr21 => kernel_rfl
                case hQ21 => exact fun _ _ _ h => h
                case hw21 => rfl
                case hy21 => intro w hSw; (try dsimp only at hSw); go_simp; try with_reducible rfl
                try simp only [Act.put, List.setIfInBounds_toArray, List.set_cons_zero, List.set_cons_succ]
                refine' wpAnyH_take (i := 2) (oi := _) (v := _) ?hi22 ?hs22 ?hf22 ?hr22 ?hQ22 (Or.inl ⟨?hw22, ?hy22⟩) (by assumption) ?hrest22
                case hi22 => simp only [List.getElem?_toArray]; rfl
                case hs22 => kernel_rfl
                case hf22 => kernel_rfl
                case hr22 => kernel_rfl
                case hQ22 => exact fun _ _ _ h => h
                case hw22 => rfl
                case hy22 => intro w hSw; (try dsimp only at hSw); go_simp; try with_reducible rfl
                try simp only [Act.put, List.setIfInBounds_toArray, List.set_cons_zero, List.set_cons_succ]
                refine' wpAnyH_take (i := 4) (oi := _) (v := _) ?hi23 ?hs23 ?hf23 ?hr23 ?hQ23 (Or.inl ⟨?hw23, ?hy23⟩) (by assumption) ?hrest23
                case hi23 => simp only [List.getElem?_toArray]; rfl
                case hs23 => kernel_rfl
                case hf23 => kernel_rfl
                case hr23 => kernel_rfl
                case hQ23 => exact fun _ _ _ h => h
                case hw23 => rfl
                case hy23 => intro w hSw; (try dsimp only at hSw); go_simp; try with_reducible rfl
                try simp only [Act.put, List.setIfInBounds_toArray, List.set_cons_zero, List.set_cons_succ]
                refine' wpAnyH_take (i := 5) (oi := _) (v := _) ?hi24 ?hs24 ?hf24 ?hr24 ?hQ24 (Or.inl ⟨?hw24, ?hy24⟩) (by assumption) ?hrest24
                case hi24 => simp only [List.getElem?_toArray]; rfl
                case hs24 => kernel_rfl
                case hf24 => kernel_rfl
                case hr24 => kernel_rfl
                case hQ24 => exact fun _ _ _ h => h
                case hw24 => rfl
                case hy24 => intro w hSw; (try dsimp only at hSw); go_simp; try with_reducible rfl
                try simp only [Act.put, List.setIfInBounds_toArray, List.set_cons_zero, List.set_cons_succ]
                refine' wpAnyH_take (i := 6) (oi := _) (v := _) ?hi25 ?hs25 ?hf25 ?hr25 ?hQ25 (Or.inl ⟨?hw25, ?hy25⟩) (by assumption) ?hrest25
                case hi25 => simp only [List.getElem?_toArray]; rfl
                case hs25 => kernel_rfl
                case hf25 => kernel_rfl
                case hr25 => kernel_rfl
                case hQ25 => exact fun _ _ _ h => h
                case hw25 => rfl
                case hy25 => intro w hSw; (try dsimp only at hSw); go_simp; try with_reducible rfl
                try simp only [Act.put, List.setIfInBounds_toArray, List.set_cons_zero, List.set_cons_succ]
                refine wpAnyH_ready (rs := [3]) (by kernel_rfl) (by simp) ?_
                refine' AllReadyH.cons (o := _) ?ho26 (fun K hK => ?hstep26) AllReadyH.nil
                case ho26 => simp only [List.getElem?_toArray]; rfl
                go_simp
                refine ((HP2.out.later hxt).append sx (by have := HL.out.1; omega) (by omega)).mono ?_
                rintro e v4 ⟨rfl, hp4, hk4⟩
                have hb4 := hk4 _ _ _ (OpK.ext hxt _ _ _ HB2.out)
                refine hK.out _ _ ((heap_cell hb4 1)) (fun hHeld => ?_)
                clear hK K
                try simp only [Act.put, List.setIfInBounds_toArray, List.set_cons_zero, List.set_cons_succ]
                refine wpAnyH_ready (rs := [7]) (by kernel_rfl) (by simp) ?_
                refine' AllReadyH.cons (o := _) ?ho28 (fun K hK => ?hstep28) AllReadyH.nil
                case ho28 => simp only [List.getElem?_toArray]; rfl
                go_simp
                refine (hp4.rAppend sx (by have := HL.out.1; omega) (by omega)).mono ?_
                rintro e v5 ⟨rfl, hp5, hk5⟩
                have hb5 := hk5 _ _ _ hb4
                refine hK.out _ _ ((heap_cell hb5 1)) (fun hHeld => ?_)
                clear hK K
                try simp only [Act.put, List.setIfInBounds_toArray, List.set_cons_zero, List.set_cons_succ]
                refine' wpAnyH_take (i := 8) (oi := _) (v := _) ?hi30 ?hs30 ?hf30 ?hr30 ?hQ30 (Or.inl ⟨?hw30, ?hy30⟩) (by assumption) ?hrest30
                case hi30 => simp only [List.getElem?_toArray]; rfl
                case hs30 => kernel_rfl
                case hf30 => kernel_rfl
                case hr30 => kernel_rfl
                case hQ30 => exact fun _ _ _ h => h
                case hw30 => rfl
                case hy30 => intro w hSw; (try dsimp only at hSw); go_simp; try with_reducible rfl
                try simp only [Act.put, List.setIfInBounds_toArray, List.set_cons_zero, List.set_cons_succ]
                refine wpAnyH_done (by kernel_rfl) ?_ _
                have hg5 := hlen.2.trans HG.out
                have hl5 := hlen.1
                generalize (appL S sx).2 = S5 at hp5 hg5 hl5
                have HP5 := Lib.hid hp5
                have HG5 := Lib.hid hg5
                clear hHeld hxt hp4 hk4 hb4 hp5 hk5 hb5 hlen hB1 hg5
                go_wp2_with fail
                go_meet
                exact ⟨lg, rl, S5, rfl, rfl, HP5.out, HG5.out, by omega⟩
              have h0' : (kd == 0) = false := by simpa using h0
              clear h0
              by_cases h1 : kd = 1
              · subst h1
                have hlen := syncL_len S
                clear hB0 hB1 hB2 hB3 hB4 hB5
                go_wp2_with fail
                refine (HP2.out.sync (by omega)).mono ?_
                rintro e v4 ⟨rfl, hp4, hk4⟩
                have HP4 := Lib.hid hp4
                clear hp4 hk4
                go_wp2_with fail
                refine (HP4.out.rSync (by omega)).mono ?_
                rintro e v5 ⟨rfl, hp5, hk5⟩
                have hg5 := hlen.2.trans HG.out
                have hl5 := hlen.1
                generalize (syncL S).2 = S5 at hp5 hg5 hl5
                have HP5 := Lib.hid hp5
                have HG5 := Lib.hid hg5
                clear hp5 hk5 hlen hg5
                go_wp2_with fail
                go_meet
                exact ⟨lg, rl, S5, rfl, rfl, HP5.out, HG5.out, by omega⟩
              have h1' : (kd == 1) = false := by simpa using h1
              clear h1
              by_cases h2 : kd = 2
              · subst h2
                have hlen := rewL_len S ls on
                have hl20 := HL.out.2.1
                clear hB0 hB1 hB4 hB5
                go_upto_region 31 with fail
                refine wp_region_held_drew (S := fun wz => wz.cell? ⟨p, 2, none⟩ = some (.slice Au nu cu) ∧ wz.cell? ⟨p, 3, none⟩ = some (.int .i64 on)) (by kernel_rfl) ⟨hB2, hB3⟩ (fun hHeld => ?_)
                have hxt : Ext v2 v2.drew := Ext.drew _
                generalize v2.drew = v3 at hxt hHeld ⊢
                refine' wpAnyH_take (i := 0) (oi := _) (v := _) ?hi32 ?hs32 ?hf32 ?hr32 ?hQ32 (Or.inl ⟨?hw32, ?hy32⟩) (by assumption) ?hrest32
                case hi32 => simp only [List.getElem?_toArray]; rfl
                case hs32 => kernel_rfl
                case hf32 => kernel_rfl
                case hr32 => kernel_rfl
                case hQ32 => exact fun _ _ _ h => h
                case hw32 => rfl
                case hy32 => intro w hSw; (try dsimp only at hSw); go_simp; try with_reducible rfl
                try simp only [Act.put, List.setIfInBounds_toArray, List.set_cons_zero, List.set_cons_succ]
                refine' wpAnyH_take (i := 1) (oi := _) (v := _) ?hi33 ?hs33 ?hf33 ?hr33 ?hQ33 (Or.inl ⟨?hw33, ?hy33⟩) (by assumption) ?hrest33
                case hi33 => simp only [List.getElem?_toArray]; rfl
                case hs33 => kernel_rfl
                case hf33 => kernel_rfl
                case hr33 => kernel_rfl
                case hQ33 => exact fun _ _ _ h => h
                case hw33 => rfl
                case hy33 => intro w hSw; (try dsimp only at hSw); go_simp; try with_reducible rfl
                try simp only [Act.put, List.setIfInBounds_toArray, List.set_cons_zero, List.set_cons_succ]
                refine' wpAnyH_take (i := 2) (oi := _) (v := _) ?hi34 ?hs34 ?hf34 ?hr34 ?hQ34 (Or.inl ⟨?hw34, ?hy34⟩) (by assumption) ?hrest34
                case hi34 => simp only [List.getElem?_toArray]; rfl
                case hs34 => kernel_rfl
                case hf34 => kernel_rfl
                case hr34 => kernel_rfl
                case hQ34 => exact fun _ _ _ h => h
                case hw34 => rfl
                case hy34 => intro w hSw; (try dsimp only at hSw); go_simp; try with_reducible rfl
                try simp only [Act.put, List.setIfInBounds_toArray, List.set_cons_zero, List.set_cons_succ]
                refine' wpAnyH_take (i := 3) (oi := _) (v := _) ?hi35 ?hs35 ?hf35 ?hr35 ?hQ35 (Or.inl ⟨?hw35, ?hy35⟩) (by assumption) ?hrest35
                case hi35 => simp only [List.getElem?_toArray]; rfl
                case hs35 => kernel_rfl
                case hf35 => kernel_rfl
                case hr35 => kernel_rfl
                case hQ35 => exact fun _ _ _ h => h
                case hw35 => rfl
                case hy35 => intro w hSw; (try dsimp only at hSw); go_simp; try with_reducible rfl
                try simp only [Act.put, List.setIfInBounds_toArray, List.set_cons_zero, List.set_cons_succ]
                refine' wpAnyH_take (i := 4) (oi := _) (v := _) ?hi36 ?hs36 ?hf36 ?hr36 ?hQ36 (Or.inl ⟨?hw36, ?hy36⟩) (by assumption) ?hrest36
                case hi36 => simp only [List.getElem?_toArray]; rfl
                case hs36 => kernel_rfl
                case hf36 => kernel_rfl
                case hr36 => kernel_rfl
                case hQ36 => exact fun _ _ _ h => h
                case hw36 => rfl
                case hy36 => intro w hSw; (try dsimp only at hSw); go_simp; try with_reducible rfl
                try simp only [Act.put, List.setIfInBounds_toArray, List.set_cons_zero, List.set_cons_succ]
                refine' wpAnyH_take (i := 6) (oi := _) (v := _) ?hi37 ?hs37 ?hf37 ?hr37 ?hQ37 (Or.inl ⟨?hw37, ?hy37⟩) (by assumption) ?hrest37
                case hi37 => simp only [List.getElem?_toArray]; rfl
                case hs37 => kernel_rfl
                case hf37 => kernel_rfl
                case hr37 => kernel_rfl
                case hQ37 => exact fun _ _ _ h => h
                case hw37 => rfl
                case hy37 => intro w hSw; (try dsimp only at hSw); go_simp; try with_reducible rfl
                try simp only [Act.put, List.setIfInBounds_toArray, List.set_cons_zero, List.set_cons_succ]
                refine' wpAnyH_take (i := 7) (oi := _) (v := _) ?hi38 ?hs38 ?hf38 ?hr38 ?hQ38 (Or.inl ⟨?hw38, ?hy38⟩) (by assumption) ?hrest38
                case hi38 => simp only [List.getElem?_toArray]; rfl
                case hs38 => kernel_rfl
                case hf38 => kernel_rfl
                case hr38 => kernel_rfl
                case hQ38 => exact fun _ _ _ h => h
                case hw38 => rfl
                case hy38 => intro w hSw; (try dsimp only at hSw); go_simp; try with_reducible rfl
                try simp only [Act.put, List.setIfInBounds_toArray, List.set_cons_zero, List.set_cons_succ]
                refine' wpAnyH_take (i := 8) (oi := _) (v := _) ?hi39 ?hs39 ?hf39 ?hr39 ?hQ39 (Or.inl ⟨?hw39, ?hy39⟩) (by assumption) ?hrest39
                case hi39 => simp only [List.getElem?_toArray]; rfl
                case hs39 => kernel_rfl
                case hf39 => kernel_rfl
                case hr39 => kernel_rfl
                case hQ39 => exact fun _ _ _ h => h
                case hw39 => rfl
                case hy39 => intro w hSw; (try dsimp only at hSw); go_simp; try with_reducible rfl
                try simp only [Act.put, List.setIfInBounds_toArray, List.set_cons_zero, List.set_cons_succ]
                refine' wpAnyH_take (i := 9) (oi := _) (v := _) ?hi40 ?hs40 ?hf40 ?hr40 ?hQ40 (Or.inl ⟨?hw40, ?hy40⟩) (by assumption) ?hrest40
                case hi40 => simp only [List.getElem?_toArray]; rfl
                case hs40 => kernel_rfl
                case hf40 => kernel_rfl
                case hr40 => kernel_rfl
                case hQ40 => exact fun _ _ _ h => h
                case hw40 => rfl
                case hy40 => intro w hSw; (try dsimp only at hSw); go_simp; try with_reducible rfl
                try simp only [Act.put, List.setIfInBounds_toArray, List.set_cons_zero, List.set_cons_succ]
                refine' wpAnyH_take (i := 10) (oi := _) (v := _) ?hi41 ?hs41 ?hf41 ?hr41 ?hQ41 (Or.inl ⟨?hw41, ?hy41⟩) (by assumption) ?hrest41
                case hi41 => simp only [List.getElem?_toArray]; rfl
                case hs41 => kernel_rfl
                case hf41 => kernel_rfl
                case hr41 => kernel_rfl
                case hQ41 => exact fun _ _ _ h => h
                case hw41 => rfl
                case hy41 => intro w hSw; (try dsimp only at hSw); go_simp; try with_reducible rfl
                try simp only [Act.put, List.setIfInBounds_toArray, List.set_cons_zero, List.set_cons_succ]
                refine wpAnyH_ready (rs := [5]) (by kernel_rfl) (by simp) ?_
                refine' AllReadyH.cons (o := _) ?ho42 (fun K hK => ?hstep42) AllReadyH.nil
                case ho42 => simp only [List.getElem?_toArray]; rfl
                go_simp
                refine ((HP2.out.later hxt).rewrite (.slice Au nu cu) ls on HO.out.row (by omega) HL.out.2.2 HO.out.n1 HO.out.n2).mono ?_
                rintro e v4 ⟨rfl, hp4, hk4⟩
                have hb4 := hk4 _ _ _ (OpK.ext hxt _ _ _ HB2.out)
                refine hK.out _ _ (⟨heap_cell hb4 2, heap_cell hb4 3⟩) (fun hHeld => ?_)
                clear hK K
                try simp only [Act.put, List.setIfInBounds_toArray, List.set_cons_zero, List.set_cons_succ]
                refine wpAnyH_ready (rs := [11]) (by kernel_rfl) (by simp) ?_
                refine' AllReadyH.cons (o := _) ?ho44 (fun K hK => ?hstep44) AllReadyH.nil
                case ho44 => simp only [List.getElem?_toArray]; rfl
                go_simp
                refine (hp4.rRewrite (.slice Au nu cu) ls on HO.out.row (by omega) HL.out.2.2 HO.out.n1 HO.out.n2).mono ?_
                rintro e v5 ⟨rfl, hp5, hk5⟩
                have hb5 := hk5 _ _ _ hb4
                refine hK.out _ _ (⟨heap_cell hb5 2, heap_cell hb5 3⟩) (fun hHeld => ?_)
                clear hK K
                try simp only [Act.put, List.setIfInBounds_toArray, List.set_cons_zero, List.set_cons_succ]
                refine' wpAnyH_take (i := 12) (oi := _) (v := _) ?hi46 ?hs46 ?hf46 ?hr46 ?hQ46 (Or.inl ⟨?hw46, ?hy46⟩) (by assumption) ?hrest46
                case hi46 => simp only [List.getElem?_toArray]; rfl
                case hs46 => kernel_rfl
                case hf46 => kernel_rfl
                case hr46 => kernel_rfl
                case hQ46 => exact fun _ _ _ h => h
                case hw46 => rfl
                case hy46 => intro w hSw; (try dsimp only at hSw); go_simp; try with_reducible rfl
                try simp only [Act.put, List.setIfInBounds_toArray, List.set_cons_zero, List.set_cons_succ]
                refine wpAnyH_done (by kernel_rfl) ?_ _
                have hg5 := hlen.2.trans HG.out
                have hl5 : (rewL S ls on).2.l.length ≤ 3000000 + k + 1 := by
                  rcases hlen.1 with h | h <;> omega
                generalize (rewL S ls on).2 = S5 at hp5 hg5 hl5
                have HP5 := Lib.hid hp5
                have HG5 := Lib.hid hg5
                clear hHeld hxt hp4 hk4 hb4 hp5 hk5 hb5 hlen hB2 hB3 hg5
                go_wp2_with fail
                go_meet
                exact ⟨lg, rl, S5, rfl, rfl, HP5.out, HG5.out, hl5⟩
              have h2' : (kd == 2) = false := by simpa using h2
              clear h2 hB0 hB1 hB2
              go_upto_region 17 with fail
              refine wp_region_held_drew (S := fun wz => wz.cell? ⟨p, 3, none⟩ = some (.int .i64 on) ∧ wz.cell? ⟨p, 4, none⟩ = some (.int .i64 om) ∧ wz.cell? ⟨p, 5, none⟩ = some (.bool ren)) (by kernel_rfl) ⟨hB3, hB4, hB5⟩ (fun hHeld => ?_)
              have hxt : Ext v2 v2.drew := Ext.drew _
              generalize v2.drew = v3 at hxt hHeld ⊢
              refine' wpAnyH_take (i := 0) (oi := _) (v := _) ?hi48 ?hs48 ?hf48 ?hr48 ?hQ48 (Or.inl ⟨?hw48, ?hy48⟩) (by assumption) ?hrest48
              case hi48 => simp only [List.getElem?_toArray]; rfl
              case hs48 => kernel_rfl
              case hf48 => kernel_rfl
              case hr48 => kernel_rfl
              case hQ48 => exact fun _ _ _ h => h
              case hw48 => rfl
              case hy48 => intro w hSw; (try dsimp only at hSw); go_simp; try with_reducible rfl
              try simp only [Act.put, List.setIfInBounds_toArray, List.set_cons_zero, List.set_cons_succ]
              refine' wpAnyH_take (i := 1) (oi := _) (v := _) ?hi49 ?hs49 ?hf49 ?hr49 ?hQ49 (Or.inl ⟨?hw49, ?hy49⟩) (by assumption) ?hrest49
              case hi49 => simp only [List.getElem?_toArray]; rfl
              case hs49 => kernel_rfl
              case hf49 => kernel_rfl
              case hr49 => kernel_rfl
              case hQ49 => exact fun _ _ _ h => h
              case hw49 => rfl
              case hy49 => intro w hSw; (try dsimp only at hSw); go_simp; try with_reducible rfl
              try simp only [Act.put, List.setIfInBounds_toArray, List.set_cons_zero, List.set_cons_succ]
              refine' wpAnyH_take (i := 2) (oi := _) (v := _) ?hi50 ?hs50 ?hf50 ?hr50 ?hQ50 (Or.inl ⟨?hw50, ?hy50⟩) (by assumption) ?hrest50
              case hi50 => simp only [List.getElem?_toArray]; rfl
              case hs50 => kernel_rfl
              case hf50 => kernel_rfl
              case hr50 => kernel_rfl
              case hQ50 => exact fun _ _ _ h => h
              case hw50 => rfl
              case hy50 => intro w hSw; (try dsimp only at hSw); go_simp; try with_reducible rfl
              try simp only [Act.put, List.setIfInBounds_toArray, List.set_cons_zero, List.set_cons_succ]
              refine' wpAnyH_take (i := 3) (oi := _) (v := _) ?hi51 ?hs51 ?hf51 ?hr51 ?hQ51 (Or.inl ⟨?hw51, ?hy51⟩) (by assumption) ?hrest51
              case hi51 => simp only [List.getElem?_toArray]; rfl
              case hs51 => kernel_rfl
              case hf51 => kernel_rfl
              case hr51 => kernel_rfl
              case hQ51 => exact fun _ _ _ h => h
              case hw51 => rfl
              case hy51 => intro w hSw; (try dsimp only at hSw); go_simp; try with_reducible rfl
              try simp only [Act.put, List.setIfInBounds_toArray, List.set_cons_zero, List.set_cons_succ]
              refine' wpAnyH_take (i := 4) (oi := _) (v := _) ?hi52 ?hs52 ?hf52 ?hr52 ?hQ52 (Or.inl ⟨?hw52, ?hy52⟩) (by assumption) ?hrest52
              case hi52 => simp only [List.getElem?_toArray]; rfl
              case hs52 => kernel_rfl
              case hf52 => kernel_rfl
              case hr52 => kernel_rfl
              case hQ52 => exact fun _ _ _ h => h
              case hw52 => rfl
              case hy52 => intro w hSw; (try dsimp only at hSw); go_simp; try with_reducible rfl
              try simp only [Act.put, List.setIfInBounds_toArray, List.set_cons_zero, List.set_cons_succ]
              refine' wpAnyH_take (i := 5) (oi := _) (v := _) ?hi53 ?hs53 ?hf53 ?hr53 ?hQ53 (Or.inl ⟨?hw53, ?hy53⟩) (by assumption) ?hrest53
              case hi53 => simp only [List.getElem?_toArray]; rfl
              case hs53 => kernel_rfl
              case hf53 => kernel_rfl
              case hr53 => kernel_rfl
              case hQ53 => exact fun _ _ _ h => h
              case hw53 => rfl
              case hy53 => intro w hSw; (try dsimp only at hSw); go_simp; try with_reducible rfl
              try simp only [Act.put, List.setIfInBounds_toArray, List.set_cons_zero, List.set_cons_succ]
              refine' wpAnyH_take (i := 6) (oi := _) (v := _) ?hi54 ?hs54 ?hf54 ?hr54 ?hQ54 (Or.inl ⟨?hw54, ?hy54⟩) (by assumption) ?hrest54
              case hi54 => simp only [List.getElem?_toArray]; rfl
              case hs54 => kernel_rfl
              case hf54 => kernel_rfl
              case hr54 => kernel_rfl
              case hQ54 => exact fun _ _ _ h => h
              case hw54 => rfl
              case hy54 => intro w hSw; (try dsimp only at hSw); go_simp; try with_reducible rfl
              try simp only [Act.put, List.setIfInBounds_toArray, List.set_cons_zero, List.set_cons_succ]
              refine' wpAnyH_take (i := 8) (oi := _) (v := _) ?hi55 ?hs55 ?hf55 ?hr55 ?hQ55 (Or.inl ⟨?hw55, ?hy55⟩) (by assumption) ?hrest55
              case hi55 => simp only [List.getElem?_toArray]; rfl
              case hs55 => kernel_rfl
              case hf55 => kernel_rfl
              case hr55 => kernel_rfl
              case hQ55 => exact fun _ _ _ h => h
              case hw55 => rfl
              case hy55 => intro w hSw; (try dsimp only at hSw); go_simp; try with_reducible rfl
              try simp only [Act.put, List.setIfInBounds_toArray, List.set_cons_zero, List.set_cons_succ]
              refine' wpAnyH_take (i := 9) (oi := _) (v := _) ?hi56 ?hs56 ?hf56 ?hr56 ?hQ56 (Or.inl ⟨?hw56, ?hy56⟩) (by assumption) ?hrest56
              case hi56 => simp only [List.getElem?_toArray]; rfl
              case hs56 => kernel_rfl
              case hf56 => kernel_rfl
              case hr56 => kernel_rfl
              case hQ56 => exact fun _ _ _ h => h
              case hw56 => rfl
              case hy56 => intro w hSw; (try dsimp only at hSw); go_simp; try with_reducible rfl
              try simp only [Act.put, List.setIfInBounds_toArray, List.set_cons_zero, List.set_cons_succ]
              refine' wpAnyH_take (i := 10) (oi := _) (v := _) ?hi57 ?hs57 ?hf57 ?hr57 ?hQ57 (Or.inl ⟨?hw57, ?hy57⟩) (by assumption) ?hrest57
              case hi57 => simp only [List.getElem?_toArray]; rfl
              case hs57 => kernel_rfl
              case hf57 => kernel_rfl
              case hr57 => kernel_rfl
              case hQ57 => exact fun _ _ _ h => h
              case hw57 => rfl
              case hy57 => intro w hSw; (try dsimp only at hSw); go_simp; try with_reducible rfl
              try simp only [Act.put, List.setIfInBounds_toArray, List.set_cons_zero, List.set_cons_succ]
              refine' wpAnyH_take (i := 11) (oi := _) (v := _) ?hi58 ?hs58 ?hf58 ?hr58 ?hQ58 (Or.inl ⟨?hw58, ?hy58⟩) (by assumption) ?hrest58
              case hi58 => simp only [List.getElem?_toArray]; rfl
              case hs58 => kernel_rfl
              case hf58 => kernel_rfl
              case hr58 => kernel_rfl
              case hQ58 => exact fun _ _ _ h => h
              case hw58 => rfl
              case hy58 => intro w hSw; (try dsimp only at hSw); go_simp; try with_reducible rfl
              try simp only [Act.put, List.setIfInBounds_toArray, List.set_cons_zero, List.set_cons_succ]
              refine' wpAnyH_take (i := 12) (oi := _) (v := _) ?hi59 ?hs59 ?hf59 ?hr59 ?hQ59 (Or.inl ⟨?hw59, ?hy59⟩) (by assumption) ?hrest59
              case hi59 => simp only [List.getElem?_toArray]; rfl
              case hs59 => kernel_rfl
              case hf59 => kernel_rfl
              case hr59 => kernel_rfl
              case hQ59 => exact fun _ _ _ h => h
              case hw59 => rfl
              case hy59 => intro w hSw; (try dsimp only at hSw); go_simp; try with_reducible rfl
              try simp only [Act.put, List.setIfInBounds_toArray, List.set_cons_zero, List.set_cons_succ]
              refine' wpAnyH_take (i := 13) (oi := _) (v := _) ?hi60 ?hs60 ?hf60 ?hr60 ?hQ60 (Or.inl ⟨?hw60, ?hy60⟩) (by assumption) ?hrest60
              case hi60 => simp only [List.getElem?_toArray]; rfl
              case hs60 => kernel_rfl
              case hf60 => kernel_rfl
              case hr60 => kernel_rfl
              case hQ60 => exact fun _ _ _ h => h
              case hw60 => rfl
              case hy60 => intro w hSw; (try dsimp only at hSw); go_simp; try with_reducible rfl
              try simp only [Act.put, List.setIfInBounds_toArray, List.set_cons_zero, List.set_cons_succ]
              refine' wpAnyH_take (i := 14) (oi := _) (v := _) ?hi61 ?hs61 ?hf61 ?hr61 ?hQ61 (Or.inl ⟨?hw61, ?hy61⟩) (by assumption) ?hrest61
              case hi61 => simp only [List.getElem?_toArray]; rfl
              case hs61 => kernel_rfl
              case hf61 => kernel_rfl
              case hr61 => kernel_rfl
              case hQ61 => exact fun _ _ _ h => h
              case hw61 => rfl
              case hy61 => intro w hSw; (try dsimp only at hSw); go_simp; try with_reducible rfl
              try simp only [Act.put, List.setIfInBounds_toArray, List.set_cons_zero, List.set_cons_succ]
              refine wpAnyH_ready (rs := [7]) (by kernel_rfl) (by simp) ?_
              refine' AllReadyH.cons (o := _) ?ho62 (fun K hK => ?hstep62) AllReadyH.nil
              case ho62 => simp only [List.getElem?_toArray]; rfl
              go_simp
              have hcr := (HP2.out.later hxt).crash on om ren HO.out.n1 HO.out.n2 HO.out.m1 HO.out.m2
              rw [HG.out] at hcr
              refine hcr.mono ?_
              rintro e v4 ⟨rfl, hp4, hk4⟩
              have hb4 := hk4 _ _ _ (OpK.ext hxt _ _ _ HB2.out)
              refine hK.out _ _ (⟨heap_cell hb4 3, heap_cell hb4 4, heap_cell hb4 5⟩) (fun hHeld => ?_)
              clear hK K
              try simp only [Act.put, List.setIfInBounds_toArray, List.set_cons_zero, List.set_cons_succ]
              refine wpAnyH_ready (rs := [15]) (by kernel_rfl) (by simp) ?_
              refine' AllReadyH.cons (o := _) ?ho64 (fun K hK => ?hstep64) AllReadyH.nil
              case ho64 => simp only [List.getElem?_toArray]; rfl
              go_simp
              refine (hp4.rCrash on om ren HO.out.n1 HO.out.n2 HO.out.m1 HO.out.m2).mono ?_
              rintro e v5 ⟨rfl, hp5, hk5⟩
              have hb5 := hk5 _ _ _ hb4
              refine hK.out _ _ (⟨heap_cell hb5 3, heap_cell hb5 4, heap_cell hb5 5⟩) (fun hHeld => ?_)
              clear hK K
              try simp only [Act.put, List.setIfInBounds_toArray, List.set_cons_zero, List.set_cons_succ]
              refine' wpAnyH_take (i := 16) (oi := _) (v := _) ?hi66 ?hs66 ?hf66 ?hr66 ?hQ66 (Or.inl ⟨?hw66, ?hy66⟩) (by assumption) ?hrest66
              case hi66 => simp only [List.getElem?_toArray]; rfl
              case hs66 => kernel_rfl
              case hf66 => kernel_rfl
              case hr66 => kernel_rfl
              case hQ66 => exact fun _ _ _ h => h
              case hw66 => rfl
              case hy66 => intro w hSw; (try dsimp only at hSw); go_simp; try with_reducible rfl
              try simp only [Act.put, List.setIfInBounds_toArray, List.set_cons_zero, List.set_cons_succ]
              refine wpAnyH_done (by kernel_rfl) ?_ _
              generalize (crashR S.t on om ren).2 = tc at hp5
              have HP5 := Lib.hid hp5
              clear hHeld hxt hp4 hk4 hb4 hp5 hk5 hb5 hB3 hB4 hB5 hcr
              go_wp2_with fail
              have hop := HP5.out.opened
              dsimp only at hop
              rw [HG.out] at hop
              refine hop.mono ?_
              rintro e v6 ⟨lg', rfl, hp6, hk6⟩
              have HP6 := Lib.hid hp6
              clear hop hp6 hk6
              go_wp2_with fail
              refine (HP6.out.rOpened g).mono ?_
              rintro e v7 ⟨rl', rfl, hp7, hk7⟩
              dsimp only at hp7
              have hol := openL_len g tc (by have := HP5.out.ok; exact this)
              have hog : (openL g tc).g = g := rfl
              generalize openL g tc = S7 at hp7 hol hog
              have HP7 := Lib.hid hp7
              have HG7 := Lib.hid hog
              clear hp7 hk7 hog
              go_wp2_with fail
              go_meet
              exact ⟨lg', rl', S7, rfl, rfl, HP7.out, HG7.out, by omega⟩
            case rest =>
              obtain ⟨lg', rl', S', rfl, rfl, hpl, hsg, hsl'⟩ := hcut
              have HP3 := Lib.hid hpl
              have HG3 := Lib.hid hsg
              obtain ⟨rv', hcs, htx⟩ := hpl.cells
              obtain ⟨A', n', c', hAA, htx'⟩ := htx
              subst hAA
              have HTX : Hid (Txt wc (.slice A' n' c') S'.l) := Lib.hid ⟨A', n', c', rfl, htx'⟩
              have HCS := Lib.hid hcs
              clear HP2 HB2 hB0 hB1 hB2 hB3 hB4 hB5 hpl hsg hcs htx'
              go_upto_region 33 with fail
              refine wp_region_held_drew (S := fun wz => wz.cell? ⟨rl', 1, none⟩ = some (.slice A' n' c') ∧ wz.cell? ⟨rl', 2, none⟩ = some (.int .i64 (S'.sure : Int)) ∧ wz.cell? ⟨rl', 3, none⟩ = some (.bool S'.halted) ∧ wz.cell? ⟨rg, 0, none⟩ = some (.string S'.t.s) ∧ wz.cell? ⟨rg, 1, none⟩ = some (.int .i64 (S'.t.sure : Int))) (by kernel_rfl) (HCS.out wc (Ext.refl _)) (fun hHeld => ?_)
              have hxt : Ext wc wc.drew := Ext.drew _
              generalize wc.drew = v4 at hxt hHeld ⊢
              refine' wpAnyH_take (i := 0) (oi := _) (v := _) ?hi68 ?hs68 ?hf68 ?hr68 ?hQ68 (Or.inl ⟨?hw68, ?hy68⟩) (by assumption) ?hrest68
              case hi68 => simp only [List.getElem?_toArray]; rfl
              case hs68 => kernel_rfl
              case hf68 => kernel_rfl
              case hr68 => kernel_rfl
              case hQ68 => exact fun _ _ _ h => h
              case hw68 => rfl
              case hy68 => intro w hSw; (try dsimp only at hSw); go_simp; try with_reducible rfl
              try simp only [Act.put, List.setIfInBounds_toArray, List.set_cons_zero, List.set_cons_succ]
              refine' wpAnyH_take (i := 2) (oi := _) (v := _) ?hi69 ?hs69 ?hf69 ?hr69 ?hQ69 (Or.inl ⟨?hw69, ?hy69⟩) (by assumption) ?hrest69
              case hi69 => simp only [List.getElem?_toArray]; rfl
              case hs69 => kernel_rfl
              case hf69 => kernel_rfl
              case hr69 => kernel_rfl
              case hQ69 => exact fun _ _ _ h => h
              case hw69 => rfl
              case hy69 => intro w hSw; (try dsimp only at hSw); go_simp; try with_reducible rfl
              try simp only [Act.put, List.setIfInBounds_toArray, List.set_cons_zero, List.set_cons_succ]
              refine' wpAnyH_take (i := 3) (oi := _) (v := _) ?hi70 ?hs70 ?hf70 ?hr70 ?hQ70 (Or.inl ⟨?hw70, ?hy70⟩) (by assumption) ?hrest70
              case hi70 => simp only [List.getElem?_toArray]; rfl
              case hs70 => kernel_rfl
              case hf70 => kernel_rfl
              case hr70 => kernel_rfl
              case hQ70 => exact fun _ _ _ h => h
              case hw70 => rfl
              case hy70 => intro w hSw; (try dsimp only at hSw); go_simp; try with_reducible rfl
              try simp only [Act.put, List.setIfInBounds_toArray, List.set_cons_zero, List.set_cons_succ]
              refine' wpAnyH_take (i := 4) (oi := _) (v := _) ?hi71 ?hs71 ?hf71 ?hr71 ?hQ71 (Or.inl ⟨?hw71, ?hy71⟩) (by assumption) ?hrest71
              case hi71 => simp only [List.getElem?_toArray]; rfl
              case hs71 => kernel_rfl
              case hf71 => kernel_rfl
              case hr71 => kernel_rfl
              case hQ71 => exact fun _ _ _ h => h
              case hw71 => rfl
              case hy71 => intro w hSw; (try dsimp only at hSw); go_simp; try with_reducible rfl
              try simp only [Act.put, List.setIfInBounds_toArray, List.set_cons_zero, List.set_cons_succ]
              refine' wpAnyH_take (i := 5) (oi := _) (v := _) ?hi72 ?hs72 ?hf72 ?hr72 ?hQ72 (Or.inl ⟨?hw72, ?hy72⟩) (by assumption) ?hrest72
              case hi72 => simp only [List.getElem?_toArray]; rfl
              case hs72 => kernel_rfl
              case hf72 => kernel_rfl
              case hr72 => kernel_rfl
              case hQ72 => exact fun _ _ _ h => h
              case hw72 => rfl
              case hy72 => intro w hSw; (try dsimp only at hSw); go_simp; try with_reducible rfl
              try simp only [Act.put, List.setIfInBounds_toArray, List.set_cons_zero, List.set_cons_succ]
              refine wpAnyH_ready (rs := [1]) (by kernel_rfl) (by simp) ?_
              refine' AllReadyH.cons (o := _) ?ho73 (fun K hK => ?hstep73) AllReadyH.nil
              case ho73 => simp only [List.getElem?_toArray]; rfl
              go_simp
              refine ((HP3.out.later hxt).records (by omega)).mono ?_
              rintro e v5 ⟨ur, rfl, hu, hx5⟩
              have hxt5 := hxt.trans hx5
              refine hK.out _ _ ((HCS.out v5 hxt5)) (fun hHeld => ?_)
              clear hK K
              try simp only [Act.put, List.setIfInBounds_toArray, List.set_cons_zero, List.set_cons_succ]
              refine wpAnyH_ready (rs := [6]) (by kernel_rfl) (by simp) ?_
              refine' AllReadyH.cons (o := _) ?ho75 (fun K hK => ?hstep75) AllReadyH.nil
              case ho75 => simp only [List.getElem?_toArray]; rfl
              go_simp
              refine (same_yes _ _ S'.l S'.l v5 hu.txt (HTX.out.ext hxt5) rfl).mono ?_
              rintro e v6 ⟨rfl, hx6⟩
              have hxt6 := hxt5.trans hx6
              refine hK.out _ _ ((HCS.out v6 hxt6)) (fun hHeld => ?_)
              clear hK K
              try simp only [Act.put, List.setIfInBounds_toArray, List.set_cons_zero, List.set_cons_succ]
              clear hHeld hu hx5 hx6 hxt5 hxt HTX
              have HP6 := Lib.hid (HP3.out.later hxt6)
              have hHeld := HCS.out v6 hxt6
              refine' wpAnyH_take (i := 7) (oi := _) (v := _) ?hi77 ?hs77 ?hf77 ?hr77 ?hQ77 (Or.inl ⟨?hw77, ?hy77⟩) (by assumption) ?hrest77
              case hi77 => simp only [List.getElem?_toArray]; rfl
              case hs77 => kernel_rfl
              case hf77 => kernel_rfl
              case hr77 => kernel_rfl
              case hQ77 => exact fun _ _ _ h => h
              case hw77 => rfl
              case hy77 => intro w hSw; (try dsimp only at hSw); go_simp; try with_reducible rfl
              try simp only [Act.put, List.setIfInBounds_toArray, List.set_cons_zero, List.set_cons_succ]
              refine' wpAnyH_take (i := 8) (oi := _) (v := _) ?hi78 ?hs78 ?hf78 ?hr78 ?hQ78 (Or.inl ⟨?hw78, ?hy78⟩) (by assumption) ?hrest78
              case hi78 => simp only [List.getElem?_toArray]; rfl
              case hs78 => kernel_rfl
              case hf78 => kernel_rfl
              case hr78 => kernel_rfl
              case hQ78 => exact fun _ _ _ h => h
              case hw78 => rfl
              case hy78 => intro w hSw; (try dsimp only at hSw); go_simp; try with_reducible rfl
              try simp only [Act.put, List.setIfInBounds_toArray, List.set_cons_zero, List.set_cons_succ]
              refine' wpAnyH_take (i := 9) (oi := _) (v := _) ?hi79 ?hs79 ?hf79 ?hr79 ?hQ79 (Or.inl ⟨?hw79, ?hy79⟩) (by assumption) ?hrest79
              case hi79 => simp only [List.getElem?_toArray]; rfl
              case hs79 => kernel_rfl
              case hf79 => kernel_rfl
              case hr79 => kernel_rfl
              case hQ79 => exact fun _ _ _ h => h
              case hw79 => rfl
              case hy79 => intro w hSw; (try dsimp only at hSw); go_simp; try with_reducible rfl
              try simp only [Act.put, List.setIfInBounds_toArray, List.set_cons_zero, List.set_cons_succ]
              refine' wpAnyH_take (i := 11) (oi := _) (v := _) ?hi80 ?hs80 ?hf80 ?hr80 ?hQ80 (Or.inl ⟨?hw80, ?hy80⟩) (by assumption) ?hrest80
              case hi80 => simp only [List.getElem?_toArray]; rfl
              case hs80 => kernel_rfl
              case hf80 => kernel_rfl
              case hr80 => kernel_rfl
              case hQ80 => exact fun _ _ _ h => h
              case hw80 => rfl
              case hy80 => intro w hSw; (try dsimp only at hSw); go_simp; try with_reducible rfl
              try simp only [Act.put, List.setIfInBounds_toArray, List.set_cons_zero, List.set_cons_succ]
              refine' wpAnyH_take (i := 12) (oi := _) (v := _) ?hi81 ?hs81 ?hf81 ?hr81 ?hQ81 (Or.inl ⟨?hw81, ?hy81⟩) (by assumption) ?hrest81
              case hi81 => simp only [List.getElem?_toArray]; rfl
              case hs81 => kernel_rfl
              case hf81 => kernel_rfl
              case hr81 => kernel_rfl
              case hQ81 => exact fun _ _ _ h => h
              case hw81 => rfl
              case hy81 => intro w hSw; (try dsimp only at hSw); go_simp; try with_reducible rfl
              try simp only [Act.put, List.setIfInBounds_toArray, List.set_cons_zero, List.set_cons_succ]
              refine' wpAnyH_take (i := 13) (oi := _) (v := _) ?hi82 ?hs82 ?hf82 ?hr82 ?hQ82 (Or.inl ⟨?hw82, ?hy82⟩) (by assumption) ?hrest82
              case hi82 => simp only [List.getElem?_toArray]; rfl
              case hs82 => kernel_rfl
              case hf82 => kernel_rfl
              case hr82 => kernel_rfl
              case hQ82 => exact fun _ _ _ h => h
              case hw82 => rfl
              case hy82 => intro w hSw; (try dsimp only at hSw); go_simp; try with_reducible rfl
              try simp only [Act.put, List.setIfInBounds_toArray, List.set_cons_zero, List.set_cons_succ]
              refine' wpAnyH_take (i := 14) (oi := _) (v := _) ?hi83 ?hs83 ?hf83 ?hr83 ?hQ83 (Or.inl ⟨?hw83, ?hy83⟩) (by assumption) ?hrest83
              case hi83 => simp only [List.getElem?_toArray]; rfl
              case hs83 => kernel_rfl
              case hf83 => kernel_rfl
              case hr83 => kernel_rfl
              case hQ83 => exact fun _ _ _ h => h
              case hw83 => rfl
              case hy83 => intro w hSw; (try dsimp only at hSw); go_simp; try with_reducible rfl
              try simp only [Act.put, List.setIfInBounds_toArray, List.set_cons_zero, List.set_cons_succ]
              refine wpAnyH_ready (rs := [10]) (by kernel_rfl) (by simp) ?_
              refine' AllReadyH.cons (o := _) ?ho84 (fun K hK => ?hstep84) AllReadyH.nil
              case ho84 => simp only [List.getElem?_toArray]; rfl
              go_simp
              refine (HP6.out.lsure).mono ?_
              rintro e _ ⟨rfl, rfl⟩
              refine hK.out _ _ ((HCS.out v6 hxt6)) (fun hHeld => ?_)
              clear hK K
              try simp only [Act.put, List.setIfInBounds_toArray, List.set_cons_zero, List.set_cons_succ]
              refine' wpAnyH_take (i := 15) (oi := _) (v := _) ?hi86 ?hs86 ?hf86 ?hr86 ?hQ86 (Or.inl ⟨?hw86, ?hy86⟩) (by assumption) ?hrest86
              case hi86 => simp only [List.getElem?_toArray]; rfl
              case hs86 => kernel_rfl
              case hf86 => kernel_rfl
              case hr86 => kernel_rfl
              case hQ86 => exact fun _ _ _ h => h
              case hw86 => rfl
              case hy86 => intro w hSw; (try dsimp only at hSw); go_simp; try with_reducible rfl
              try simp only [Act.put, List.setIfInBounds_toArray, List.set_cons_zero, List.set_cons_succ]
              refine' wpAnyH_take (i := 16) (oi := _) (v := _) ?hi87 ?hs87 ?hf87 ?hr87 ?hQ87 (Or.inl ⟨?hw87, ?hy87⟩) (by assumption) ?hrest87
              case hi87 => simp only [List.getElem?_toArray]; rfl
              case hs87 => kernel_rfl
              case hf87 => kernel_rfl
              case hr87 => kernel_rfl
              case hQ87 => exact fun _ _ _ h => h
              case hw87 => rfl
              case hy87 => intro w hSw; (try dsimp only at hSw); go_simp; try with_reducible rfl
              try simp only [Act.put, List.setIfInBounds_toArray, List.set_cons_zero, List.set_cons_succ]
              refine' wpAnyH_take (i := 17) (oi := _) (v := _) ?hi88 ?hs88 ?hf88 ?hr88 ?hQ88 (Or.inl ⟨?hw88, ?hy88⟩) (by assumption) ?hrest88
              case hi88 => simp only [List.getElem?_toArray]; rfl
              case hs88 => kernel_rfl
              case hf88 => kernel_rfl
              case hr88 => kernel_rfl
              case hQ88 => exact fun _ _ _ h => h
              case hw88 => rfl
              case hy88 => intro w hSw; (try dsimp only at hSw); go_simp; try with_reducible rfl
              try simp only [Act.put, List.setIfInBounds_toArray, List.set_cons_zero, List.set_cons_succ]
              refine' wpAnyH_take (i := 18) (oi := _) (v := _) ?hi89 ?hs89 ?hf89 ?hr89 ?hQ89 (Or.inl ⟨?hw89, ?hy89⟩) (by assumption) ?hrest89
              case hi89 => simp only [List.getElem?_toArray]; rfl
              case hs89 => kernel_rfl
              case hf89 => kernel_rfl
              case hr89 => kernel_rfl
              case hQ89 => exact fun _ _ _ h => h
              case hw89 => rfl
              case hy89 => intro w hSw; (try dsimp only at hSw); go_simp; try with_reducible rfl
              try simp only [Act.put, List.setIfInBounds_toArray, List.set_cons_zero, List.set_cons_succ]
              refine' wpAnyH_take (i := 20) (oi := _) (v := _) ?hi90 ?hs90 ?hf90 ?hr90 ?hQ90 (Or.inl ⟨?hw90, ?hy90⟩) (by assumption) ?hrest90
              case hi90 => simp only [List.getElem?_toArray]; rfl
              case hs90 => kernel_rfl
              case hf90 => kernel_rfl
              case hr90 => kernel_rfl
              case hQ90 => exact fun _ _ _ h => h
              case hw90 => rfl
              case hy90 => intro w hSw; (try dsimp only at hSw); go_simp; try with_reducible rfl
              try simp only [Act.put, List.setIfInBounds_toArray, List.set_cons_zero, List.set_cons_succ]
              refine' wpAnyH_take (i := 21) (oi := _) (v := _) ?hi91 ?hs91 ?hf91 ?hr91 ?hQ91 (Or.inl ⟨?hw91, ?hy91⟩) (by assumption) ?hrest91
              case hi91 => simp only [List.getElem?_toArray]; rfl
              case hs91 => kernel_rfl
              case hf91 => kernel_rfl
              case hr91 => kernel_rfl
              case hQ91 => exact fun _ _ _ h => h
              case hw91 => rfl
              case hy91 => intro w hSw; (try dsimp only at hSw); go_simp; try with_reducible rfl
              try simp only [Act.put, List.setIfInBounds_toArray, List.set_cons_zero, List.set_cons_succ]
              refine' wpAnyH_take (i := 22) (oi := _) (v := _) ?hi92 ?hs92 ?hf92 ?hr92 ?hQ92 (Or.inl ⟨?hw92, ?hy92⟩) (by assumption) ?hrest92
              case hi92 => simp only [List.getElem?_toArray]; rfl
              case hs92 => kernel_rfl
              case hf92 => kernel_rfl
              case hr92 => kernel_rfl
              case hQ92 => exact fun _ _ _ h => h
              case hw92 => rfl
              case hy92 => intro w hSw; (try dsimp only at hSw); go_simp; try with_reducible rfl
              try simp only [Act.put, List.setIfInBounds_toArray, List.set_cons_zero, List.set_cons_succ]
              refine' wpAnyH_take (i := 23) (oi := _) (v := _) ?hi93 ?hs93 ?hf93 ?hr93 ?hQ93 (Or.inl ⟨?hw93, ?hy93⟩) (by assumption) ?hrest93
              case hi93 => simp only [List.getElem?_toArray]; rfl
              case hs93 => kernel_rfl
              case hf93 => kernel_rfl
              case hr93 => kernel_rfl
              case hQ93 => exact fun _ _ _ h => h
              case hw93 => rfl
              case hy93 => intro w hSw; (try dsimp only at hSw); go_simp; try with_reducible rfl
              try simp only [Act.put, List.setIfInBounds_toArray, List.set_cons_zero, List.set_cons_succ]
              refine wpAnyH_ready (rs := [19]) (by kernel_rfl) (by simp) ?_
              refine' AllReadyH.cons (o := _) ?ho94 (fun K hK => ?hstep94) AllReadyH.nil
              case ho94 => simp only [List.getElem?_toArray]; rfl
              go_simp
              refine (HP6.out.halted).mono ?_
              rintro e _ ⟨rfl, rfl⟩
              refine hK.out _ _ ((HCS.out v6 hxt6)) (fun hHeld => ?_)
              clear hK K
              try simp only [Act.put, List.setIfInBounds_toArray, List.set_cons_zero, List.set_cons_succ]
              refine' wpAnyH_take (i := 24) (oi := _) (v := _) ?hi96 ?hs96 ?hf96 ?hr96 ?hQ96 (Or.inl ⟨?hw96, ?hy96⟩) (by assumption) ?hrest96
              case hi96 => simp only [List.getElem?_toArray]; rfl
              case hs96 => kernel_rfl
              case hf96 => kernel_rfl
              case hr96 => kernel_rfl
              case hQ96 => exact fun _ _ _ h => h
              case hw96 => rfl
              case hy96 => intro w hSw; (try dsimp only at hSw); go_simp; try with_reducible rfl
              try simp only [Act.put, List.setIfInBounds_toArray, List.set_cons_zero, List.set_cons_succ]
              refine' wpAnyH_take (i := 25) (oi := _) (v := _) ?hi97 ?hs97 ?hf97 ?hr97 ?hQ97 (Or.inl ⟨?hw97, ?hy97⟩) (by assumption) ?hrest97
              case hi97 => simp only [List.getElem?_toArray]; rfl
              case hs97 => kernel_rfl
              case hf97 => kernel_rfl
              case hr97 => kernel_rfl
              case hQ97 => exact fun _ _ _ h => h
              case hw97 => rfl
              case hy97 => intro w hSw; (try dsimp only at hSw); go_simp; try with_reducible rfl
              try simp only [Act.put, List.setIfInBounds_toArray, List.set_cons_zero, List.set_cons_succ]
              refine' wpAnyH_take (i := 26) (oi := _) (v := _) ?hi98 ?hs98 ?hf98 ?hr98 ?hQ98 (Or.inl ⟨?hw98, ?hy98⟩) (by assumption) ?hrest98
              case hi98 => simp only [List.getElem?_toArray]; rfl
              case hs98 => kernel_rfl
              case hf98 => kernel_rfl
              case hr98 => kernel_rfl
              case hQ98 => exact fun _ _ _ h => h
              case hw98 => rfl
              case hy98 => intro w hSw; (try dsimp only at hSw); go_simp; try with_reducible rfl
              try simp only [Act.put, List.setIfInBounds_toArray, List.set_cons_zero, List.set_cons_succ]
              refine' wpAnyH_take (i := 27) (oi := _) (v := _) ?hi99 ?hs99 ?hf99 ?hr99 ?hQ99 (Or.inl ⟨?hw99, ?hy99⟩) (by assumption) ?hrest99
              case hi99 => simp only [List.getElem?_toArray]; rfl
              case hs99 => kernel_rfl
              case hf99 => kernel_rfl
              case hr99 => kernel_rfl
              case hQ99 => exact fun _ _ _ h => h
              case hw99 => rfl
              case hy99 => intro w hSw; (try dsimp only at hSw); go_simp; try with_reducible rfl
              try simp only [Act.put, List.setIfInBounds_toArray, List.set_cons_zero, List.set_cons_succ]
              refine' wpAnyH_take (i := 29) (oi := _) (v := _) ?hi100 ?hs100 ?hf100 ?hr100 ?hQ100 (Or.inl ⟨?hw100, ?hy100⟩) (by assumption) ?hrest100
              case hi100 => simp only [List.getElem?_toArray]; rfl
              case hs100 => kernel_rfl
              case hf100 => kernel_rfl
              case hr100 => kernel_rfl
              case hQ100 => exact fun _ _ _ h => h
              case hw100 => rfl
              case hy100 => intro w hSw; (try dsimp only at hSw); go_simp; try with_reducible rfl
              try simp only [Act.put, List.setIfInBounds_toArray, List.set_cons_zero, List.set_cons_succ]
              refine' wpAnyH_take (i := 30) (oi := _) (v := _) ?hi101 ?hs101 ?hf101 ?hr101 ?hQ101 (Or.inl ⟨?hw101, ?hy101⟩) (by assumption) ?hrest101
              case hi101 => simp only [List.getElem?_toArray]; rfl
              case hs101 => kernel_rfl
              case hf101 => kernel_rfl
              case hr101 => kernel_rfl
              case hQ101 => exact fun _ _ _ h => h
              case hw101 => rfl
              case hy101 => intro w hSw; (try dsimp only at hSw); go_simp; try with_reducible rfl
              try simp only [Act.put, List.setIfInBounds_toArray, List.set_cons_zero, List.set_cons_succ]
              refine' wpAnyH_take (i := 31) (oi := _) (v := _) ?hi102 ?hs102 ?hf102 ?hr102 ?hQ102 (Or.inl ⟨?hw102, ?hy102⟩) (by assumption) ?hrest102
              case hi102 => simp only [List.getElem?_toArray]; rfl
              case hs102 => kernel_rfl
              case hf102 => kernel_rfl
              case hr102 => kernel_rfl
              case hQ102 => exact fun _ _ _ h => h
              case hw102 => rfl
              case hy102 => intro w hSw; (try dsimp only at hSw); go_simp; try with_reducible rfl
              try simp only [Act.put, List.setIfInBounds_toArray, List.set_cons_zero, List.set_cons_succ]
              refine' wpAnyH_take (i := 32) (oi := _) (v := _) ?hi103 ?hs103 ?hf103 ?hr103 ?hQ103 (Or.inl ⟨?hw103, ?hy103⟩) (by assumption) ?hrest103
              case hi103 => simp only [List.getElem?_toArray]; rfl
              case hs103 => kernel_rfl
              case hf103 => kernel_rfl
              case hr103 => kernel_rfl
              case hQ103 => exact fun _ _ _ h => h
              case hw103 => rfl
              case hy103 => intro w hSw; (try dsimp only at hSw); go_simp; try with_reducible rfl
              try simp only [Act.put, List.setIfInBounds_toArray, List.set_cons_zero, List.set_cons_succ]
              refine wpAnyH_ready (rs := [28]) (by kernel_rfl) (by simp) ?_
              refine' AllReadyH.cons (o := _) ?ho104 (fun K hK => ?hstep104) AllReadyH.nil
              case ho104 => simp only [List.getElem?_toArray]; rfl
              go_simp
              have htt := HP6.out.text
              rw [HG3.out] at htt
              refine htt.mono ?_
              rintro e _ ⟨rfl, rfl⟩
              refine hK.out _ _ ((HCS.out v6 hxt6)) (fun hHeld => ?_)
              clear hK K
              try simp only [Act.put, List.setIfInBounds_toArray, List.set_cons_zero, List.set_cons_succ]
              refine' wpAnyH_take (i := 33) (oi := _) (v := _) ?hi106 ?hs106 ?hf106 ?hr106 ?hQ106 (Or.inl ⟨?hw106, ?hy106⟩) (by assumption) ?hrest106
              case hi106 => simp only [List.getElem?_toArray]; rfl
              case hs106 => kernel_rfl
              case hf106 => kernel_rfl
              case hr106 => kernel_rfl
              case hQ106 => exact fun _ _ _ h => h
              case hw106 => rfl
              case hy106 => intro w hSw; (try dsimp only at hSw); go_simp; try with_reducible rfl
              try simp only [Act.put, List.setIfInBounds_toArray, List.set_cons_zero, List.set_cons_succ]
              refine' wpAnyH_take (i := 34) (oi := _) (v := _) ?hi107 ?hs107 ?hf107 ?hr107 ?hQ107 (Or.inl ⟨?hw107, ?hy107⟩) (by assumption) ?hrest107
              case hi107 => simp only [List.getElem?_toArray]; rfl
              case hs107 => kernel_rfl
              case hf107 => kernel_rfl
              case hr107 => kernel_rfl
              case hQ107 => exact fun _ _ _ h => h
              case hw107 => rfl
              case hy107 => intro w hSw; (try dsimp only at hSw); go_simp; try with_reducible rfl
              try simp only [Act.put, List.setIfInBounds_toArray, List.set_cons_zero, List.set_cons_succ]
              refine' wpAnyH_take (i := 35) (oi := _) (v := _) ?hi108 ?hs108 ?hf108 ?hr108 ?hQ108 (Or.inl ⟨?hw108, ?hy108⟩) (by assumption) ?hrest108
              case hi108 => simp only [List.getElem?_toArray]; rfl
              case hs108 => kernel_rfl
              case hf108 => kernel_rfl
              case hr108 => kernel_rfl
              case hQ108 => exact fun _ _ _ h => h
              case hw108 => rfl
              case hy108 => intro w hSw; (try dsimp only at hSw); go_simp; try with_reducible rfl
              try simp only [Act.put, List.setIfInBounds_toArray, List.set_cons_zero, List.set_cons_succ]
              refine' wpAnyH_take (i := 36) (oi := _) (v := _) ?hi109 ?hs109 ?hf109 ?hr109 ?hQ109 (Or.inl ⟨?hw109, ?hy109⟩) (by assumption) ?hrest109
              case hi109 => simp only [List.getElem?_toArray]; rfl
              case hs109 => kernel_rfl
              case hf109 => kernel_rfl
              case hr109 => kernel_rfl
              case hQ109 => exact fun _ _ _ h => h
              case hw109 => rfl
              case hy109 => intro w hSw; (try dsimp only at hSw); go_simp; try with_reducible rfl
              try simp only [Act.put, List.setIfInBounds_toArray, List.set_cons_zero, List.set_cons_succ]
              refine' wpAnyH_take (i := 38) (oi := _) (v := _) ?hi110 ?hs110 ?hf110 ?hr110 ?hQ110 (Or.inl ⟨?hw110, ?hy110⟩) (by assumption) ?hrest110
              case hi110 => simp only [List.getElem?_toArray]; rfl
              case hs110 => kernel_rfl
              case hf110 => kernel_rfl
              case hr110 => kernel_rfl
              case hQ110 => exact fun _ _ _ h => h
              case hw110 => rfl
              case hy110 => intro w hSw; (try dsimp only at hSw); go_simp; try with_reducible rfl
              try simp only [Act.put, List.setIfInBounds_toArray, List.set_cons_zero, List.set_cons_succ]
              refine' wpAnyH_take (i := 39) (oi := _) (v := _) ?hi111 ?hs111 ?hf111 ?hr111 ?hQ111 (Or.inl ⟨?hw111, ?hy111⟩) (by assumption) ?hrest111
              case hi111 => simp only [List.getElem?_toArray]; rfl
              case hs111 => kernel_rfl
              case hf111 => kernel_rfl
              case hr111 => kernel_rfl
              case hQ111 => exact fun _ _ _ h => h
              case hw111 => rfl
              case hy111 => intro w hSw; (try dsimp only at hSw); go_simp; try with_reducible rfl
              try simp only [Act.put, List.setIfInBounds_toArray, List.set_cons_zero, List.set_cons_succ]
              refine' wpAnyH_take (i := 40) (oi := _) (v := _) ?hi112 ?hs112 ?hf112 ?hr112 ?hQ112 (Or.inl ⟨?hw112, ?hy112⟩) (by assumption) ?hrest112
              case hi112 => simp only [List.getElem?_toArray]; rfl
              case hs112 => kernel_rfl
              case hf112 => kernel_rfl
              case hr112 => kernel_rfl
              case hQ112 => exact fun _ _ _ h => h
              case hw112 => rfl
              case hy112 => intro w hSw; (try dsimp only at hSw); go_simp; try with_reducible rfl
              try simp only [Act.put, List.setIfInBounds_toArray, List.set_cons_zero, List.set_cons_succ]
              refine' wpAnyH_take (i := 41) (oi := _) (v := _) ?hi113 ?hs113 ?hf113 ?hr113 ?hQ113 (Or.inl ⟨?hw113, ?hy113⟩) (by assumption) ?hrest113
              case hi113 => simp only [List.getElem?_toArray]; rfl
              case hs113 => kernel_rfl
              case hf113 => kernel_rfl
              case hr113 => kernel_rfl
              case hQ113 => exact fun _ _ _ h => h
              case hw113 => rfl
              case hy113 => intro w hSw; (try dsimp only at hSw); go_simp; try with_reducible rfl
              try simp only [Act.put, List.setIfInBounds_toArray, List.set_cons_zero, List.set_cons_succ]
              refine wpAnyH_ready (rs := [37]) (by kernel_rfl) (by simp) ?_
              refine' AllReadyH.cons (o := _) ?ho114 (fun K hK => ?hstep114) AllReadyH.nil
              case ho114 => simp only [List.getElem?_toArray]; rfl
              go_simp
              have hts := HP6.out.fsure
              rw [HG3.out] at hts
              refine hts.mono ?_
              rintro e _ ⟨rfl, rfl⟩
              refine hK.out _ _ ((HCS.out v6 hxt6)) (fun hHeld => ?_)
              clear hK K
              try simp only [Act.put, List.setIfInBounds_toArray, List.set_cons_zero, List.set_cons_succ]
              refine' wpAnyH_take (i := 42) (oi := _) (v := _) ?hi116 ?hs116 ?hf116 ?hr116 ?hQ116 (Or.inl ⟨?hw116, ?hy116⟩) (by assumption) ?hrest116
              case hi116 => simp only [List.getElem?_toArray]; rfl
              case hs116 => kernel_rfl
              case hf116 => kernel_rfl
              case hr116 => kernel_rfl
              case hQ116 => exact fun _ _ _ h => h
              case hw116 => rfl
              case hy116 => intro w hSw; (try dsimp only at hSw); go_simp; try with_reducible rfl
              try simp only [Act.put, List.setIfInBounds_toArray, List.set_cons_zero, List.set_cons_succ]
              refine' wpAnyH_take (i := 43) (oi := _) (v := _) ?hi117 ?hs117 ?hf117 ?hr117 ?hQ117 (Or.inl ⟨?hw117, ?hy117⟩) (by assumption) ?hrest117
              case hi117 => simp only [List.getElem?_toArray]; rfl
              case hs117 => kernel_rfl
              case hf117 => kernel_rfl
              case hr117 => kernel_rfl
              case hQ117 => exact fun _ _ _ h => h
              case hw117 => rfl
              case hy117 => intro w hSw; (try dsimp only at hSw); go_simp; try with_reducible rfl
              try simp only [Act.put, List.setIfInBounds_toArray, List.set_cons_zero, List.set_cons_succ]
              refine wpAnyH_done (by kernel_rfl) ?_ _
              clear hHeld htt hts hxt6 HCS
              go_wp2_with fail
              go_roundw
              case rel => exact ⟨lg', rl', k + 1, S', rfl, rfl, by omega, by omega, by go_num, HP6.out, HG3.out, by omega⟩
              case measure => simp [intOf]; omega
        · have hkI : ¬ (k : Int) < 50 := by omega
          have hkJ : (k : Int) < (n : Int) := by omega
          go_wp2_with fail
          refine (known_any _).mono ?_
          rintro e w9 ⟨rfl, hx9⟩
          go_wp2_with fail
          go_ret
          exact ⟨rfl, HP.out.ext.trans hx9⟩
      · have hkJ : ¬ (k : Int) < (n : Int) := by omega
        go_wp2_with fail
        refine (known_any _).mono ?_
        rintro e w9 ⟨rfl, hx9⟩
        go_wp2_with fail
        go_ret
        exact ⟨rfl, HP.out.ext.trans hx9⟩
  · have hjI : decide ((500 : Int) < (junk.size : Int)) = true := decide_eq_true (by omega)
    go_wp2_with fail
    refine (known_any _).mono ?_
    rintro e w2 ⟨rfl, hx2⟩
    go_wp2_with fail
    go_ret
    exact ⟨rfl, by exact (HF1.out.ext.trans (Ext.alloc w1 _)).trans hx2⟩
end Go.Proofs.Ytdndeggognfcaaa
