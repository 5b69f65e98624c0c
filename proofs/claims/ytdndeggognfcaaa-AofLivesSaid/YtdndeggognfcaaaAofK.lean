/- What must come of fixed calls (layer 19). -/
import Derived.Test.YtdndeggognfcaaaAofO
namespace Go.Proofs.Ytdndeggognfcaaa
open Go.RowKit Crc Fil
set_option linter.unusedVariables false
set_option linter.unusedSectionVars false
set_option linter.unusedSimpArgs false
set_option maxRecDepth 100000

theorem tab_new (w : World) : TabAt (w.alloc (.cells Try.zeroCells76 76)) w.heap.size := ⟨_, heap_alloc_new w (.cells Try.zeroCells76 76 (0, 0)), by kernel_rfl, by kernel_rfl, .inl (by kernel_rfl)⟩
theorem sumF_any (s : ByteArray) (w : World) (hs : s.size ≤ 17179869184) : Calls Try.prog 11 #[.string s] w fun e w' => e = .returned (.int .u32 (crcL s.toList : Nat)) ∧ Ext w w' := by
  have ht := tab_new w
  have hx := Ext.alloc w (.cells Try.zeroCells76 76)
  go_enter Try.func11, Try.ntmps11
  go_wp2_with fail
  refine (sum_any w.heap.size s _ ht hs).mono ?_
  rintro e w2 ⟨rfl, _, hk⟩
  have hx2 := hk.to_ext hx (by simp)
  go_wp2_with fail
  go_ret
  exact ⟨rfl, hx2⟩
theorem frameF_any (s : ByteArray) (w : World) (hs : s.size ≤ 9223372036854775807) : Calls Try.prog 13 #[.string s] w fun e w' => e = .returned (.string (bs (frm s.toList))) ∧ Ext w w' := by
  have ht := tab_new w
  have hx := Ext.alloc w (.cells Try.zeroCells76 76)
  go_enter Try.func13, Try.ntmps13
  go_wp2_with fail
  refine (frame_any w.heap.size s _ ht hs).mono ?_
  rintro e w2 ⟨rfl, _, hk⟩
  have hx2 := hk.to_ext hx (by simp)
  go_wp2_with fail
  go_ret
  exact ⟨rfl, hx2⟩
theorem open_nil (w : World) : Calls Try.prog 16 #[.pointer none] w fun e w' => e = .returned (.tuple #[.pointer none, .int .i64 11]) ∧ w = w' := by
  go_enter Try.func16, Try.ntmps16
  go_wp2_with fail
  go_ret2
  exact ⟨rfl, rfl⟩
/-- A log of the call's own (w0: the world in which the call began). -/
def Lw (w0 w : World) (lg : Nat) (S : LSt) : Prop := ∃ tb rv L, LogC w lg tb rv L S ∧ Ext w0 w ∧ (∀ k ∈ bl lg tb rv L, w0.heap.size ≤ k) ∧ S.t.Ok
theorem Lw.ext {w0 w : World} {lg : Nat} {S : LSt} (h : Lw w0 w lg S) : Ext w0 w := by obtain ⟨_, _, _, _, h, _⟩ := h; exact h
theorem Lw.ok {w0 w : World} {lg : Nat} {S : LSt} (h : Lw w0 w lg S) : S.t.Ok := by obtain ⟨_, _, _, _, _, _, h⟩ := h; exact h
theorem Lw.later {w0 w w' : World} {lg : Nat} {S : LSt} (h : Lw w0 w lg S) (hx : Ext w w') : Lw w0 w' lg S := by
  obtain ⟨tb, rv, L, h1, h2, h3, h4⟩ := h
  exact ⟨tb, rv, L, h1.ext hx, h2.trans hx, h3, h4⟩
theorem Lw.did {w0 w : World} {lg : Nat} {S S' : LSt} (h : Lw w0 w lg S) {P : Program} {f : FuncId} {args : Array Value} {c : Int} (hc : ∀ tb rv L, LogC w lg tb rv L S → (∀ k ∈ bl lg tb rv L, w0.heap.size ≤ k) → Calls P f args w fun e w' => e = .returned (.int .i64 c) ∧ LDid w w' lg tb rv L S') (hok : S'.t.Ok) :
    Calls P f args w fun e w' => e = .returned (.int .i64 c) ∧ Lw w0 w' lg S' := by
  obtain ⟨tb, rv, L, h1, h2, h3, h4⟩ := h
  refine (hc tb rv L h1 h3).mono ?_
  rintro e w' ⟨rfl, rv', L', hc, hk, hs⟩
  exact ⟨rfl, tb, rv', L', hc, hk.to_ext h2 h3, fun k hm => (hs k hm).elim (h3 k) (fun hh => Nat.le_trans h2.size hh), hok⟩
theorem appL_yes {S : LSt} {x : ByteArray} (hh : S.halted = false) (hg : good x.toList) (hz : S.t.s.size + (bs (frm x.toList)).size ≤ 16777216) : appL S x = (0, { S with t := { S.t with s := S.t.s ++ bs (frm x.toList) }, l := S.l ++ [x] }) := by
  unfold appL
  rw [hh, if_neg (by decide), if_neg (by simpa using hg), if_neg (by omega)]
  unfold appendR
  rw [if_neg (by omega)]
theorem appL_no {S : LSt} {x : ByteArray} (hh : S.halted = false) (hg : ¬ good x.toList) : appL S x = (1, S) := by
  unfold appL
  rw [hh, if_neg (by decide), if_pos hg]
theorem appL_halted {S : LSt} {x : ByteArray} (hh : S.halted = true) : appL S x = (12, S) := if_pos hh
theorem appL_ok {S : LSt} (h : S.t.Ok) (x : ByteArray) : (appL S x).2.t.Ok := by
  unfold appL
  split
  · exact h
  split
  · exact h
  split
  · exact h
  · exact h.append _
theorem syncL_yes {S : LSt} (hh : S.halted = false) : syncL S = (0, { S with sure := S.l.length, t := syncT S.t }) := by unfold syncL; rw [hh]; rfl
theorem syncL_ok {S : LSt} (h : S.t.Ok) : (syncL S).2.t.Ok := by
  unfold syncL
  split
  · exact h
  · exact h.sync
theorem rewT_ok {t : St} (h : t.Ok) (fs : ByteArray) (hf : fs.size ≤ 16777216) (n : Int) : (rewT t fs n).Ok := by
  have h1 : ({ t with other := some (fs, 0) } : St).Ok := by
    have := h.lay fs
    unfold layR at this
    rw [if_neg (by omega)] at this
    exact this
  unfold rewT
  dsimp only
  split <;> split <;> split <;> first | exact h | exact h1 | exact h.flush | exact h1.flush | exact h.rename | exact h1.rename | exact h.flush.rename | exact h1.flush.rename
theorem rewL_ok {S : LSt} (h : S.t.Ok) (l : List ByteArray) (hl : l.length ≤ 1000) (hs : ∀ x ∈ l, x.size ≤ 400) (n : Int) : (rewL S l n).2.t.Ok := by
  have hf : (bs (frmsB l)).size ≤ 16777216 := by
    have := frms_le l hs
    rw [bs_size]
    omega
  unfold rewL
  split
  · exact h
  split
  · exact h
  split
  · exact rewT_ok h _ hf n
  · exact (rewT_ok h _ hf n).sync
theorem rewL_yes {S : LSt} {l : List ByteArray} {n : Int} (hh : S.halted = false) (ho : frmsOk l = true) (hn : 4 ≤ n) : rewL S l n = (0, { S with l := l, sure := l.length, t := syncT (rewT S.t (bs (frmsB l)) n) }) := by
  unfold rewL
  rw [hh, if_neg (by decide), if_neg (by rw [ho]; simp; omega), if_neg (by omega)]
theorem rewL_cut {S : LSt} {l : List ByteArray} {n : Int} (hh : S.halted = false) (ho : frmsOk l = true) (h0 : 0 ≤ n) (hn : n < 4) : rewL S l n = (12, { S with t := rewT S.t (bs (frmsB l)) n, halted := true }) := by
  unfold rewL
  rw [hh, if_neg (by decide), if_neg (by rw [ho]; simp; omega), if_pos hn]
theorem rewT_s {t : St} {fs : ByteArray} {n : Int} (hn : 3 ≤ n) : (rewT t fs n).s = fs := by
  unfold rewT
  dsimp only
  rw [if_pos (show (3 : Int) ≤ n by omega), if_pos (show (2 : Int) ≤ n by omega), if_pos (show (1 : Int) ≤ n by omega)]
  rfl
theorem openL_ok {t : St} (h : t.Ok) (g : Nat) : (openL g t).t.Ok := h.cut _
def xA : ByteArray := ⟨#[97]⟩
def xB : ByteArray := ⟨#[98]⟩
theorem xA_list : xA.toList = [97] := toList_mk [97]
theorem xB_list : xB.toList = [98] := toList_mk [98]
def FA : ByteArray := bs (frm [97])
def FB : ByteArray := bs (frm [98])
theorem FA_size : FA.size = 9 := by unfold FA; rw [bs_size, frm_len (by decide)]; rfl
theorem FB_size : FB.size = 9 := by unfold FB; rw [bs_size, frm_len (by decide)]; rfl
theorem empty_list : (St.empty).s.toList = [] := toList_mk []
theorem cutS_all (s : ByteArray) (n : Nat) (h : s.size ≤ n) : cutS s n = s := bytes_ext (by unfold cutS; rw [toList_mk, List.take_of_length_le (by rw [size_list]; exact h)])
theorem open_empty (g : Nat) : openL g St.empty = ⟨g, St.empty, [], 0, false⟩ := by
  unfold openL recsL
  rw [empty_list, read_nil]
  have : (cutR St.empty (((frms []).length : Nat) : Int)).2 = St.empty := by
    show (cutR St.empty 0).2 = St.empty
    unfold cutR
    rw [if_neg (by decide)]
    show syncT { St.empty with s := cutS St.empty.s 0 } = St.empty
    rw [cutS_all _ _ (by decide)]
    rfl
  rw [this]
  rfl
theorem sk1 (g : Nat) : appL ⟨g, St.empty, [], 0, false⟩ xA = (0, ⟨g, ⟨FA, 0, none, none⟩, [xA], 0, false⟩) := by
  have hz : (bs (frm xA.toList)).size = 9 := by rw [xA_list]; exact FA_size
  rw [appL_yes rfl (by rw [xA_list]; decide) (by rw [hz]; exact (by decide : St.empty.s.size + 9 ≤ 16777216)), xA_list]
  have : St.empty.s ++ bs (frm [97]) = FA := bytes_ext (by rw [toList_append2, empty_list]; rfl)
  show (0, (⟨g, ⟨St.empty.s ++ bs (frm [97]), 0, none, none⟩, [xA], 0, false⟩ : LSt)) = _
  rw [this]
theorem sk2 (g : Nat) : syncL ⟨g, ⟨FA, 0, none, none⟩, [xA], 0, false⟩ = (0, ⟨g, ⟨FA, 9, none, none⟩, [xA], 1, false⟩) := by
  rw [syncL_yes rfl]
  unfold syncT
  dsimp only
  rw [FA_size]
  rfl
theorem sk3 (g : Nat) : appL ⟨g, ⟨FA, 9, none, none⟩, [xA], 1, false⟩ xB = (0, ⟨g, ⟨FA ++ FB, 9, none, none⟩, [xA, xB], 1, false⟩) := by
  have hz : (bs (frm xB.toList)).size = 9 := by rw [xB_list]; exact FB_size
  rw [appL_yes rfl (by rw [xB_list]; decide) (by rw [hz]; show FA.size + 9 ≤ 16777216; rw [FA_size]; decide), xB_list]
  rfl
theorem sk4 (S : LSt) (h : S.halted = false) : appL S ⟨#[]⟩ = (1, S) := appL_no h (by rw [show (⟨#[]⟩ : ByteArray).toList = [] from toList_mk []]; decide)
def t4 : St := ⟨cutS (FA ++ FB) 17, 17, none, none⟩
theorem sk5 : crashR ⟨FA ++ FB, 9, none, none⟩ 8 0 false = (0, t4) := by
  have hz : (FA ++ FB).size = 18 := by rw [ByteArray.size_append, FA_size, FB_size]
  have hk : keptN (FA ++ FB) 9 8 = 17 := by unfold keptN; rw [hz]; rfl
  unfold crashR
  rw [if_neg (by decide)]
  simp only [backT, crash1, hk, syncT, t4, Option.map_none]
  have : (cutS (FA ++ FB) 17).size = 17 := cutS_size _ _ (by omega)
  rw [this]
theorem sk6 (g : Nat) : (openL g t4).l = [xA] := by
  show (readL (cutS (FA ++ FB) 17).toList).map bs = [xA]
  have e : (cutS (FA ++ FB) 17).toList = frm [97] ++ (frm [98]).take 8 := by
    unfold cutS
    rw [toList_mk, toList_append2]
    unfold FA FB
    rw [bs_list, bs_list, List.take_append, frm_len (by decide), List.take_of_length_le (by rw [frm_len (by decide)]; decide)]
    rfl
  rw [e, read_frm (by decide), read_none (fst_cut (by decide) 8 (by decide))]
  rfl
theorem kSum : crcL (⟨#[49, 50, 51, 52, 53, 54, 55, 56, 57]⟩ : ByteArray).toList = 3421780262 := by
  rw [show (⟨#[49, 50, 51, 52, 53, 54, 55, 56, 57]⟩ : ByteArray).toList = [49, 50, 51, 52, 53, 54, 55, 56, 57] from toList_mk _]
  decide +kernel
theorem kFrame : bs (frm (⟨#[97]⟩ : ByteArray).toList) = ⟨#[0, 0, 0, 1, 97, 232, 183, 190, 67]⟩ := by
  rw [show (⟨#[97]⟩ : ByteArray).toList = [97] from toList_mk _]
  have : frm [97] = [0, 0, 0, 1, 97, 232, 183, 190, 67] := by decide +kernel
  rw [this]
  rfl
theorem Lw.append {w0 w : World} {lg : Nat} {S S' : LSt} {c : Int} (h : Lw w0 w lg S) (x : ByteArray) (hx : x.size ≤ 9223372036854775807) (hl : S.l.length ≤ 4294967296) (hr : appL S x = (c, S')) :
    Calls Try.prog 18 #[.pointer (some ⟨lg, 0, none⟩), .string x] w fun e w' => e = .returned (.int .i64 c) ∧ Lw w0 w' lg S' :=
  h.did (fun tb rv L hc _ => by
    have := lappend_any lg tb rv L S x w hc h.ok hx hl
    rwa [hr] at this) (by have := appL_ok h.ok x; rwa [hr] at this)
theorem Lw.sync {w0 w : World} {lg : Nat} {S S' : LSt} {c : Int} (h : Lw w0 w lg S) (hl : S.l.length ≤ 4294967296) (hr : syncL S = (c, S')) :
    Calls Try.prog 19 #[.pointer (some ⟨lg, 0, none⟩)] w fun e w' => e = .returned (.int .i64 c) ∧ Lw w0 w' lg S' :=
  h.did (fun tb rv L hc _ => by
    have := lsync_any lg tb rv L S w hc hl
    rwa [hr] at this) (by have := syncL_ok h.ok; rwa [hr] at this)
theorem Lw.lsure {w0 w : World} {lg : Nat} {S : LSt} (h : Lw w0 w lg S) : Calls Try.prog 25 #[.pointer (some ⟨lg, 0, none⟩)] w fun e w' => e = .returned (.int .i64 (S.sure : Int)) ∧ w = w' := by
  obtain ⟨tb, rv, L, h1, _⟩ := h
  exact lsure_any lg tb rv L S w h1
theorem Lw.halted {w0 w : World} {lg : Nat} {S : LSt} (h : Lw w0 w lg S) : Calls Try.prog 20 #[.pointer (some ⟨lg, 0, none⟩)] w fun e w' => e = .returned (.bool S.halted) ∧ w = w' := by
  obtain ⟨tb, rv, L, h1, _⟩ := h
  exact halted_any lg tb rv L S w h1
theorem Lw.records {w0 w : World} {lg : Nat} {S : LSt} (h : Lw w0 w lg S) (hl : S.l.length ≤ 4294967296) : Calls Try.prog 23 #[.pointer (some ⟨lg, 0, none⟩)] w fun e w' => ∃ u, e = .returned u ∧ Own w w' u S.l ∧ Ext w w' := by
  obtain ⟨tb, rv, L, h1, _⟩ := h
  exact records_any lg tb rv L S w h1 hl
theorem Lw.text {w0 w : World} {lg : Nat} {S : LSt} (h : Lw w0 w lg S) : Calls Try.prog 33 #[.pointer (some ⟨S.g, 0, none⟩)] w fun e w' => e = .returned (.string S.t.s) ∧ w = w' := by
  obtain ⟨tb, rv, L, h1, _⟩ := h
  exact text_any S.g L S.t w h1.file
theorem Lw.crash {w0 w : World} {lg : Nat} {S : LSt} (h : Lw w0 w lg S) (keep other : Int) (renamed : Bool) (hk1 : -9223372036854775808 ≤ keep) (hk2 : keep ≤ 9223372036854775807) (ho1 : -9223372036854775808 ≤ other) (ho2 : other ≤ 9223372036854775807) {c : Int} {t' : St} (hr : crashR S.t keep other renamed = (c, t')) :
    Calls Try.prog 22 #[.pointer (some ⟨S.g, 0, none⟩), .int .i64 keep, .int .i64 other, .bool renamed] w fun e w' => e = .returned (.int .i64 c) ∧ Lw w0 w' lg { S with t := t' } :=
  h.did (fun tb rv L hc _ => by
    have := crash_any S.g L S.t keep other renamed w hc.file h.ok hk1 hk2 ho1 ho2
    rw [hr] at this
    refine this.mono ?_
    rintro e w' ⟨rfl, hd⟩
    obtain ⟨L', hc', hk', hs'⟩ := hc.filed hd
    exact ⟨rfl, (LStep.file hk' hs').did hc'⟩) (by have := h.ok.crash keep other renamed; rwa [hr] at this)
/-- The log of a file that a law holds, opened. -/
theorem F1.opened {w0 w : World} {g : Nat} {t : St} (h : F1 w0 w g t) : Calls Try.prog 16 #[.pointer (some ⟨g, 0, none⟩)] w fun e w' => ∃ lg, e = .returned (.tuple #[.pointer (some ⟨lg, 0, none⟩), .int .i64 0]) ∧ Lw w0 w' lg (openL g t) := by
  obtain ⟨L, h1, h2, h3, h4⟩ := h
  refine (open_any g L t w h2 h4).mono ?_
  rintro e w' ⟨lg, tb, rv, L', rfl, hc, hk, hs⟩
  exact ⟨lg, rfl, tb, rv, L', hc, hk.to_ext h1 h3, fun k hm => (hs k hm).elim (h3 k) (fun hh => Nat.le_trans h1.size hh), openL_ok h4 g⟩
theorem Lw.file {w0 w : World} {lg : Nat} {S : LSt} (h : Lw w0 w lg S) : F1 w0 w S.g S.t := by
  obtain ⟨tb, rv, L, h1, h2, h3, h4⟩ := h
  exact ⟨L, h2, h1.file, fun k hk => h3 k (mem_bl.2 (.inr (.inr (.inr hk)))), h4⟩
/-- Records of a log that is another one than the one at work. -/
def Old (w : World) (lg : Nat) (l : List ByteArray) (K : List Nat) : Prop := ∃ u0 u1 u3 u4 rv, w.heap[lg]? = some (.cells #[u0, u1, rv, u3, u4] 47 (0, 0)) ∧ w.ownsRow 0 9 1 rv l.length (l.map .string) ∧ lg ∉ K ∧ ∀ k, rv.ownBlock = some k → k ∉ K
theorem Old.step {w w' : World} {lg : Nat} {l : List ByteArray} {K K' : List Nat} (h : Old w lg l K) (hk : Kp K w w') (hs : Sub w K K') : Old w' lg l K' := by
  obtain ⟨u0, u1, u3, u4, rv, h1, h2, h3, h4⟩ := h
  refine ⟨u0, u1, u3, u4, rv, hk.heap h1 h3, own_kp h2 hk h4, fun hm => ?_, fun k hr hm => ?_⟩
  · have := (Array.getElem?_eq_some_iff.1 h1).1
    exact (hs lg hm).elim h3 (fun hh => by omega)
  · obtain ⟨c, f, h5⟩ := own_at h2 k hr
    have := (Array.getElem?_eq_some_iff.1 h5).1
    exact (hs k hm).elim (h4 k hr) (fun hh => by omega)
theorem kFrame0 : bs (frm (⟨#[]⟩ : ByteArray).toList) = ⟨#[]⟩ := by
  rw [show (⟨#[]⟩ : ByteArray).toList = [] from toList_mk []]
  rfl
/-- A row of the call's own, beside the blocks of K. -/
def RowK (w : World) (u : Value) (l : List ByteArray) (K : List Nat) : Prop := w.ownsRow 0 9 1 u l.length (l.map .string) ∧ ∀ k, u.ownBlock = some k → k ∉ K
theorem RowK.step {w w' : World} {u : Value} {l : List ByteArray} {K K' : List Nat} (h : RowK w u l K) (hk : Kp K w w') (hs : Sub w K K') : RowK w' u l K' :=
  ⟨own_kp h.1 hk h.2, fun k hr hm => by
    obtain ⟨c, f, h5⟩ := own_at h.1 k hr
    have := (Array.getElem?_eq_some_iff.1 h5).1
    exact (hs k hm).elim (h.2 k hr) (fun hh => by omega)⟩
theorem txt_lit (w : World) (cs : Array Value) (t : TypeId) (l : List ByteArray) (n : Nat) (h : cs.toList = l.map .string) (hm : n ≤ 100) (hn : l.length = n) : Txt (w.alloc (.cells cs t)) (.slice (some ⟨w.heap.size, 0, none⟩) n n) l :=
  ⟨_, n, n, rfl, hn, Nat.le_refl _, by omega, by rw [← h]; exact Rd.new w cs t⟩
theorem ok_sizes (l : List ByteArray) : frmsOk l = l.all fun s => decide (0 < s.size ∧ s.size ≤ 65536) := by
  unfold frmsOk good
  simp only [size_list]
theorem halted_append (lg tb : Nat) (rv : Value) (L : List Nat) (s : LSt) (x : ByteArray) (w : World) (h : LogC w lg tb rv L s) (hh : s.halted = true) :
    Calls Try.prog 18 #[.pointer (some ⟨lg, 0, none⟩), .string x] w fun e w' => e = .returned (.int .i64 12) ∧ w = w' := by
  have hst := state_any' lg tb rv L s w h
  rw [if_pos hh] at hst
  go_enter Try.func18, Try.ntmps18
  go_wp2_with fail
  refine hst.mono ?_
  rintro e _ ⟨rfl, rfl⟩
  go_wp2_with fail
  go_ret
  exact ⟨rfl, rfl⟩
theorem t4_ok : t4.Ok := by
  have h : (⟨FA ++ FB, 9, none, none⟩ : St).Ok := ⟨⟨by show (FA ++ FB).size ≤ _; rw [ByteArray.size_append, FA_size, FB_size]; decide, by show 9 ≤ (FA ++ FB).size; rw [ByteArray.size_append, FA_size, FB_size]; decide⟩, by simp, by simp⟩
  have := h.crash 8 0 false
  rwa [sk5] at this
set_option maxHeartbeats 20000000 in
theorem known_any (w : World) : Calls Try.prog 10 #[] w fun e w' => e = .returned (.bool true) ∧ Ext w w' := by
  go_enter Try.func10, Try.ntmps10
  go_wp2_with fail
  refine (new_own w w (Ext.refl _)).mono ?_
  rintro e w1 ⟨g, rfl, hf1, hx1⟩
  have HF1 := Lib.hid hf1
  clear hf1 hx1
  go_wp2_with fail
  refine (HF1.out.opened).mono ?_
  rintro e w2 ⟨lg, rfl, hl⟩
  rw [open_empty] at hl
  have H2 := Lib.hid hl
  clear hl
  go_wp2_with fail
  refine (open_nil w2).mono ?_
  rintro e _ ⟨rfl, rfl⟩
  go_wp2_with fail
  refine (H2.out.append ⟨#[97]⟩ (by decide) (by simp) (sk1 g)).mono ?_
  rintro e w3 ⟨rfl, hl⟩
  have H3 := Lib.hid hl
  clear hl
  go_wp2_with fail
  refine (H3.out.sync (by simp) (sk2 g)).mono ?_
  rintro e w4 ⟨rfl, hl⟩
  have H4 := Lib.hid hl
  clear hl
  go_wp2_with fail
  refine (H4.out.append ⟨#[98]⟩ (by decide) (by simp) (sk3 g)).mono ?_
  rintro e w5 ⟨rfl, hl⟩
  have H5 := Lib.hid hl
  clear hl
  go_wp2_with fail
  refine (H5.out.append ⟨#[]⟩ (by decide) (by simp) (sk4 _ rfl)).mono ?_
  rintro e w6 ⟨rfl, hl⟩
  have H6 := Lib.hid hl
  clear hl
  go_wp2_with fail
  refine (H6.out.lsure).mono ?_
  rintro e _ ⟨rfl, rfl⟩
  go_wp2_with fail
  refine (H6.out.crash 8 0 false (by decide) (by decide) (by decide) (by decide) sk5).mono ?_
  rintro e w7 ⟨rfl, hl⟩
  obtain ⟨tb, rv, L, hc7, hx7, hb7, ho7⟩ := hl
  have HOLD0 : Hid (Old w7 lg [xA, xB] L) := Lib.hid ⟨_, _, _, _, rv, hc7.blk, hc7.own, hc7.lg_file, hc7.row_file⟩
  have HC7 := Lib.hid hc7
  have HB7 := Lib.hid hb7
  have HX7 := Lib.hid hx7
  clear hc7 hb7 hx7 ho7
  go_wp2_with fail
  refine (open_any g L t4 w7 HC7.out.file t4_ok).mono ?_
  rintro e w8 ⟨mg, tb2, rv2, L2, rfl, hc, hk, hs⟩
  have HC8 := Lib.hid hc
  have HOLD8 := Lib.hid (HOLD0.out.step hk hs)
  have HX8 : Hid (Ext w w8) := Lib.hid (hk.to_ext HX7.out (fun k hm => HB7.out k (mem_bl.2 (.inr (.inr (.inr hm))))))
  have HB8 : Hid (∀ k ∈ bl mg tb2 rv2 L2, w.heap.size ≤ k) := Lib.hid (fun k hm => (hs k hm).elim (fun h => HB7.out k (mem_bl.2 (.inr (.inr (.inr h))))) (fun hh => Nat.le_trans HX7.out.size hh))
  have HSL := Lib.hid (sk6 g)
  have HOK8 := Lib.hid (openL_ok t4_ok g)
  have HSH : Hid ((openL g t4).halted = false) := Lib.hid rfl
  have HSG : Hid ((openL g t4).g = g) := Lib.hid rfl
  clear hc hk hs
  generalize openL g t4 = S8 at HC8 HSL HOK8 HSH HSG
  go_wp2_with fail
  refine (records_any mg tb2 rv2 L2 S8 w8 HC8.out (by rw [HSL.out]; decide)).mono ?_
  rintro e w9 ⟨u9, rfl, hu9, hx9⟩
  rw [HSL.out] at hu9
  have HC9 := Lib.hid (HC8.out.ext hx9)
  have HX9 := Lib.hid (HX8.out.trans hx9)
  have HOLD9 := Lib.hid (HOLD8.out.step (Kp.of_ext (L := bl mg tb2 rv2 L2) hx9) (Sub.refl _ _))
  have HR9 : Hid (RowK w9 u9 [xA] (bl mg tb2 rv2 L2)) := Lib.hid ⟨own_base hu9, fun k hk hm => by
    have h1 := own_new hu9 k hk
    have h2 := HC8.out.lts k hm
    omega⟩
  clear hu9 hx9
  go_wp2_with fail
  have hw9 := HC9.out.lts w9.heap.size
  have hkeep := keep_new (K := bl mg tb2 rv2 L2) (txt_lit w9 #[.string ⟨#[120]⟩, .string ⟨#[121]⟩] 9 [⟨#[120]⟩, ⟨#[121]⟩] 2 rfl (by decide) rfl) (fun hm => by have := hw9 hm; omega)
  have hxa := Ext.alloc w9 (.cells #[.string ⟨#[120]⟩, .string ⟨#[121]⟩] 9)
  have hca := HC9.out.ext hxa
  have hola := HOLD9.out.step (Kp.of_ext (L := bl mg tb2 rv2 L2) hxa) (Sub.refl _ _)
  have hra := HR9.out.step (Kp.of_ext (L := bl mg tb2 rv2 L2) hxa) (Sub.refl _ _)
  have hxw := HX9.out.trans hxa
  generalize w9.heap.size = q9 at hkeep ⊢
  generalize w9.alloc (.cells #[.string ⟨#[120]⟩, .string ⟨#[121]⟩] 9) = w10 at hkeep hca hola hra hxw ⊢
  have hrw := rewrite_any mg tb2 rv2 L2 S8 _ _ 4 w10 hca hkeep (by decide) (by decide) (by decide) (by decide)
  have hy := rewL_yes (l := [(⟨#[120]⟩ : ByteArray), ⟨#[121]⟩]) (n := 4) HSH.out (by rw [ok_sizes]; decide) (by decide)
  have hy1 : (rewL S8 [(⟨#[120]⟩ : ByteArray), ⟨#[121]⟩] 4).1 = 0 := by rw [hy]
  have hy2 : (rewL S8 [(⟨#[120]⟩ : ByteArray), ⟨#[121]⟩] 4).2.halted = false := by rw [hy]; exact HSH.out
  have hy3 := rewL_ok HOK8.out [(⟨#[120]⟩ : ByteArray), ⟨#[121]⟩] (by decide) (by decide) 4
  have hy4 : (rewL S8 [(⟨#[120]⟩ : ByteArray), ⟨#[121]⟩] 4).2.g = g := by rw [hy]; exact HSG.out
  rw [hy1] at hrw
  generalize (rewL S8 [(⟨#[120]⟩ : ByteArray), ⟨#[121]⟩] 4).2 = S11 at hrw hy2 hy3 hy4
  refine hrw.mono ?_
  rintro e w11 ⟨rfl, rv3, L3, hc11, hk11, hs11⟩
  have HC11 := Lib.hid hc11
  have HOLD11 := Lib.hid (hola.step hk11 hs11)
  have HR11 := Lib.hid (hra.step hk11 hs11)
  have HX11 : Hid (Ext w w11) := Lib.hid (hk11.to_ext hxw HB8.out)
  have HB11 : Hid (∀ k ∈ bl mg tb2 rv3 L3, w.heap.size ≤ k) := Lib.hid (fun k hm => (hs11 k hm).elim (HB8.out k) (fun hh => Nat.le_trans hxw.size hh))
  have HY2 := Lib.hid hy2
  have HY3 := Lib.hid hy3
  have HY4 := Lib.hid hy4
  clear hrw hc11 hk11 hs11 hca hola hra hxw hkeep hxa hw9 hy hy1 hy2 hy3 hy4
  go_wp2_with fail
  have hw11 := HC11.out.lts w11.heap.size
  have hkeep := keep_new (K := bl mg tb2 rv3 L3) (txt_lit w11 #[.string ⟨#[122]⟩] 9 [⟨#[122]⟩] 1 rfl (by decide) rfl) (fun hm => by have := hw11 hm; omega)
  have hxa := Ext.alloc w11 (.cells #[.string ⟨#[122]⟩] 9)
  have hca := HC11.out.ext hxa
  have hola := HOLD11.out.step (Kp.of_ext (L := bl mg tb2 rv3 L3) hxa) (Sub.refl _ _)
  have hra := HR11.out.step (Kp.of_ext (L := bl mg tb2 rv3 L3) hxa) (Sub.refl _ _)
  have hxw := HX11.out.trans hxa
  generalize w11.heap.size = q11 at hkeep ⊢
  generalize w11.alloc (.cells #[.string ⟨#[122]⟩] 9) = w12 at hkeep hca hola hra hxw ⊢
  have hrw := rewrite_any mg tb2 rv3 L3 S11 _ _ 3 w12 hca hkeep (by decide) (by decide) (by decide) (by decide)
  have hy := rewL_cut (l := [(⟨#[122]⟩ : ByteArray)]) (n := 3) HY2.out (by rw [ok_sizes]; decide) (by decide) (by decide)
  have hy1 : (rewL S11 [(⟨#[122]⟩ : ByteArray)] 3).1 = 12 := by rw [hy]
  have hy2 : (rewL S11 [(⟨#[122]⟩ : ByteArray)] 3).2.halted = true := by rw [hy]
  have hy3 := rewL_ok HY3.out [(⟨#[122]⟩ : ByteArray)] (by decide) (by decide) 3
  have hy4 : (rewL S11 [(⟨#[122]⟩ : ByteArray)] 3).2.g = g := by rw [hy]; exact HY4.out
  have hy5 : (rewL S11 [(⟨#[122]⟩ : ByteArray)] 3).2.t.s = bs (frm (⟨#[122]⟩ : ByteArray).toList) := by
    rw [hy]
    show (rewT S11.t (bs (frmsB [⟨#[122]⟩])) 3).s = _
    rw [rewT_s (by decide)]
    simp [frmsB, frms]
  have hy6 : (rewL S11 [(⟨#[122]⟩ : ByteArray)] 3).2.l = S11.l := by rw [hy]
  rw [hy1] at hrw
  generalize (rewL S11 [(⟨#[122]⟩ : ByteArray)] 3).2 = S13 at hrw hy2 hy3 hy4 hy5
  refine hrw.mono ?_
  rintro e w13 ⟨rfl, rv4, L4, hc13, hk13, hs13⟩
  have HC13 := Lib.hid hc13
  have HOLD13 := Lib.hid (hola.step hk13 hs13)
  have HR13 := Lib.hid (hra.step hk13 hs13)
  have HX13 : Hid (Ext w w13) := Lib.hid (hk13.to_ext hxw HB11.out)
  have HB13 : Hid (∀ k ∈ bl mg tb2 rv4 L4, w.heap.size ≤ k) := Lib.hid (fun k hm => (hs13 k hm).elim (HB11.out k) (fun hh => Nat.le_trans hxw.size hh))
  have HZ2 := Lib.hid hy2
  have HZ3 := Lib.hid hy3
  have HZ4 := Lib.hid hy4
  have HZ5 := Lib.hid hy5
  clear hrw hc13 hk13 hs13 hca hola hra hxw hkeep hxa hw11 hy hy1 hy2 hy3 hy4 hy5 hy6
  go_wp2_with fail
  refine (halted_append mg tb2 rv4 L4 S13 ⟨#[113]⟩ w13 HC13.out HZ2.out).mono ?_
  rintro e _ ⟨rfl, rfl⟩
  go_wp2_with fail
  obtain ⟨o0, o1, o3, o4, orv, ob, oo, _, _⟩ := HOLD13.out
  refine (records_core lg o0 o1 o3 o4 orv [xA, xB] w13 ob oo (by decide)).mono ?_
  rintro e w14 ⟨u14, rfl, hu14, hx14⟩
  obtain ⟨A14, c14, rfl⟩ := own_len hu14
  have HX14 := Lib.hid hx14
  clear ob oo hu14 hx14
  go_wp2_with fail
  have hxa := HX14.out.trans (Ext.alloc w14 (.cells #[.string ⟨#[97]⟩] 9))
  refine (same_yes u9 _ [xA] [⟨#[97]⟩] _ ((own_txt HR13.out.1).ext hxa) (txt_lit w14 #[.string ⟨#[97]⟩] 9 [⟨#[97]⟩] 1 rfl (by decide) rfl) rfl).mono ?_
  rintro e w15 ⟨rfl, hx15⟩
  have HX15 := Lib.hid (hxa.trans hx15)
  clear hxa hx15
  go_wp2_with fail
  refine (halted_any mg tb2 rv4 L4 S13 w15 (HC13.out.ext HX15.out)).mono ?_
  rintro e _ ⟨rfl, rfl⟩
  rw [HZ2.out]
  go_wp2_with fail
  refine (sumF_any ⟨#[49, 50, 51, 52, 53, 54, 55, 56, 57]⟩ w15 (by decide)).mono ?_
  rintro e w16 ⟨rfl, hx16⟩
  rw [kSum]
  have HX16 := Lib.hid (HX15.out.trans hx16)
  clear hx16
  go_wp2_with fail
  refine (frameF_any ⟨#[97]⟩ w16 (by decide)).mono ?_
  rintro e w17 ⟨rfl, hx17⟩
  rw [kFrame]
  have HX17 := Lib.hid (HX16.out.trans hx17)
  clear hx17
  go_wp2_with fail
  refine (frameF_any ⟨#[]⟩ w17 (by decide)).mono ?_
  rintro e w18 ⟨rfl, hx18⟩
  rw [kFrame0]
  have HX18 := Lib.hid (HX17.out.trans hx18)
  clear hx18
  go_wp2_with fail
  have htx := text_any S13.g L4 S13.t w18 (HC13.out.ext HX18.out).file
  have hz122 : (⟨#[122]⟩ : ByteArray).toList = [122] := toList_mk [122]
  rw [HZ4.out, HZ5.out, hz122] at htx
  refine htx.mono ?_
  rintro e _ ⟨rfl, rfl⟩
  go_wp2_with fail
  refine (frameF_any ⟨#[122]⟩ w18 (by decide)).mono ?_
  rintro e w19 ⟨rfl, hx19⟩
  have HX19 := Lib.hid (HX13.out.trans (HX18.out.trans hx19))
  clear hx19 htx
  rw [hz122]
  clear hz122
  generalize bs (frm [122]) = fz
  go_wp2_with fail
  go_ret
  exact ⟨rfl, HX19.out⟩
end Go.Proofs.Ytdndeggognfcaaa
