/-
  A node under construction: its block, and the rows that the call owns.
-/
import Derived.Test.YtbngcinhjoigaaaVr
import Derived.Test.YtbngcinhjoigaaaVl
import Derived.Deep.RegionLaw
set_option linter.unusedVariables false
namespace Go.Proofs.Ytbngcinhjoigaaa
open Go.RowKit

theorem info_int : (Try.prog.info? 3).map (fun i => (i.zero, i.size, i.bytes)) = some (some (.int .i64 0), 1, 8) := by kernel_rfl
theorem row_other {w : World} {base : Nat} {e : TypeId} {size n g : Nat} {v : Value} {xs : List Value} (h : w.ownsRow base e size v n xs) (hg : g < base) : v.ownBlock = none ∨ v.ownBlock ≠ some g := by
  rcases h.2 with ⟨rfl, _⟩ | ⟨b, cap, cur, rfl, hb, _⟩
  · exact .inl rfl
  · refine .inr fun e => ?_
    injection e with e
    have e : b = g := e
    omega
theorem row_chg {w w' : World} {base : Nat} {e : TypeId} {size n : Nat} {v : Value} {xs : List Value} {g : Nat} (h : w.ownsRow base e size v n xs) (hc : Chg w w' (fun k => k = g)) (hg : g < base) : w'.ownsRow base e size v n xs :=
  World.ownsRow.kept (row := some g) h ⟨hc.os, hc.tape, hc.output, hc.size, fun k hk hne => hc.block k hk fun e => hne (by rw [e])⟩ (row_other h hg)
theorem BK.trans {a b c : World} (h : BK a b) (k : BK b c) : BK a c := fun i cur mk hi => by
  have h1 := h i cur mk hi
  exact (k i cur mk (h1.trans hi)).trans h1
theorem BK.chg {w w' : World} {g : Nat} {t : TypeId} {cs : Array Value} (hc : Chg w w' (fun k => k = g)) (hg : Blk w g t cs) (ht : t ≠ 5) : BK w w' := fun k cur mk hk => by
  refine hc.block k ?_ fun e => ?_
  · rcases Nat.lt_or_ge k w.heap.size with h | h
    · exact h
    · rw [Array.getElem?_eq_none h] at hk; cases hk
  · subst e
    unfold Blk at hg
    rw [hg] at hk
    injection hk with hk
    injection hk with _ h2
    exact ht h2
theorem OwnR.chg {w w' : World} {base : Nat} {v : Value} {ls : List (List Int)} {g : Nat} (h : OwnR w base v ls) (hb : BK w w') (hc : Chg w w' (fun k => k = g)) (hg : g < base) : OwnR w' base v ls := by
  obtain ⟨vs, h1, h2⟩ := h
  exact ⟨vs, row_chg h1 hc hg, h2.keep hb⟩

/-- A node of type T at block gn, its rows owned from base on. -/
structure NodeS (w : World) (T : TypeId) (gn base : Nat) (lf : Bool) (vk vv vi : Value) (ks vs : List (List Int)) (is : List Int) : Prop where
  blk : Blk w gn T #[.bool lf, vk, vv, vi]
  ty : T ≠ 5
  keys : OwnR w base vk ks
  vals : OwnR w base vv vs
  kids : w.ownsRow base 3 1 vi is.length (I8 is)
  ints : Ints is
  apart : vk.ownBlock = none ∨ vk.ownBlock ≠ vv.ownBlock
  low : gn < base
  size : base ≤ w.heap.size
section
variable {w w' : World} {T : TypeId} {gn base : Nat} {lf : Bool} {vk vv vi : Value} {ks vs : List (List Int)} {is : List Int}
theorem NodeS.new (hT : T ≠ 5) (lf : Bool) : NodeS (w.alloc (.cells #[.bool lf, .slice none 0 0, .slice none 0 0, .slice none 0 0] T)) T w.heap.size (w.heap.size + 1) lf (.slice none 0 0) (.slice none 0 0) (.slice none 0 0) [] [] [] :=
  ⟨Blk.new w _ _, hT, OwnR.nil _ _, OwnR.nil _ _, World.ownsRow_nil _ _ _ _, (fun x hx => by cases hx), .inl rfl, Nat.lt_succ_self _, by simp⟩
theorem NodeS.chg (h : NodeS w T gn base lf vk vv vi ks vs is) {g : Nat} {t : TypeId} {cs : Array Value} (hc : Chg w w' (fun k => k = g)) (hg : Blk w g t cs) (ht : t ≠ 5) (hlt : g < base) (hne : g ≠ gn) : NodeS w' T gn base lf vk vv vi ks vs is :=
  have hb := BK.chg hc hg ht
  ⟨(hc.block gn h.blk.lt (fun e => hne e.symm)).trans h.blk, h.ty, h.keys.chg hb hc hlt, h.vals.chg hb hc hlt, row_chg h.kids hc hlt, h.ints, h.apart, h.low, Nat.le_trans h.size hc.size⟩
theorem NodeS.below (h : NodeS w T gn base lf vk vv vi ks vs is) (hb : Below w.heap.size w w') : NodeS w' T gn base lf vk vv vi ks vs is :=
  ⟨h.blk.below hb h.blk.lt, h.ty, h.keys.below hb, h.vals.below hb, World.ownsRow.kept (row := none) h.kids ⟨hb.os, hb.tape, hb.output, hb.size, fun k hk _ => hb.block k hk⟩ (by cases vi.ownBlock <;> simp), h.ints, h.apart, h.low, Nat.le_trans h.size hb.size⟩
theorem NodeS.alloc (h : NodeS w T gn base lf vk vv vi ks vs is) (o : Obj) : NodeS (w.alloc o) T gn base lf vk vv vi ks vs is := h.below ((Below.refl _ _).alloc (Nat.le_refl _) o)
theorem NodeS.drew (h : NodeS w T gn base lf vk vv vi ks vs is) : NodeS w.drew T gn base lf vk vv vi ks vs is := h.below (Below.refl _ _).drew
/-- A key put behind the others. -/
theorem NodeS.key (h : NodeS w T gn base lf vk vv vi ks vs is) {w6 : World} {v6 u : Value} {l : List Int} {kv : List Value} (hk : w.ownsRow base 26 1 vk ks.length kv) (hv : RowsV w kv ks) (hu : RowV w u l) (hr6 : w6.ownsRow base 26 1 v6 (ks.length + 1) (kv ++ [u])) (hg6 : Grew w vk w6 v6) :
    NodeS (w6.setCell ⟨gn, 1, none⟩ v6) T gn base lf v6 vv vi (ks ++ [l]) vs is := by
  have hb := BK.grew hk hg6 (by decide)
  have hS := hg6.by_.size
  have hlow := h.low
  have hne : some gn ≠ vk.ownBlock := by
    rcases row_other hk h.low with e | e
    · rw [e]; simp
    · exact fun x => e x.symm
  have hblk6 := h.blk.grown hg6.by_ hne
  have hc := Chg.setCell w6 ⟨gn, 1, none⟩ v6
  have hb2 := BK.chg hc hblk6 h.ty
  have hap : vv.ownBlock = none ∨ vv.ownBlock ≠ vk.ownBlock := by
    rcases h.apart with e | e
    · rw [e]; cases vv.ownBlock <;> simp
    · exact .inr fun x => e x.symm
  refine ⟨hblk6.set_ 1 v6, h.ty, (OwnR.snocV hk hv hu hr6 hg6).chg hb2 hc h.low, (h.vals.keep hb hg6.by_ hap).chg hb2 hc h.low, row_chg (row_grew h.kids hk hg6 (by decide)) hc h.low, h.ints, ?_, h.low, ?_⟩
  · obtain ⟨va, hva, _⟩ := h.vals
    rcases hg6.at_ with e | e
    · rw [e]; exact h.apart
    · cases hvb : v6.ownBlock with
      | none => exact .inl rfl
      | some b6 =>
        refine .inr fun x => ?_
        have h1 := e b6 hvb
        have h2 := hva.lt b6 x.symm
        omega
  · have := h.size
    show base ≤ (w6.setCell _ _).heap.size
    simp [World.setCell]; omega
/-- A value put behind the others. -/
theorem NodeS.val (h : NodeS w T gn base lf vk vv vi ks vs is) {w6 : World} {v6 u : Value} {l : List Int} {kv : List Value} (hk : w.ownsRow base 26 1 vv vs.length kv) (hv : RowsV w kv vs) (hu : RowV w u l) (hr6 : w6.ownsRow base 26 1 v6 (vs.length + 1) (kv ++ [u])) (hg6 : Grew w vv w6 v6) :
    NodeS (w6.setCell ⟨gn, 2, none⟩ v6) T gn base lf vk v6 vi ks (vs ++ [l]) is := by
  have hb := BK.grew hk hg6 (by decide)
  have hS := hg6.by_.size
  have hlow := h.low
  have hne : some gn ≠ vv.ownBlock := by
    rcases row_other hk h.low with e | e
    · rw [e]; simp
    · exact fun x => e x.symm
  have hblk6 := h.blk.grown hg6.by_ hne
  have hc := Chg.setCell w6 ⟨gn, 2, none⟩ v6
  have hb2 := BK.chg hc hblk6 h.ty
  refine ⟨hblk6.set_ 2 v6, h.ty, (h.keys.keep hb hg6.by_ h.apart).chg hb2 hc h.low, (OwnR.snocV hk hv hu hr6 hg6).chg hb2 hc h.low, row_chg (row_grew h.kids hk hg6 (by decide)) hc h.low, h.ints, ?_, h.low, ?_⟩
  · obtain ⟨va, hva, _⟩ := h.keys
    rcases hg6.at_ with e | e
    · rw [e]; exact h.apart
    · cases hvb : vk.ownBlock with
      | none => exact .inl rfl
      | some b6 =>
        refine .inr fun x => ?_
        have h1 := e b6 x.symm
        have h2 := hva.lt b6 hvb
        omega
  · have := h.size
    show base ≤ (w6.setCell _ _).heap.size
    simp [World.setCell]; omega
/-- A kid put behind the others. -/
theorem NodeS.kid (h : NodeS w T gn base lf vk vv vi ks vs is) {w6 : World} {v6 : Value} {x : Int} (hx : -9223372036854775808 ≤ x ∧ x ≤ 9223372036854775807) (hr6 : w6.ownsRow base 3 1 v6 (is.length + 1) (I8 is ++ [.int .i64 x])) (hg6 : Grew w vi w6 v6) :
    NodeS (w6.setCell ⟨gn, 3, none⟩ v6) T gn base lf vk vv v6 ks vs (is ++ [x]) := by
  have hb := BK.grew h.kids hg6 (by decide)
  have hS := hg6.by_.size
  have hlow := h.low
  have hne : some gn ≠ vi.ownBlock := by
    rcases row_other h.kids h.low with e | e
    · rw [e]; simp
    · exact fun x => e x.symm
  have hblk6 := h.blk.grown hg6.by_ hne
  have hc := Chg.setCell w6 ⟨gn, 3, none⟩ v6
  have hb2 := BK.chg hc hblk6 h.ty
  obtain ⟨va, hva, hvr⟩ := h.keys
  obtain ⟨vb, hvb, hvs⟩ := h.vals
  have hk6 : OwnR w6 base vk ks := ⟨va, row_grew hva h.kids hg6 (by decide), hvr.keep hb⟩
  have hv6 : OwnR w6 base vv vs := ⟨vb, row_grew hvb h.kids hg6 (by decide), hvs.keep hb⟩
  refine ⟨hblk6.set_ 3 v6, h.ty, hk6.chg hb2 hc h.low, hv6.chg hb2 hc h.low, row_chg (by simpa using hr6) hc h.low, ?_, h.apart, h.low, ?_⟩
  · intro y hy
    rcases List.mem_append.1 hy with hy | hy
    · exact h.ints y hy
    · simp at hy; subst hy; exact hx
  · have := h.size
    show base ≤ (w6.setCell _ _).heap.size
    simp [World.setCell]; omega
/-- What it reads as. -/
theorem NodeS.node (h : NodeS w T gn base lf vk vv vi ks vs is) : ∃ Ak ck Av cv Ai ci, vk = .slice Ak ks.length ck ∧ vv = .slice Av vs.length cv ∧ vi = .slice Ai is.length ci ∧ NodeAt w Ak ks ck Av vs cv Ai is ci := by
  have hk := h.keys
  have hv := h.vals
  obtain ⟨Ak, ck, _, rfl, k1, k2, _⟩ := hk.shape
  obtain ⟨Av, cv, _, rfl, v1, v2, _⟩ := hv.shape
  obtain ⟨Ai, ci, e, i1, i2, i3⟩ := ownsRow_shape h.kids
  unfold maxLen at k2 v2 i2
  exact ⟨Ak, ck, Av, cv, Ai, ci, rfl, rfl, e, hk.rowsC, hv.rowsC, i3, h.ints, ⟨k1, by omega⟩, ⟨v1, by omega⟩, ⟨i1, by omega⟩⟩
theorem NodeS.at_ {Ak Av Ai : Option Addr} {nk ck nv cv ni ci : Nat} (h : NodeS w T gn base lf (.slice Ak nk ck) (.slice Av nv cv) (.slice Ai ni ci) ks vs is) : nk = ks.length ∧ nv = vs.length ∧ ni = is.length ∧ NodeAt w Ak ks ck Av vs cv Ai is ci := by
  obtain ⟨Ak', ck', Av', cv', Ai', ci', e1, e2, e3, hn⟩ := h.node
  injection e1 with a1 a2 a3
  injection e2 with b1 b2 b3
  injection e3 with c1 c2 c3
  subst a1 a2 a3 b1 b2 b3 c1 c2 c3
  exact ⟨rfl, rfl, rfl, hn⟩
theorem NodeS.keyRow (h : NodeS w T gn base lf vk vv vi ks vs is) : ∃ kv, w.ownsRow base 26 1 vk ks.length kv ∧ RowsV w kv ks := by
  obtain ⟨kv, h1, h2⟩ := h.keys
  exact ⟨kv, h2.len ▸ h1, h2⟩
theorem NodeS.valRow (h : NodeS w T gn base lf vk vv vi ks vs is) : ∃ kv, w.ownsRow base 26 1 vv vs.length kv ∧ RowsV w kv vs := by
  obtain ⟨kv, h1, h2⟩ := h.vals
  exact ⟨kv, h2.len ▸ h1, h2⟩
theorem chg_row {w w6 : World} {gn base i : Nat} {T e : TypeId} {cs : Array Value} {size n : Nat} {v v6 : Value} {xs : List Value} (hb : Blk w gn T cs) (hk : w.ownsRow base e size v n xs) (hg6 : Grew w v w6 v6) (hlow : gn < base) (u : Value) : Chg w (w6.setCell ⟨gn, i, none⟩ u) (fun k => k = gn ∨ base ≤ k) := by
  have h1 : Chg w w6 (fun k => k = gn ∨ base ≤ k) := (Chg.grown hg6.by_).mono fun j _ hj => .inr (hk.lt j hj).1
  exact h1.trans (Chg.setCell w6 ⟨gn, i, none⟩ u) fun j hj => .inl (.inl hj)
theorem bk_row {w w6 : World} {gn base i : Nat} {T e : TypeId} {cs : Array Value} {size n : Nat} {v v6 : Value} {xs : List Value} (hb : Blk w gn T cs) (hT : T ≠ 5) (hk : w.ownsRow base e size v n xs) (he : 5 ≠ e) (hg6 : Grew w v w6 v6) (hlow : gn < base) (u : Value) : BK w (w6.setCell ⟨gn, i, none⟩ u) := by
  have hne : some gn ≠ v.ownBlock := by
    rcases row_other hk hlow with e | e
    · rw [e]; simp
    · exact fun x => e x.symm
  exact (BK.grew hk hg6 he).trans (BK.chg (Chg.setCell w6 ⟨gn, i, none⟩ u) (hb.grown hg6.by_ hne) hT)
theorem blk_row {w w6 : World} {gn base : Nat} {T e : TypeId} {cs : Array Value} {size n : Nat} {v v6 : Value} {xs : List Value} (hb : Blk w gn T cs) (hk : w.ownsRow base e size v n xs) (hg6 : Grew w v w6 v6) (hlow : gn < base) : Blk w6 gn T cs := by
  refine hb.grown hg6.by_ ?_
  rcases row_other hk hlow with e | e
  · rw [e]; simp
  · exact fun x => e x.symm
end

/-- What a reader of pages answers. -/
def ReadRes (l : List Int) (w : World) (e : Ending) (w' : World) : Prop :=
  ((∃ (lf : Bool) (Ak : Option Addr) (ks : List (List Int)) (ck : Nat) (Av : Option Addr) (vs : List (List Int)) (cv : Nat) (Ai : Option Addr) (is : List Int) (ci : Nat), IsPage l lf ks vs is ∧ e = .returned (.tuple #[nodeV lf Ak ks ck Av vs cv Ai is ci, .int .i64 0]) ∧ NodeAt w' Ak ks ck Av vs cv Ai is ci) ∨
    ((∀ (lf : Bool) (ks vs : List (List Int)) (is : List Int), ¬ IsPage l lf ks vs is) ∧ e = .returned (.tuple #[nodeV false none [] 0 none [] 0 none [] 0, .int .i64 11]))) ∧ Below w.heap.size w w'
theorem no_page {l : List Int} (h : parseP l = none) : ∀ (lf : Bool) (ks vs : List (List Int)) (is : List Int), ¬ IsPage l lf ks vs is := fun lf ks vs is hp => by
  have := parse_page hp.1
  rw [hp.2, h] at this
  cases this
theorem no_page_some {l : List Int} {lf : Bool} {ks vs : List (List Int)} {is : List Int} (h : parseP l = some (lf, ks, vs, is)) (hn : ¬ (frmB lf ks vs is = true ∧ l = pageL lf ks vs is)) : ∀ (lf : Bool) (ks vs : List (List Int)) (is : List Int), ¬ IsPage l lf ks vs is := fun lf' ks' vs' is' hp => by
  have := parse_page hp.1
  rw [hp.2, h] at this
  simp only [Option.some.injEq, Prod.mk.injEq] at this
  obtain ⟨rfl, rfl, rfl, rfl⟩ := this
  exact hn ⟨hp.1, hp.2.symm⟩

/-- Block g0: a node, all zero. -/
abbrev zeroNode : Array Value := #[.bool false, .slice none 0 0, .slice none 0 0, .slice none 0 0]


/-- The blocks that a reader writes: the rest's, the node's, and what lies behind. -/
def RS (gr gn : Nat) (k : Nat) : Prop := k = gr ∨ k = gn ∨ gn < k
theorem RestAt.chg {w w' : World} {B g : Nat} {r : List Int} {S : Nat → Prop} (h : RestAt w B g r) (hc : Chg w w' S) (hg : ¬ S g) (hB : ∀ k, k < B → ¬ S k) : RestAt w' B g r := by
  obtain ⟨A, c, h1, h2, h3⟩ := h
  refine ⟨A, c, (hc.block g h1.lt hg).trans h1, fun k u hu => ?_, h3⟩
  obtain ⟨b, off, e, hb, hcell⟩ := h2 k u hu
  exact ⟨b, off, e, hb, (World.cell?_of_block (a := ⟨b, off + k, none⟩) (hc.block b (World.block_lt_of_cell? w _ hcell) (hB b hb))).trans hcell⟩
theorem NodeS.rest {w w' : World} {T : TypeId} {B g gn base : Nat} {lf : Bool} {vk vv vi : Value} {ks vs : List (List Int)} {is r : List Int} (h : NodeS w T gn base lf vk vv vi ks vs is) (hR : RestAt w B g r) (hc : Chg w w' (fun k => k = g)) (hlt : g < gn) : NodeS w' T gn base lf vk vv vi ks vs is := by
  obtain ⟨A, c, hb, _⟩ := hR
  have := h.low
  exact h.chg hc hb (by decide) (by omega) (by omega)
theorem RestAt.bk {w w' : World} {B g : Nat} {r : List Int} (h : RestAt w B g r) (hc : Chg w w' (fun k => k = g)) : BK w w' := by
  obtain ⟨A, c, hb, _⟩ := h
  exact BK.chg hc hb (by decide)
theorem Oct.off {r : List Int} (h : Oct r) (n : Nat) : Oct (off r n) := by
  unfold Proofs.Ytbngcinhjoigaaa.off
  split
  · exact h
  · exact h.drop n
theorem off_len (r : List Int) (n : Nat) : (off r n).length ≤ r.length := by
  unfold off
  split
  · exact Nat.le_refl _
  · simp
theorem num_nat {r : List Int} (ho : Oct r) (n : Nat) : ∃ N : Nat, num r n = (N : Int) ∧ (N : Int) < 256 ^ n := by
  have hp : (0 : Int) < 256 ^ n := Int.pow_pos (by decide)
  unfold num
  split
  · exact ⟨0, rfl, hp⟩
  · obtain ⟨h1, h2⟩ := bigN_bound (ho.take n)
    rw [List.length_take, Nat.min_eq_left (by omega)] at h2
    obtain ⟨N, hN⟩ := Int.eq_ofNat_of_zero_le h1
    exact ⟨N, hN, by rw [← hN]; exact h2⟩
theorem oct_rows {w : World} {A : Option Addr} {ls : List (List Int)} (h : RowsC w A ls) (k : Nat) : Oct (ls.getD k []) := by
  rcases Nat.lt_or_ge k ls.length with hk | hk
  · obtain ⟨_, _, _, _, _, _, _, _, ho, _⟩ := h k hk
    rw [getD_at hk]; exact ho
  · rw [getD_out hk]; exact Oct.nil
theorem page_oct {lf : Bool} {ks vs : List (List Int)} {is : List Int} (h : frmB lf ks vs is = true) (hk : ∀ k, Oct (ks.getD k [])) (hv : ∀ k, Oct (vs.getD k [])) : Oct (pageL lf ks vs is) := by
  unfold frmB at h
  rw [Bool.and_eq_true] at h
  obtain ⟨hK, _⟩ : ShapedP lf ks vs is := of_decide_eq_true h.1
  have hw : ∀ n, n ≤ ks.length → Oct (wrTo lf ks vs is n) := by
    intro n
    induction n with
    | zero =>
      intro _
      rw [wrTo, headL]
      refine Oct.cons (by split <;> decide) (by split <;> decide) (Oct.app (be16_oct _) ?_)
      split
      · exact Oct.nil
      · exact be32_oct _
    | succ n ih =>
      intro hn
      rw [wrTo, entL]
      have := (hK n (by omega)).2.1
      refine Oct.app (ih (by omega)) (Oct.cons (by omega) (by omega) ?_)
      split
      · exact Oct.app (be16_oct _) (Oct.app (hk n) (hv n))
      · exact Oct.app (hk n) (be32_oct _)
  unfold pageL
  refine Oct.app (hw _ (Nat.le_refl _)) fun x hx => ?_
  have := (List.mem_replicate.1 hx).2
  omega
/-- The state ahead of the round k. -/
structure RL (w0 : World) (B gr gn : Nat) (T : TypeId) (lf : Bool) (X : Option (List (List Int) × List (List Int) × List Int)) (C k : Nat) (wr : World) (r : List Int) (vk vv vi : Value) (ks vs : List (List Int)) (is : List Int) : Prop where
  parse : parseN lf (C - k) r ks vs is = X
  rest : RestAt wr B gr r
  oct : Oct r
  len : r.length ≤ 100000
  node : NodeS wr T gn (gn + 1) lf vk vv vi ks vs is
  lk : ks.length = k
  lv : vs.length ≤ k
  li : is.length ≤ k + 1
  kl : LenLe ks 100000
  vl : LenLe vs 100000
  chg : Chg w0 wr (RS gr gn)
theorem LenLe.snoc {ls : List (List Int)} {l : List Int} {n : Nat} (h : LenLe ls n) (hl : l.length ≤ n) : LenLe (ls ++ [l]) n := fun x hx => by
  rcases List.mem_append.1 hx with hx | hx
  · exact h x hx
  · simp at hx; subst hx; exact hl
theorem RL.leaf {w0 : World} {B gr gn : Nat} {T : TypeId} {X : Option (List (List Int) × List (List Int) × List Int)} {C k : Nat} {wr : World} {r : List Int} {vk vv vi : Value} {ks vs : List (List Int)} {is : List Int} (H : RL w0 B gr gn T true X C k wr r vk vv vi ks vs is) (hlt : k < C) :
    X = (if (off (off r 1) 2).length < (num r 1).toNat ∨ (off (off (off r 1) 2) (num r 1).toNat).length < (num (off r 1) 2).toNat then none else
      parseN true (C - (k + 1)) (off (off (off (off r 1) 2) (num r 1).toNat) (num (off r 1) 2).toNat) (ks ++ [(off (off r 1) 2).take (num r 1).toNat]) (vs ++ [(off (off (off r 1) 2) (num r 1).toNat).take (num (off r 1) 2).toNat]) is) := by
  rw [← H.parse, show C - k = (C - (k + 1)) + 1 by omega, parseN_leaf]
theorem RL.inner {w0 : World} {B gr gn : Nat} {T : TypeId} {X : Option (List (List Int) × List (List Int) × List Int)} {C k : Nat} {wr : World} {r : List Int} {vk vv vi : Value} {ks vs : List (List Int)} {is : List Int} (H : RL w0 B gr gn T false X C k wr r vk vv vi ks vs is) (hlt : k < C) :
    X = (if (off r 1).length < (num r 1).toNat then none else
      parseN false (C - (k + 1)) (off (off (off r 1) (num r 1).toNat) 4) (ks ++ [(off r 1).take (num r 1).toNat]) vs (is ++ [num (off (off r 1) (num r 1).toNat) 4])) := by
  rw [← H.parse, show C - k = (C - (k + 1)) + 1 by omega, parseN_inner]
theorem Chg.one {w w' : World} {gr gn : Nat} (h : Chg w w' (fun k => k = gr)) : Chg w w' (RS gr gn) := h.mono fun i _ hi => .inl hi
theorem Chg.rs {a b c : World} {gr gn : Nat} (h : Chg a b (RS gr gn)) (k : Chg b c (RS gr gn)) : Chg a c (RS gr gn) := h.trans k fun i hi => .inl hi
theorem Chg.node {w w' : World} {gr gn : Nat} (h : Chg w w' (fun k => k = gn ∨ gn + 1 ≤ k)) : Chg w w' (RS gr gn) := h.mono fun i _ hi => hi.elim (fun e => .inr (.inl e)) fun e => .inr (.inr e)

theorem RL.next_leaf {w0 : World} {B gr gn : Nat} {T : TypeId} {X : Option (List (List Int) × List (List Int) × List Int)} {C k : Nat} {wr w6 w8 : World} {r r4 x y : List Int} {vk vv vi v7 v8 : Value} {ks vs : List (List Int)} {is : List Int} (H : RL w0 B gr gn T true X C k wr r vk vv vi ks vs is)
    (hCH : Chg wr w6 (RS gr gn)) (hR6 : RestAt w6 B gr r4) (ho : Oct r4) (hl : r4.length ≤ 100000) (hp : parseN true (C - (k + 1)) r4 (ks ++ [x]) (vs ++ [y]) is = X) (hx : x.length ≤ 100000) (hy : y.length ≤ 100000)
    (hN : NodeS w8 T gn (gn + 1) true v7 v8 vi (ks ++ [x]) (vs ++ [y]) is) (hCN : Chg w6 w8 (fun k => k = gn ∨ gn + 1 ≤ k)) (hgr : gr < gn) (hB : B ≤ gr) : RL w0 B gr gn T true X C (k + 1) w8 r4 v7 v8 vi (ks ++ [x]) (vs ++ [y]) is := by
  have h1 := H.lk
  have h2 := H.lv
  have h3 := H.li
  exact ⟨hp, hR6.chg hCN (by omega) (fun i hi => by omega), ho, hl, hN, by simp; omega, by simp; omega, by omega, H.kl.snoc hx, H.vl.snoc hy, (H.chg.rs hCH).rs hCN.node⟩
theorem RL.next_inner {w0 : World} {B gr gn : Nat} {T : TypeId} {X : Option (List (List Int) × List (List Int) × List Int)} {C k : Nat} {wr w8 : World} {r r4 x : List Int} {y : Int} {vk vv vi v7 v8 : Value} {ks vs : List (List Int)} {is : List Int} (H : RL w0 B gr gn T false X C k wr r vk vv vi ks vs is)
    (hCH : Chg wr w8 (RS gr gn)) (hR6 : RestAt w8 B gr r4) (ho : Oct r4) (hl : r4.length ≤ 100000) (hp : parseN false (C - (k + 1)) r4 (ks ++ [x]) vs (is ++ [y]) = X) (hx : x.length ≤ 100000)
    (hN : NodeS w8 T gn (gn + 1) false v7 vv v8 (ks ++ [x]) vs (is ++ [y])) : RL w0 B gr gn T false X C (k + 1) w8 r4 v7 vv v8 (ks ++ [x]) vs (is ++ [y]) := by
  have h1 := H.lk
  have h2 := H.lv
  have h3 := H.li
  exact ⟨hp, hR6, ho, hl, hN, by simp; omega, by omega, by simp; omega, H.kl.snoc hx, H.vl, H.chg.rs hCH⟩
theorem Blk.four {w : World} {g : Nat} {t : TypeId} {x y z u : Value} (h : Blk w g t #[x, y, z, u]) (a b c d : Value) :
    Blk ((((w.setCell ⟨g, 0, none⟩ a).setCell ⟨g, 1, none⟩ b).setCell ⟨g, 2, none⟩ c).setCell ⟨g, 3, none⟩ d) g t #[a, b, c, d] := by
  have := (((h.set_ 0 a).set_ 1 b).set_ 2 c).set_ 3 d
  simpa using this
theorem chg_four (w : World) (g : Nat) (a b c d : Value) : Chg w ((((w.setCell ⟨g, 0, none⟩ a).setCell ⟨g, 1, none⟩ b).setCell ⟨g, 2, none⟩ c).setCell ⟨g, 3, none⟩ d) (fun k => k = g) :=
  (((Chg.setCell w ⟨g, 0, none⟩ a).trans (Chg.setCell _ ⟨g, 1, none⟩ b) fun i hi => .inl hi).trans (Chg.setCell _ ⟨g, 2, none⟩ c) fun i hi => .inl hi).trans (Chg.setCell _ ⟨g, 3, none⟩ d) fun i hi => .inl hi
theorem cells_set (w : World) (p : Addr) (u : Value) (xs : Array Value) (t : TypeId) : Cells ((w.setCell p u).alloc (.cells xs t)) (w.heap.size + 1) (some ⟨w.heap.size, 0, none⟩) xs.toList := by
  have h := cells_blk (w.setCell p u) xs t
  rwa [show (w.setCell p u).heap.size = w.heap.size by simp [World.setCell]] at h
theorem probe {p : Prop} (h : Hid p) : p := h.out
set_option maxRecDepth 8000 in
set_option maxHeartbeats 8000000 in
theorem read_leaf (A : Option Addr) (l : List Int) (c : Nat) (w : World) (ha : Cells w w.heap.size A (U8 l)) (ho : Oct l) (hl : l.length ≤ 100000) (hcap : l.length ≤ c ∧ c ≤ 9223372036854775807) (h1 : num l 1 = 1) :
    Calls Try.prog 15 #[.slice A l.length c] w (ReadRes l w) := by
  obtain ⟨C, hC, hC'⟩ := num_nat (ho.off 1) 2
  have hC1 : C ≤ 65535 := by omega
  have HN : Hid (parseP l = (parseN true C (off (off l 1) 2) [] [] []).map fun x => (true, x)) := Lib.hid (by
    unfold parseP
    simp only [h1, decide_true, if_true, hC, Int.toNat_natCast])
  obtain ⟨Wa, hWa⟩ : ∃ Wa, Wa = (w.alloc (.cells zeroNode 25)).alloc (.cells #[.slice A l.length c] 26) := ⟨_, rfl⟩
  have hB0 : Below w.heap.size w Wa := by rw [hWa]; exact ((Below.refl _ _).alloc (Nat.le_refl _) _).alloc (by simp) _
  have hZ0 : Blk Wa w.heap.size 25 zeroNode := by rw [hWa]; exact (Blk.new w _ _).alloc _
  have hR0 : RestAt Wa w.heap.size (w.heap.size + 1) l := by rw [hWa]; exact ⟨A, c, Blk.second w _ _ _, (ha.alloc (Nat.le_refl _) _).alloc (by simp) _, hcap⟩
  have hsz : Wa.heap.size = w.heap.size + 2 := by rw [hWa]; simp
  have HN1 : Hid (Calls Try.prog 30 #[.pointer (some ⟨w.heap.size + 1, 0, none⟩), .int .i64 1] Wa fun e w' => e = .returned (.int .i64 1) ∧ RestAt w' w.heap.size (w.heap.size + 1) (off l 1) ∧ Chg Wa w' (fun k => k = w.heap.size + 1)) :=
    Lib.hid ((number_any w.heap.size (w.heap.size + 1) l 1 Wa hR0 (by omega) (by omega) (by omega) ho).mono fun e w' ⟨h, r⟩ => ⟨by rw [h, h1], r⟩)
  have HN2 : Hid (∀ w1, RestAt w1 w.heap.size (w.heap.size + 1) (off l 1) → Calls Try.prog 30 #[.pointer (some ⟨w.heap.size + 1, 0, none⟩), .int .i64 2] w1 fun e w' => e = .returned (.int .i64 C) ∧ RestAt w' w.heap.size (w.heap.size + 1) (off (off l 1) 2) ∧ Chg w1 w' (fun k => k = w.heap.size + 1)) :=
    Lib.hid fun w1 hR1 => (number_any w.heap.size (w.heap.size + 1) (off l 1) 2 w1 hR1 (by omega) (by omega) (by have := off_len l 1; omega) (ho.off 1)).mono fun e w' ⟨h, r⟩ => ⟨by rw [h, hC], r⟩
  have HW := Lib.hid hWa
  have HS := Lib.hid hsz
  clear hWa hsz h1 hC hC'
  go_enter Try.func15, Try.ntmps15
  go_wp2_with fail
  rw [← HW.out]
  refine HN1.out.mono ?_
  rintro e w1 ⟨rfl, hR1, hc1⟩
  go_wp2_with fail
  refine (HN2.out w1 hR1).mono ?_
  rintro e w2 ⟨rfl, hR2, hc2⟩
  have hc02 : Chg Wa w2 (fun k => k = w.heap.size + 1) := hc1.trans hc2 fun i hi => .inl hi
  have hs2 : w.heap.size + 2 ≤ w2.heap.size := by have := hc02.size; rw [HS.out] at this; exact this
  obtain ⟨W3, hW3⟩ : ∃ W3, W3 = w2.alloc (.cells #[.bool true, .slice none 0 0, .slice none 0 0, .slice none 0 0] 25) := ⟨_, rfl⟩
  have hb3 : Below w2.heap.size w2 W3 := by rw [hW3]; exact (Below.refl _ _).alloc (Nat.le_refl _) _
  have hN3 : NodeS W3 25 w2.heap.size (w2.heap.size + 1) true (.slice none 0 0) (.slice none 0 0) (.slice none 0 0) [] [] [] := by rw [hW3]; exact NodeS.new (by decide) true
  have hR3 : RestAt W3 w.heap.size (w.heap.size + 1) (off (off l 1) 2) := hR2.below hb3 (by omega) (by omega)
  have hZ2 : Blk w2 w.heap.size 25 zeroNode := (hc02.block _ hZ0.lt (fun e => by omega)).trans hZ0
  have hZ3 : Blk W3 w.heap.size 25 zeroNode := hZ2.below hb3 (by omega)
  have hB3 : Below w.heap.size w W3 := (hB0.trans (hc02.below (by rw [HS.out]; omega) fun i hi => by omega)).trans (hb3.mono (by omega))
  have HW3 := Lib.hid hW3
  have d0 : W3.cell? ⟨w2.heap.size, 0, none⟩ = some (.bool true) := hN3.blk.cell 0
  clear hW3 hb3
  go_wp2_with fail
  rw [← HW3.out]
  go_loopw [32] (fun i wr => ∃ (k : Nat) (r : List Int) (vk vv vi : Value) (ks vs : List (List Int)) (is : List Int), i = .int .i64 k ∧ k ≤ C ∧ RL W3 w.heap.size (w.heap.size + 1) w2.heap.size 25 true (parseN true C (off (off l 1) 2) [] [] []) C k wr r vk vv vi ks vs is)
    (fun i _ => C - (intOf i).toNat)
  case atStart => exact ⟨0, _, _, _, _, _, _, _, rfl, Nat.zero_le _, rfl, hR3, (ho.off 1).off 2, by have := off_len l 1; have := off_len (off l 1) 2; omega, hN3, rfl, Nat.zero_le _, Nat.zero_le _, LenLe.nil' rfl, LenLe.nil' rfl, Chg.refl _ _⟩
  case round =>
    obtain ⟨k, r, vk, vv, vi, ks, vs, is, rfl, hk, H⟩ := hrel
    generalize parseN true C (off (off l 1) 2) [] [] [] = X at *
    clear d0
    have hN := H.node
    have p0 : wr.cell? ⟨w2.heap.size, 0, none⟩ = some (.bool true) := hN.blk.cell 0
    have hZ : Blk wr w.heap.size 25 zeroNode := (H.chg.block _ hZ3.lt (fun e => by rcases e with e | e | e <;> omega)).trans hZ3
    have hB : Below w.heap.size w wr := hB3.trans (H.chg.below hB3.size fun i hi => by rcases hi with e | e | e <;> omega)
    by_cases hlt : k < C
    · have hkI : (k : Int) < (C : Int) := by omega
      have HX := Lib.hid (H.leaf hlt)
      obtain ⟨s, hs, hs'⟩ := num_nat H.oct 1
      obtain ⟨m, hm, hm'⟩ := num_nat (H.oct.off 1) 2
      have hs1 : s ≤ 255 := by omega
      have hm1 : m ≤ 65535 := by omega
      rw [hs, hm, Int.toNat_natCast, Int.toNat_natCast] at HX
      have hrl := H.len
      have hl1 := off_len r 1
      have hl2 := off_len (off r 1) 2
      have hl3 := off_len (off (off r 1) 2) s
      have HC1 : Hid (Calls Try.prog 30 #[.pointer (some ⟨w.heap.size + 1, 0, none⟩), .int .i64 1] wr fun e w' => e = .returned (.int .i64 s) ∧ RestAt w' w.heap.size (w.heap.size + 1) (off r 1) ∧ Chg wr w' (fun k => k = w.heap.size + 1)) :=
        Lib.hid ((number_any w.heap.size (w.heap.size + 1) r 1 wr H.rest (by omega) (by omega) (by omega) H.oct).mono fun e w' ⟨h, r⟩ => ⟨by rw [h, hs], r⟩)
      have HC2 : Hid (∀ w1, RestAt w1 w.heap.size (w.heap.size + 1) (off r 1) → Calls Try.prog 30 #[.pointer (some ⟨w.heap.size + 1, 0, none⟩), .int .i64 2] w1 fun e w' => e = .returned (.int .i64 m) ∧ RestAt w' w.heap.size (w.heap.size + 1) (off (off r 1) 2) ∧ Chg w1 w' (fun k => k = w.heap.size + 1)) :=
        Lib.hid fun w1 hR1 => (number_any w.heap.size (w.heap.size + 1) (off r 1) 2 w1 hR1 (by omega) (by omega) (by omega) (H.oct.off 1)).mono fun e w' ⟨h, r⟩ => ⟨by rw [h, hm], r⟩
      have HC3 : Hid (∀ w1, RestAt w1 w.heap.size (w.heap.size + 1) (off (off r 1) 2) → Calls Try.prog 31 #[.pointer (some ⟨w.heap.size + 1, 0, none⟩), .int .i64 s] w1 (TakeRes w1 w.heap.size (w.heap.size + 1) (off (off r 1) 2) s (off (off (off r 1) 2) s))) :=
        Lib.hid fun w1 hR1 => take_any w.heap.size (w.heap.size + 1) (off (off r 1) 2) s w1 hR1 (by omega) (by omega) (by omega)
      have HC4 : Hid (∀ w1, RestAt w1 w.heap.size (w.heap.size + 1) (off (off (off r 1) 2) s) → Calls Try.prog 31 #[.pointer (some ⟨w.heap.size + 1, 0, none⟩), .int .i64 m] w1 (TakeRes w1 w.heap.size (w.heap.size + 1) (off (off (off r 1) 2) s) m (off (off (off (off r 1) 2) s) m))) :=
        Lib.hid fun w1 hR1 => take_any w.heap.size (w.heap.size + 1) (off (off (off r 1) 2) s) m w1 hR1 (by omega) (by omega) (by omega)
      have HO2 := Lib.hid ((H.oct.off 1).off 2)
      have HO3 := Lib.hid (((H.oct.off 1).off 2).off s)
      have HO4 := Lib.hid ((((H.oct.off 1).off 2).off s).off m)
      have hl4 : (off (off (off (off r 1) 2) s) m).length ≤ 100000 := by have := off_len (off (off (off r 1) 2) s) m; omega
      have hl5 : (off (off r 1) 2).length ≤ 100000 := by omega
      have hl6 : (off (off (off r 1) 2) s).length ≤ 100000 := by omega
      clear hs hs' hm hm' hl1 hl2 hl3 hrl
      generalize off (off (off (off r 1) 2) s) m = r4 at *
      generalize off (off (off r 1) 2) s = r3 at *
      generalize off (off r 1) 2 = r2 at *
      generalize off r 1 = r1 at *
      have HH := Lib.hid H
      clear H
      go_wp2_with fail
      refine HC1.out.mono ?_
      rintro e w3 ⟨rfl, hR3', hc3⟩
      have hN3' := hN.rest HH.out.rest hc3 (by omega)
      have q0 : w3.cell? ⟨w2.heap.size, 0, none⟩ = some (.bool true) := hN3'.blk.cell 0
      go_wp2_with fail
      refine (HC2.out w3 hR3').mono ?_
      rintro e w4 ⟨rfl, hR4, hc4⟩
      have hN4 := hN3'.rest hR3' hc4 (by omega)
      go_wp2_with fail
      refine (HC3.out w4 hR4).mono ?_
      rintro e w5 ⟨v5, rfl, hown5, hR5, hc5⟩
      have hN5 := hN4.rest hR4 hc5 (by omega)
      go_wp2_with fail
      refine (HC4.out w5 hR5).mono ?_
      rintro e w6 ⟨v6, rfl, hown6, hR6, hc6⟩
      have hN6 := hN5.rest hR5 hc6 (by omega)
      have hCH : Chg wr w6 (RS (w.heap.size + 1) w2.heap.size) := ((hc3.one.rs hc4.one).rs hc5.one).rs hc6.one
      have hbk56 := hR5.bk hc6
      have hBF : Below w.heap.size w w6 := hB.trans (hCH.below hB.size fun i hi => by rcases hi with e | e | e <;> omega)
      have hZ6 : Blk w6 w.heap.size 25 zeroNode := (hCH.block _ hZ.lt (fun e => by rcases e with e | e | e <;> omega)).trans hZ
      have hs6 := hN6.size
      clear hc3 hc4 hc5 hc6 hR3' hR4 hR5 hN3' hN4 hN5 HC1 HC2 HC3 HC4 p0 q0 hN
      have z0 := hZ6.free 0
      have z1 := hZ6.free 1
      have z2 := hZ6.free 2
      have z3 := hZ6.free 3
      obtain ⟨k0, k1, k2, k3⟩ : w6.cell? ⟨w.heap.size, 0, none⟩ = some (.bool false) ∧ w6.cell? ⟨w.heap.size, 1, none⟩ = some (.slice none 0 0) ∧ w6.cell? ⟨w.heap.size, 2, none⟩ = some (.slice none 0 0) ∧ w6.cell? ⟨w.heap.size, 3, none⟩ = some (.slice none 0 0) := ⟨hZ6.cell 0, hZ6.cell 1, hZ6.cell 2, hZ6.cell 3⟩
      by_cases hA : s ≤ r2.length
      · by_cases hD : m ≤ r3.length
        · rw [if_pos hA] at hown5
          rw [if_pos hD] at hown6
          rw [decide_eq_true hA, decide_eq_true hD]
          have HX' : Hid (parseN true (C - (k + 1)) r4 (ks ++ [r2.take s]) (vs ++ [r3.take m]) is = X) := Lib.hid (by rw [HX.out, if_neg (by omega)])
          have HLS : Hid ((r2.take s).length ≤ 100000 ∧ (r3.take m).length ≤ 100000 ∧ Oct (r2.take s) ∧ Oct (r3.take m)) := Lib.hid ⟨by simp; omega, by simp; omega, HO2.out.take s, HO3.out.take m⟩
          clear HX hA hD hZ hB hZ6 z0 z1 z2 z3 k0 k1 k2 k3
          generalize r2.take s = x at *
          generalize r3.take m = y at *
          obtain ⟨A5, c5, rfl, _⟩ := hown5.parts
          obtain ⟨A6, c6, rfl, _⟩ := hown6.parts
          have hv5 := (hown5.rowV HLS.out.2.2.1).keep hbk56
          have hv6 := hown6.rowV HLS.out.2.2.2
          clear hown5 hown6
          obtain ⟨kv, hkr, hkv⟩ := hN6.keyRow
          have hlk := HH.out.lk
          have hlv := HH.out.lv
          have hkb : ks.length ≤ 65535 := by omega
          have hvb : vs.length ≤ 65535 := by omega
          clear hlk
          obtain ⟨p0, p1, p2, p3⟩ : w6.cell? ⟨w2.heap.size, 0, none⟩ = some (.bool true) ∧ w6.cell? ⟨w2.heap.size, 1, none⟩ = some vk ∧ w6.cell? ⟨w2.heap.size, 2, none⟩ = some vv ∧ w6.cell? ⟨w2.heap.size, 3, none⟩ = some vi := ⟨hN6.blk.cell 0, hN6.blk.cell 1, hN6.blk.cell 2, hN6.blk.cell 3⟩
          go_wp2_with (first | (at_builtin; refine appG_anyS Try.underlying22 info_rows rfl (by decide) rfl (.tmp 56) (.tmp 58) rfl (w2.heap.size + 1) vk ks.length kv rfl (World.ownsRow.alloc hkr _) _ _ 1 1 [.slice A5 x.length c5] rfl (cells_blk w6 _ _) (by simp) (by intro u hu; simp at hu; subst hu; rfl) (by unfold maxLen; omega) (by omega) (by simp; omega) ?_; intro A7 c7 w7 hr7 hg7; have hb7 := blk_row (hN6.alloc _).blk (World.ownsRow.alloc hkr _) hg7 (Nat.lt_succ_self _); have f1 := hb7.free 1; obtain ⟨q0, q1, q2⟩ : w7.cell? ⟨w2.heap.size, 0, none⟩ = some (.bool true) ∧ w7.cell? ⟨w2.heap.size, 1, none⟩ = some vk ∧ w7.cell? ⟨w2.heap.size, 2, none⟩ = some vv := ⟨hb7.cell 0, hb7.cell 1, hb7.cell 2⟩; have hN7 := (hN6.alloc (.cells #[.slice A5 x.length c5] 26)).key (World.ownsRow.alloc hkr _) (hkv.keep (BK.of_below ((Below.refl _ _).alloc (Nat.le_refl _) _))) (hv5.keep (BK.of_below ((Below.refl _ _).alloc (Nat.le_refl _) _))) hr7 hg7; have hk7 := bk_row (i := 1) (hN6.alloc (.cells #[.slice A5 x.length c5] 26)).blk (by decide) (World.ownsRow.alloc hkr _) (by decide) hg7 (Nat.lt_succ_self _) (.slice A7 (ks.length + 1) c7); have hc7 := chg_row (i := 1) (hN6.alloc (.cells #[.slice A5 x.length c5] 26)).blk (World.ownsRow.alloc hkr _) hg7 (Nat.lt_succ_self _) (.slice A7 (ks.length + 1) c7); obtain ⟨kw, hkrw, hkvw⟩ := hN7.valRow; have hs7 := hN7.size) | (at_builtin; refine probe ?_))
          refine Lib.hid ?_
          refine appG_anyS Try.underlying22 info_rows rfl (by decide) rfl (.tmp 64) (.tmp 66) rfl (w2.heap.size + 1) vv vs.length kw rfl (World.ownsRow.alloc hkrw _) _ _ 1 1 [.slice A6 y.length c6] rfl (cells_set _ _ _ _ _) (by simp) (by intro u hu; simp at hu; subst hu; rfl) (by unfold maxLen; omega) (by omega) (Nat.le_trans hs7 ((Below.refl _ _).alloc (Nat.le_refl _) _).size) ?_
          intro A8 c8 w8 hr8 hg8
          have hb8 := blk_row (hN7.alloc _).blk (World.ownsRow.alloc hkrw _) hg8 (Nat.lt_succ_self _)
          have f2 := hb8.free 2
          have g2 : w8.cell? ⟨w2.heap.size, 2, none⟩ = some vv := hb8.cell 2
          go_wp2
          go_roundw
          case rel =>
            have hN8 := (hN7.alloc (.cells #[.slice A6 y.length c6] 26)).val (World.ownsRow.alloc hkrw _) (hkvw.keep (BK.of_below ((Below.refl _ _).alloc (Nat.le_refl _) _))) ((hv6.keep ((BK.of_below ((Below.refl _ _).alloc (Nat.le_refl _) _)).trans hk7)).keep (BK.of_below ((Below.refl _ _).alloc (Nat.le_refl _) _))) hr8 hg8
            have hc8 := chg_row (i := 2) (hN7.alloc (.cells #[.slice A6 y.length c6] 26)).blk (World.ownsRow.alloc hkrw _) hg8 (Nat.lt_succ_self _) (.slice A8 (vs.length + 1) c8)
            have hCN := (((Chg.alloc w6 (.cells #[.slice A5 x.length c5] 26) _).trans hc7 fun i hi => .inl hi).trans (Chg.alloc _ (.cells #[.slice A6 y.length c6] 26) _) fun i hi => .inl hi).trans hc8 fun i hi => .inl hi
            exact ⟨k + 1, r4, _, _, vi, _, _, is, by go_num, by omega, HH.out.next_leaf hCH hR6 HO4.out hl4 HX'.out HLS.out.1 HLS.out.2.1 hN8 hCN (by omega) (by omega)⟩
          case measure => simp [intOf]; omega
        · have HNP := Lib.hid (no_page (by rw [HN.out, HX.out, if_pos (.inr (by omega))]; rfl : parseP l = none))
          rw [decide_eq_true hA, decide_eq_false hD]
          obtain ⟨W9, hW9⟩ : ∃ W9, W9 = (((w6.setCell ⟨w.heap.size, 0, none⟩ (.bool false)).setCell ⟨w.heap.size, 1, none⟩ (.slice none 0 0)).setCell ⟨w.heap.size, 2, none⟩ (.slice none 0 0)).setCell ⟨w.heap.size, 3, none⟩ (.slice none 0 0) := ⟨_, rfl⟩
          have hFin : Below w.heap.size w W9 := by rw [hW9]; exact hBF.trans ((chg_four w6 w.heap.size (.bool false) (.slice none 0 0) (.slice none 0 0) (.slice none 0 0)).below hBF.size fun i hi => by omega)
          have hZF : Blk W9 w.heap.size 25 zeroNode := by rw [hW9]; exact hZ6.four (.bool false) (.slice none 0 0) (.slice none 0 0) (.slice none 0 0)
          obtain ⟨j0, j1, j2, j3⟩ : W9.cell? ⟨w.heap.size, 0, none⟩ = some (.bool false) ∧ W9.cell? ⟨w.heap.size, 1, none⟩ = some (.slice none 0 0) ∧ W9.cell? ⟨w.heap.size, 2, none⟩ = some (.slice none 0 0) ∧ W9.cell? ⟨w.heap.size, 3, none⟩ = some (.slice none 0 0) := ⟨hZF.cell 0, hZF.cell 1, hZF.cell 2, hZF.cell 3⟩
          have HW9 := Lib.hid hW9
          clear hW9 hA hD hown5 hown6 HX
          go_wp2
          rw [← HW9.out]
          exact bodyPost_ret (v := .tuple #[.agg #[.bool false, .slice none 0 0, .slice none 0 0, .slice none 0 0], .int .i64 11]) (by simp [results, Try.results15, go_sem, j0, j1, j2, j3]) rfl ⟨.inr ⟨HNP.out, rfl⟩, hFin⟩
      · have HNP := Lib.hid (no_page (by rw [HN.out, HX.out, if_pos (.inl (by omega))]; rfl : parseP l = none))
        rw [decide_eq_false hA]
        generalize decide (m ≤ r3.length) = ok at *
        obtain ⟨W9, hW9⟩ : ∃ W9, W9 = (((w6.setCell ⟨w.heap.size, 0, none⟩ (.bool false)).setCell ⟨w.heap.size, 1, none⟩ (.slice none 0 0)).setCell ⟨w.heap.size, 2, none⟩ (.slice none 0 0)).setCell ⟨w.heap.size, 3, none⟩ (.slice none 0 0) := ⟨_, rfl⟩
        have hFin : Below w.heap.size w W9 := by rw [hW9]; exact hBF.trans ((chg_four w6 w.heap.size (.bool false) (.slice none 0 0) (.slice none 0 0) (.slice none 0 0)).below hBF.size fun i hi => by omega)
        have hZF : Blk W9 w.heap.size 25 zeroNode := by rw [hW9]; exact hZ6.four (.bool false) (.slice none 0 0) (.slice none 0 0) (.slice none 0 0)
        obtain ⟨j0, j1, j2, j3⟩ : W9.cell? ⟨w.heap.size, 0, none⟩ = some (.bool false) ∧ W9.cell? ⟨w.heap.size, 1, none⟩ = some (.slice none 0 0) ∧ W9.cell? ⟨w.heap.size, 2, none⟩ = some (.slice none 0 0) ∧ W9.cell? ⟨w.heap.size, 3, none⟩ = some (.slice none 0 0) := ⟨hZF.cell 0, hZF.cell 1, hZF.cell 2, hZF.cell 3⟩
        have HW9 := Lib.hid hW9
        clear hW9 hA hown5 hown6 HX
        go_wp2
        rw [← HW9.out]
        exact bodyPost_ret (v := .tuple #[.agg #[.bool false, .slice none 0 0, .slice none 0 0, .slice none 0 0], .int .i64 11]) (by simp [results, Try.results15, go_sem, j0, j1, j2, j3]) rfl ⟨.inr ⟨HNP.out, rfl⟩, hFin⟩
    · have HP : Hid (parseP l = some (true, ks, vs, is)) := Lib.hid (by
        have h := H.parse
        rw [show C - k = 0 by omega, parseN] at h
        rw [HN.out, ← h]; rfl)
      have hlk := H.lk
      have hlv := H.lv
      have hli := H.li
      have hkb : ks.length ≤ 65535 := by omega
      have hvb : vs.length ≤ 65535 := by omega
      have hib : is.length ≤ 65536 := by omega
      have hkl := H.kl
      have hvl := H.vl
      have hkI : ¬ (k : Int) < (C : Int) := by omega
      clear H hlk hlv hli hlt hk
      obtain ⟨Ak, ck, Av, cv, Ai, ci, rfl, rfl, rfl, hAt⟩ := hN.node
      have HWR := Lib.hid (write_any true Ak ks ck Av vs cv Ai is ci wr hAt hkl hvl (by omega) (by omega) (by omega))
      obtain ⟨p0, p1, p2, p3⟩ : wr.cell? ⟨w2.heap.size, 0, none⟩ = some (.bool true) ∧ wr.cell? ⟨w2.heap.size, 1, none⟩ = some (.slice Ak ks.length ck) ∧ wr.cell? ⟨w2.heap.size, 2, none⟩ = some (.slice Av vs.length cv) ∧ wr.cell? ⟨w2.heap.size, 3, none⟩ = some (.slice Ai is.length ci) := ⟨hN.blk.cell 0, hN.blk.cell 1, hN.blk.cell 2, hN.blk.cell 3⟩
      have HOC := Lib.hid fun hf => page_oct (lf := true) (ks := ks) (vs := vs) (is := is) hf (oct_rows hAt.keys) (oct_rows hAt.vals)
      have hpl := Lib.hid fun hf => (IsPage.len ⟨hf, rfl⟩ : (pageL true ks vs is).length = 1024)
      clear hkl hvl hAt
      cases hf : frmB true ks vs is with
      | false =>
        rw [hf] at HWR
        have HNP := Lib.hid (no_page_some HP.out (fun h => by rw [hf] at h; cases h.1))
        clear hf
        go_wp2_with fail
        refine HWR.out.mono ?_
        rintro e w6 ⟨⟨v6, rfl, hown6⟩, hb6⟩
        have hBF : Below w.heap.size w w6 := hB.trans (hb6.mono hB.size)
        have hZ6 : Blk w6 w.heap.size 25 zeroNode := hZ.below hb6 hZ.lt
        have z0 := hZ6.free 0
        have z1 := hZ6.free 1
        have z2 := hZ6.free 2
        have z3 := hZ6.free 3
        obtain ⟨k0, k1, k2, k3⟩ : w6.cell? ⟨w.heap.size, 0, none⟩ = some (.bool false) ∧ w6.cell? ⟨w.heap.size, 1, none⟩ = some (.slice none 0 0) ∧ w6.cell? ⟨w.heap.size, 2, none⟩ = some (.slice none 0 0) ∧ w6.cell? ⟨w.heap.size, 3, none⟩ = some (.slice none 0 0) := ⟨hZ6.cell 0, hZ6.cell 1, hZ6.cell 2, hZ6.cell 3⟩
        obtain ⟨W9, hW9⟩ : ∃ W9, W9 = (((w6.setCell ⟨w.heap.size, 0, none⟩ (.bool false)).setCell ⟨w.heap.size, 1, none⟩ (.slice none 0 0)).setCell ⟨w.heap.size, 2, none⟩ (.slice none 0 0)).setCell ⟨w.heap.size, 3, none⟩ (.slice none 0 0) := ⟨_, rfl⟩
        have hFin : Below w.heap.size w W9 := by rw [hW9]; exact hBF.trans ((chg_four w6 w.heap.size (.bool false) (.slice none 0 0) (.slice none 0 0) (.slice none 0 0)).below hBF.size fun i hi => by omega)
        have hZF : Blk W9 w.heap.size 25 zeroNode := by rw [hW9]; exact hZ6.four (.bool false) (.slice none 0 0) (.slice none 0 0) (.slice none 0 0)
        obtain ⟨j0, j1, j2, j3⟩ : W9.cell? ⟨w.heap.size, 0, none⟩ = some (.bool false) ∧ W9.cell? ⟨w.heap.size, 1, none⟩ = some (.slice none 0 0) ∧ W9.cell? ⟨w.heap.size, 2, none⟩ = some (.slice none 0 0) ∧ W9.cell? ⟨w.heap.size, 3, none⟩ = some (.slice none 0 0) := ⟨hZF.cell 0, hZF.cell 1, hZF.cell 2, hZF.cell 3⟩
        have HW9 := Lib.hid hW9
        clear hW9 hown6 p0 p1 p2 p3
        go_wp2
        rw [← HW9.out]
        exact bodyPost_ret (v := .tuple #[.agg #[.bool false, .slice none 0 0, .slice none 0 0, .slice none 0 0], .int .i64 11]) (by simp [results, Try.results15, go_sem, j0, j1, j2, j3]) rfl ⟨.inr ⟨HNP.out, rfl⟩, hFin⟩
      | true =>
        rw [hf] at HWR
        have hpo := HOC.out hf
        have hpn := hpl.out hf
        have HIS : Hid (l = pageL true ks vs is → IsPage l true ks vs is) := Lib.hid fun e => ⟨hf, e.symm⟩
        have HNO : Hid (¬ l = pageL true ks vs is → ∀ (lf : Bool) (ks vs : List (List Int)) (is : List Int), ¬ IsPage l lf ks vs is) := Lib.hid fun hne => no_page_some HP.out (fun h => hne h.2)
        clear hf HOC hpl
        generalize pageL true ks vs is = PG at *
        go_wp2_with fail
        refine HWR.out.mono ?_
        rintro e w6 ⟨⟨v6, rfl, hown6⟩, hb6⟩
        rw [if_pos rfl] at hown6 ⊢
        obtain ⟨A6, c6, rfl, h61, h62, hcl6⟩ := hown6.parts
        have hBF : Below w.heap.size w w6 := hB.trans (hb6.mono hB.size)
        have hZ6 : Blk w6 w.heap.size 25 zeroNode := hZ.below hb6 hZ.lt
        have HEQ := Lib.hid (bytes_equal A A6 l PG c c6 w6 (ha.below hBF).whole hcl6 ho hpo)
        have z0 := hZ6.free 0
        have z1 := hZ6.free 1
        have z2 := hZ6.free 2
        have z3 := hZ6.free 3
        obtain ⟨k0, k1, k2, k3⟩ : w6.cell? ⟨w.heap.size, 0, none⟩ = some (.bool false) ∧ w6.cell? ⟨w.heap.size, 1, none⟩ = some (.slice none 0 0) ∧ w6.cell? ⟨w.heap.size, 2, none⟩ = some (.slice none 0 0) ∧ w6.cell? ⟨w.heap.size, 3, none⟩ = some (.slice none 0 0) := ⟨hZ6.cell 0, hZ6.cell 1, hZ6.cell 2, hZ6.cell 3⟩
        have hN6 := hN.below hb6
        clear hown6 hpo hpn
        by_cases he : l = PG
        · rw [show sameB l PG = true from decide_eq_true he] at HEQ
          have HIP := Lib.hid (HIS.out he)
          clear he p0 p1 p2 p3
          obtain ⟨p0, p1, p2, p3⟩ : w6.cell? ⟨w2.heap.size, 0, none⟩ = some (.bool true) ∧ w6.cell? ⟨w2.heap.size, 1, none⟩ = some (.slice Ak ks.length ck) ∧ w6.cell? ⟨w2.heap.size, 2, none⟩ = some (.slice Av vs.length cv) ∧ w6.cell? ⟨w2.heap.size, 3, none⟩ = some (.slice Ai is.length ci) := ⟨hN6.blk.cell 0, hN6.blk.cell 1, hN6.blk.cell 2, hN6.blk.cell 3⟩
          obtain ⟨W9, hW9⟩ : ∃ W9, W9 = (((w6.setCell ⟨w.heap.size, 0, none⟩ (.bool true)).setCell ⟨w.heap.size, 1, none⟩ (.slice Ak ks.length ck)).setCell ⟨w.heap.size, 2, none⟩ (.slice Av vs.length cv)).setCell ⟨w.heap.size, 3, none⟩ (.slice Ai is.length ci) := ⟨_, rfl⟩
          have hCF : Chg w6 W9 (fun k => k = w.heap.size) := by rw [hW9]; exact chg_four w6 w.heap.size _ _ _ _
          have hFin : Below w.heap.size w W9 := hBF.trans (hCF.below hBF.size fun i hi => by omega)
          have hZF : Blk W9 w.heap.size 25 #[.bool true, .slice Ak ks.length ck, .slice Av vs.length cv, .slice Ai is.length ci] := by rw [hW9]; exact hZ6.four _ _ _ _
          have HAt := Lib.hid (hN6.chg hCF hZ6 (by decide) (by omega) (by omega)).at_.2.2.2
          obtain ⟨j0, j1, j2, j3⟩ : W9.cell? ⟨w.heap.size, 0, none⟩ = some (.bool true) ∧ W9.cell? ⟨w.heap.size, 1, none⟩ = some (.slice Ak ks.length ck) ∧ W9.cell? ⟨w.heap.size, 2, none⟩ = some (.slice Av vs.length cv) ∧ W9.cell? ⟨w.heap.size, 3, none⟩ = some (.slice Ai is.length ci) := ⟨hZF.cell 0, hZF.cell 1, hZF.cell 2, hZF.cell 3⟩
          have HW9 := Lib.hid hW9
          clear hW9 hCF hZF
          go_wp2_with (first | (go_at_call 21; refine HEQ.out.mono ?_; rintro e w7 ⟨rfl, rfl⟩))
          rw [← HW9.out]
          exact bodyPost_ret (v := .tuple #[nodeV true Ak ks ck Av vs cv Ai is ci, .int .i64 0]) (by simp [results, Try.results15, go_sem, j0, j1, j2, j3]) rfl ⟨.inl ⟨true, Ak, ks, ck, Av, vs, cv, Ai, is, ci, HIP.out, rfl, HAt.out⟩, hFin⟩
        · rw [show sameB l PG = false from decide_eq_false he] at HEQ
          have HNP := Lib.hid (HNO.out he)
          clear he p0 p1 p2 p3
          obtain ⟨W9, hW9⟩ : ∃ W9, W9 = (((w6.setCell ⟨w.heap.size, 0, none⟩ (.bool false)).setCell ⟨w.heap.size, 1, none⟩ (.slice none 0 0)).setCell ⟨w.heap.size, 2, none⟩ (.slice none 0 0)).setCell ⟨w.heap.size, 3, none⟩ (.slice none 0 0) := ⟨_, rfl⟩
          have hFin : Below w.heap.size w W9 := by rw [hW9]; exact hBF.trans ((chg_four w6 w.heap.size (.bool false) (.slice none 0 0) (.slice none 0 0) (.slice none 0 0)).below hBF.size fun i hi => by omega)
          have hZF : Blk W9 w.heap.size 25 zeroNode := by rw [hW9]; exact hZ6.four (.bool false) (.slice none 0 0) (.slice none 0 0) (.slice none 0 0)
          obtain ⟨j0, j1, j2, j3⟩ : W9.cell? ⟨w.heap.size, 0, none⟩ = some (.bool false) ∧ W9.cell? ⟨w.heap.size, 1, none⟩ = some (.slice none 0 0) ∧ W9.cell? ⟨w.heap.size, 2, none⟩ = some (.slice none 0 0) ∧ W9.cell? ⟨w.heap.size, 3, none⟩ = some (.slice none 0 0) := ⟨hZF.cell 0, hZF.cell 1, hZF.cell 2, hZF.cell 3⟩
          have HW9 := Lib.hid hW9
          clear hW9 
          go_wp2_with (first | (go_at_call 21; refine HEQ.out.mono ?_; rintro e w7 ⟨rfl, rfl⟩))
          rw [← HW9.out]
          exact bodyPost_ret (v := .tuple #[.agg #[.bool false, .slice none 0 0, .slice none 0 0, .slice none 0 0], .int .i64 11]) (by simp [results, Try.results15, go_sem, j0, j1, j2, j3]) rfl ⟨.inr ⟨HNP.out, rfl⟩, hFin⟩
end Go.Proofs.Ytbngcinhjoigaaa
