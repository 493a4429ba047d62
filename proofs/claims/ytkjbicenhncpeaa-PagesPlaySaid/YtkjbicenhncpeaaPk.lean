/-
  Pages in memory: what each change of a part makes of them; pages and their disk together.
-/
import Derived.Test.YtkjbicenhncpeaaPj
set_option linter.unusedVariables false
namespace Go.Proofs.Ytkjbicenhncpeaa
open Go.RowKit

theorem bk_of_chg {w w' : World} {S : Nat → Prop} (hc : Chg w w' S) (hS : ∀ k cur mk, S k → w.heap[k]? ≠ some (Obj.cells cur 5 mk)) : BK w w' := fun k cur mk hk =>
  hc.block k (heap_lt hk) fun hs => hS k cur mk hs hk
theorem ne_types {w : World} {a b : Nat} {ca cb : Array Value} {ta tb : TypeId} {ma mb : Nat × Nat} (ha : w.heap[a]? = some (.cells ca ta ma)) (hb : w.heap[b]? = some (.cells cb tb mb)) (ht : ta ≠ tb) : a ≠ b := by
  rintro rfl
  rw [ha] at hb
  injection hb with hb
  injection hb with _ e
  exact ht e
section
variable {w w' w1 : World} {g gd : Nat} {s : PG} {p : PP}
/-- Two frames in one block have one number. -/
theorem PagesOf.one (h : PagesOf w g gd s p) {j k : Int} (hj : s.fr j ≠ none) (hk : s.fr k ≠ none) (e : p.fb j = p.fb k) : j = k := by
  rcases ej : s.fr j with _ | ⟨lj, dj⟩
  · exact absurd ej hj
  rcases ek : s.fr k with _ | ⟨lk, dk⟩
  · exact absurd ek hk
  have h1 := (h.some_ j lj dj ej).2.blk
  have h2 := (h.some_ k lk dk ek).2.blk
  rw [e] at h1
  unfold Blk at h1 h2
  rw [h1] at h2
  injection h2 with h2
  injection h2 with h2
  have := congrArg (fun a => a[0]?) h2
  simp at this
  exact this
/-- A map's block is no block of cells. -/
theorem PagesOf.notMap (h : PagesOf w g gd s p) {k : Nat} {cur : Array Value} {t : TypeId} {mk : Nat × Nat} (hk : w.heap[k]? = some (.cells cur t mk)) : some k ≠ some p.gm := by
  intro e
  injection e with e
  subst e
  exact h.map.notCells hk
/-- The map was written. -/
theorem PagesOf.remap (h : PagesOf w g gd s p) (hg : w.grownBy w' (some p.gm)) {k : Nat} {cur : Array Value} {t : TypeId} {mk : Nat × Nat} (hk : w.heap[k]? = some (.cells cur t mk)) : w'.heap[k]? = w.heap[k]? :=
  hg.block k (heap_lt hk) (h.notMap hk)
theorem PagesOf.remapBK (h : PagesOf w g gd s p) (hg : w.grownBy w' (some p.gm)) : BK w w' := fun k cur mk hk => h.remap hg hk
theorem PagesOf.remapUsed (h : PagesOf w g gd s p) (hg : w.grownBy w' (some p.gm)) : Nums w' 0 p.vu s.used := by
  refine ⟨h.used.1, ?_⟩
  rcases h.used.2 with h1 | ⟨b, cap, cur, e, hb, hh, rest⟩
  · exact .inl h1
  · exact .inr ⟨b, cap, cur, e, hb, (h.remap hg hh).trans hh, rest⟩
theorem FrameAt.keep {f : Nat} {n : Int} {v : Value} {l : List Int} {d : Bool} (h : FrameAt w f n v l d) (hb : w'.heap[f]? = w.heap[f]?) (hk : BK w w') (hs : w.heap.size ≤ w'.heap.size) : FrameAt w' f n v l d :=
  ⟨hb.trans h.blk, h.row.keep hk hs⟩
theorem PagesOf.delKey (h : PagesOf w g gd s p) (n : Int) (hm : MapIs w' p.gm (delM p.fm n)) (hg : w.grownBy w' (some p.gm)) :
    PagesOf w' g gd { s with fr := fun k => if k = n then none else s.fr k } { p with fm := delM p.fm n } where
  blk := (h.remap hg h.blk).trans h.blk
  row := (h.remap hg h.row).trans h.row
  map := hm
  used := h.remapUsed hg
  none_ := fun k hk => by
    show delM p.fm n k = none
    unfold delM
    by_cases e : k = n
    · rw [if_pos e]
    · rw [if_neg e]; simp only [if_neg e] at hk; exact h.none_ k hk
  some_ := fun k l d hk => by
    have e : k ≠ n := fun e => by simp only [if_pos e] at hk; cases hk
    simp only [if_neg e] at hk
    obtain ⟨h1, h2⟩ := h.some_ k l d hk
    refine ⟨?_, h2.keep (h.remap hg h2.blk) (h.remapBK hg) hg.size⟩
    show delM p.fm n k = _
    unfold delM
    rw [if_neg e]; exact h1
theorem PagesOf.addKey (h : PagesOf w g gd s p) (n : Int) (f : Nat) (v : Value) (l : List Int) (d : Bool) (hf : FrameAt w f n v l d) (hm : MapIs w' p.gm (updM p.fm n (.pointer (some ⟨f, 0, none⟩)))) (hg : w.grownBy w' (some p.gm)) :
    PagesOf w' g gd { s with fr := fun k => if k = n then some (l, d) else s.fr k } { p with fm := updM p.fm n (.pointer (some ⟨f, 0, none⟩)), fb := fun k => if k = n then f else p.fb k, fv := fun k => if k = n then v else p.fv k } where
  blk := (h.remap hg h.blk).trans h.blk
  row := (h.remap hg h.row).trans h.row
  map := hm
  used := h.remapUsed hg
  none_ := fun k hk => by
    by_cases e : k = n
    · simp only [if_pos e] at hk; cases hk
    · simp only [if_neg e] at hk
      show updM p.fm n _ k = none
      unfold updM
      rw [if_neg e]; exact h.none_ k hk
  some_ := fun k l' d' hk => by
    show updM p.fm n _ k = some (.pointer (some ⟨if k = n then f else p.fb k, 0, none⟩)) ∧ FrameAt w' (if k = n then f else p.fb k) k (if k = n then v else p.fv k) l' d'
    unfold updM
    by_cases e : k = n
    · simp only [if_pos e] at hk ⊢
      injection hk with hk
      injection hk with e1 e2
      subst e1 e2 e
      exact ⟨trivial, hf.keep (h.remap hg hf.blk) (h.remapBK hg) hg.size⟩
    · simp only [if_neg e] at hk ⊢
      obtain ⟨h1, h2⟩ := h.some_ k l' d' hk
      exact ⟨h1, h2.keep (h.remap hg h2.blk) (h.remapBK hg) hg.size⟩
theorem Blk.setOther {x : Nat} {t : TypeId} {cs : Array Value} (h : Blk w x t cs) {a : Addr} (hne : x ≠ a.block) (u : Value) : Blk (w.setCell a u) x t cs := h.far hne u
theorem PagesOf.setUsed (h : PagesOf w g gd s p) (v' : Value) (l' : List Int) (hn : Nums w1 0 v' l') (hg : Grew w p.vu w1 v') :
    PagesOf (w1.setCell ⟨g, 5, none⟩ v') g gd { s with used := l' } { p with vu := v' } := by
  have hk1 : ∀ {k : Nat} {cur : Array Value} {t : TypeId} {mk : Nat × Nat}, w.heap[k]? = some (.cells cur t mk) → t ≠ 3 → w1.heap[k]? = w.heap[k]? := fun {k cur t mk} hk ht => hg.by_.block k (heap_lt hk) fun e => by
    obtain ⟨cur', hb⟩ := row_block h.used e.symm
    exact ne_types hk hb ht rfl
  have hb1 : Blk w1 g 69 (pcells gd s p false) := (hk1 h.blk (by decide)).trans h.blk
  have hk2 : ∀ {k : Nat} {cur : Array Value} {t : TypeId} {mk : Nat × Nat}, w.heap[k]? = some (.cells cur t mk) → t ≠ 3 → t ≠ 69 → (w1.setCell ⟨g, 5, none⟩ v').heap[k]? = w.heap[k]? := fun {k cur t mk} hk ht ht2 => by
    rw [Below.heap_setCell w1 ⟨g, 5, none⟩ v' k (ne_types hk h.blk ht2)]
    exact hk1 hk ht
  have hbk : BK w (w1.setCell ⟨g, 5, none⟩ v') := fun k cur mk hk => hk2 hk (by decide) (by decide)
  have hsz : w.heap.size ≤ (w1.setCell ⟨g, 5, none⟩ v').heap.size := by rw [show (w1.setCell ⟨g, 5, none⟩ v').heap.size = w1.heap.size by simp [World.setCell]]; exact hg.by_.size
  refine ⟨hb1.set_ 5 v', (hk2 h.row (by decide) (by decide)).trans h.row, ?_, ?_, h.none_, fun k l d hk => ?_⟩
  · refine h.map.block ?_
    have hne : p.gm ≠ g := fun e => h.map.notCells (by rw [e]; exact h.blk)
    rw [Below.heap_setCell w1 ⟨g, 5, none⟩ v' p.gm hne]
    refine hg.by_.block p.gm h.map.lt fun e => ?_
    obtain ⟨cur', hb⟩ := row_block h.used e.symm
    exact h.map.notCells hb
  · refine World.ownsRow.kept (row := some g) hn ⟨rfl, rfl, rfl, by simp [World.setCell], fun k _ hk => Below.heap_setCell w1 ⟨g, 5, none⟩ v' k (fun e => hk (by rw [e]))⟩ (.inr fun e => ?_)
    obtain ⟨cur', hb⟩ := row_block hn e
    exact ne_types hb hb1 (by decide) rfl
  · obtain ⟨h1, h2⟩ := h.some_ k l d hk
    exact ⟨h1, h2.keep (hk2 h2.blk (by decide) (by decide)) hbk hsz⟩
theorem PagesOf.setDirty (h : PagesOf w g gd s p) {n : Int} {l : List Int} {d : Bool} (hs : s.fr n = some (l, d)) (d' : Bool) :
    PagesOf (w.setCell ⟨p.fb n, 2, none⟩ (.bool d')) g gd { s with fr := fun k => if k = n then some (l, d') else s.fr k } p := by
  obtain ⟨f1, f2⟩ := h.some_ n l d hs
  have hk2 : ∀ {k : Nat} {cur : Array Value} {t : TypeId} {mk : Nat × Nat}, w.heap[k]? = some (.cells cur t mk) → t ≠ 75 → (w.setCell ⟨p.fb n, 2, none⟩ (.bool d')).heap[k]? = w.heap[k]? := fun {k cur t mk} hk ht =>
    Below.heap_setCell w ⟨p.fb n, 2, none⟩ (.bool d') k (ne_types hk f2.blk ht)
  have hbk : BK w (w.setCell ⟨p.fb n, 2, none⟩ (.bool d')) := fun k cur mk hk => hk2 hk (by decide)
  have hsz : w.heap.size ≤ (w.setCell ⟨p.fb n, 2, none⟩ (.bool d')).heap.size := by simp [World.setCell]
  refine ⟨(hk2 h.blk (by decide)).trans h.blk, (hk2 h.row (by decide)).trans h.row, ?_, ?_, fun k hk => ?_, fun k l' d2 hk => ?_⟩
  · exact h.map.block (Below.heap_setCell w ⟨p.fb n, 2, none⟩ (.bool d') p.gm (fun e => h.map.notCells (by rw [e]; exact f2.blk)))
  · refine World.ownsRow.kept (row := some (p.fb n)) h.used ⟨rfl, rfl, rfl, by simp [World.setCell], fun k _ hk => Below.heap_setCell w ⟨p.fb n, 2, none⟩ (.bool d') k (fun e => hk (by rw [e]))⟩ (.inr fun e => ?_)
    obtain ⟨cur', hb⟩ := row_block h.used e
    exact ne_types hb f2.blk (by decide) rfl
  · by_cases e : k = n
    · simp only [if_pos e] at hk; cases hk
    · simp only [if_neg e] at hk; exact h.none_ k hk
  · by_cases e : k = n
    · subst e
      simp only [if_pos] at hk
      injection hk with hk
      injection hk with e1 e2
      subst e1 e2
      exact ⟨f1, f2.blk.set_ 2 (.bool d'), f2.row.keep hbk hsz⟩
    · simp only [if_neg e] at hk
      obtain ⟨h1, h2⟩ := h.some_ k l' d2 hk
      refine ⟨h1, h2.keep (Below.heap_setCell w ⟨p.fb n, 2, none⟩ (.bool d') (p.fb k) (fun x => e (h.one (by rw [hk]; simp) (by rw [hs]; simp) x))) hbk hsz⟩
theorem PagesOf.setIs (h : PagesOf w g gd s p) (i : Nat) (x : Int) :
    PagesOf (w.setCell ⟨p.gi, i, none⟩ (.int .i64 x)) g gd { s with is := s.is.set i x } p := by
  have hk2 : ∀ {k : Nat} {cur : Array Value} {t : TypeId} {mk : Nat × Nat}, w.heap[k]? = some (.cells cur t mk) → t ≠ 70 → (w.setCell ⟨p.gi, i, none⟩ (.int .i64 x)).heap[k]? = w.heap[k]? := fun {k cur t mk} hk ht =>
    Below.heap_setCell w ⟨p.gi, i, none⟩ (.int .i64 x) k (ne_types hk h.row ht)
  have hbk : BK w (w.setCell ⟨p.gi, i, none⟩ (.int .i64 x)) := fun k cur mk hk => hk2 hk (by decide)
  have hsz : w.heap.size ≤ (w.setCell ⟨p.gi, i, none⟩ (.int .i64 x)).heap.size := by simp [World.setCell]
  refine ⟨?_, ?_, ?_, ?_, h.none_, fun k l' d2 hk => ?_⟩
  · have := (hk2 h.blk (by decide)).trans h.blk
    unfold Blk pcells at this ⊢
    simp only [List.length_set]
    exact this
  · have := h.row.set_ i (.int .i64 x)
    unfold Blk at this ⊢
    rw [this]
    simp [List.setIfInBounds_toArray, List.map_set]
  · exact h.map.block (Below.heap_setCell w ⟨p.gi, i, none⟩ (.int .i64 x) p.gm (fun e => h.map.notCells (by rw [e]; exact h.row)))
  · refine World.ownsRow.kept (row := some p.gi) h.used ⟨rfl, rfl, rfl, by simp [World.setCell], fun k _ hk => Below.heap_setCell w ⟨p.gi, i, none⟩ (.int .i64 x) k (fun e => hk (by rw [e]))⟩ (.inr fun e => ?_)
    obtain ⟨cur', hb⟩ := row_block h.used e
    exact ne_types hb h.row (by decide) rfl
  · obtain ⟨h1, h2⟩ := h.some_ k l' d2 hk
    exact ⟨h1, h2.keep (hk2 h2.blk (by decide)) hbk hsz⟩
end

/-! ### pages and their disk -/
/-- Pages in the state s over a disk in the state ds; F: all the blocks that they may write. -/
def PD (w : World) (g gd : Nat) (s : PG) (ds : DS) (F : Nat → Prop) : Prop :=
  ∃ p D, PagesOf w g gd s p ∧ DiskAt w gd ds D ∧ ¬ D p.gm ∧ ∀ k, F k ↔ (FootP g s p k ∨ D k)
/-- Pages and disk are in these states now, and nothing but their own blocks F has changed. -/
def OnPD (g gd : Nat) (w : World) (F : Nat → Prop) (s' : PG) (ds' : DS) (w' : World) : Prop := ∃ F', PD w' g gd s' ds' F' ∧ Chg w w' F ∧ ∀ k, F' k → F k ∨ w.heap.size ≤ k
theorem OnPD.same {g gd : Nat} {w : World} {F : Nat → Prop} {s : PG} {ds : DS} (h : PD w g gd s ds F) : OnPD g gd w F s ds w := ⟨F, h, Chg.refl _ _, fun _ hk => .inl hk⟩
theorem OnPD.trans {g gd : Nat} {w w1 w2 : World} {F : Nat → Prop} {s1 s2 : PG} {d1 d2 : DS} (h1 : OnPD g gd w F s1 d1 w1) (h2 : ∀ F', PD w1 g gd s1 d1 F' → OnPD g gd w1 F' s2 d2 w2) : OnPD g gd w F s2 d2 w2 := by
  obtain ⟨F1, a1, a2, a3⟩ := h1
  obtain ⟨F2, b1, b2, b3⟩ := h2 F1 a1
  refine ⟨F2, b1, a2.trans b2 a3, fun k hk => ?_⟩
  rcases b3 k hk with h | h
  · exact a3 k h
  · exact .inr (Nat.le_trans a2.size h)
theorem PD.notByte {w : World} {g gd : Nat} {s : PG} {ds : DS} {F : Nat → Prop} (h : PD w g gd s ds F) (k : Nat) (cur : Array Value) (mk : Nat × Nat) (hk : F k) : w.heap[k]? ≠ some (Obj.cells cur 5 mk) := by
  obtain ⟨p, D, h1, h2, _, hF⟩ := h
  rcases (hF k).1 hk with h | h
  · exact h1.notByte k h cur mk
  · exact h2.notByte k cur mk h
theorem PD.lt {w : World} {g gd : Nat} {s : PG} {ds : DS} {F : Nat → Prop} (h : PD w g gd s ds F) (k : Nat) (hk : F k) : k < w.heap.size := by
  obtain ⟨p, D, h1, h2, _, hF⟩ := h
  rcases (hF k).1 hk with h | h
  · exact h1.lt k h
  · exact h2.lt k h
theorem PD.below {w w' : World} {g gd : Nat} {s : PG} {ds : DS} {F : Nat → Prop} (h : PD w g gd s ds F) (hb : Below w.heap.size w w') : PD w' g gd s ds F := by
  obtain ⟨p, D, h1, h2, h3, hF⟩ := h
  exact ⟨p, D, h1.below hb, h2.below hb, h3, hF⟩
theorem PD.drew {w : World} {g gd : Nat} {s : PG} {ds : DS} {F : Nat → Prop} (h : PD w g gd s ds F) : PD w.drew g gd s ds F := h.below (Below.refl _ _).drew
theorem PagesOf.notD {w : World} {g gd : Nat} {s : PG} {p : PP} {ds : DS} {D : Nat → Prop} (h1 : PagesOf w g gd s p) (h2 : DiskAt w gd ds D) (h3 : ¬ D p.gm) (k : Nat) (hk : FootP g s p k) : ¬ D k := fun hd => by
  rcases h1.kind k hk with ⟨rfl, _⟩ | ⟨cur, t, ht, hb⟩
  · exact h3 hd
  · exact h2.notT k cur t (0, 0) ht.free hd hb
/-- The disk did something. -/
theorem PagesOf.onDisk {w w' : World} {g gd : Nat} {s : PG} {p : PP} {ds ds' : DS} {D : Nat → Prop} (h1 : PagesOf w g gd s p) (h2 : DiskAt w gd ds D) (h3 : ¬ D p.gm) (h : OnD gd w D ds' w') :
    PagesOf w' g gd s p ∧ ∃ D', DiskAt w' gd ds' D' ∧ ¬ D' p.gm ∧ Chg w w' D ∧ ∀ k, D' k → D k ∨ w.heap.size ≤ k := by
  obtain ⟨D', a1, a2, a3⟩ := h
  refine ⟨h1.keep (fun k hk => a2.block k (h1.lt k hk) (h1.notD h2 h3 k hk)) (bk_of_chg a2 fun k cur mk hk => h2.notByte k cur mk hk) a2.size, D', a1, fun hd => ?_, a2, a3⟩
  rcases a3 _ hd with h | h
  · exact h3 h
  · have := h1.map.lt; omega
/-- A block of pages was written. -/
theorem DiskAt.apart {w w' : World} {gd : Nat} {ds : DS} {D S : Nat → Prop} (h : DiskAt w gd ds D) (hc : Chg w w' S) (hd : ∀ k, S k → ¬ D k) (hb : ∀ k cur mk, S k → w.heap[k]? ≠ some (Obj.cells cur 5 mk)) : DiskAt w' gd ds D :=
  h.chg hc (fun k hk hs => hd k hs hk) hb
/-- Pages' parts were changed, nothing but them. -/
theorem OnPD.mk' {w w' : World} {g gd : Nat} {s s' : PG} {p p' : PP} {ds : DS} {D F : Nat → Prop} {S : Nat → Prop} (h1 : PagesOf w g gd s p) (h2 : DiskAt w gd ds D) (h3 : ¬ D p.gm) (hF : ∀ k, F k ↔ (FootP g s p k ∨ D k)) (hn : PagesOf w' g gd s' p') (hgm : p'.gm = p.gm)
    (hc : Chg w w' (FootP g s p)) (hf : ∀ k, FootP g s' p' k → F k ∨ w.heap.size ≤ k) : OnPD g gd w F s' ds w' := by
  have hd := h2.apart hc (fun k hk => h1.notD h2 h3 k hk) (fun k cur mk hk => h1.notByte k hk cur mk)
  refine ⟨fun k => FootP g s' p' k ∨ D k, ⟨p', D, hn, hd, by rw [hgm]; exact h3, fun k => Iff.rfl⟩, hc.mono (fun k _ hk => (hF k).2 (.inl hk)), fun k hk => ?_⟩
  rcases hk with hk | hk
  · exact hf k hk
  · exact .inl ((hF k).2 (.inr hk))
end Go.Proofs.Ytkjbicenhncpeaa
