/-
  Plain: what pages.put makes of the pool; the state of pages within a call.
-/
import Derived.Test.YtkjbicenhncpeaaPn
set_option linter.unusedVariables false
namespace Go.Proofs.Ytkjbicenhncpeaa
open Go.RowKit

/-- What put makes of pages and disk. -/
structure PutOut (s : PG) (ds : DS) (n : Int) (l : List Int) (d : Bool) (s' : PG) (t : DS) : Prop where
  is : s'.is = s.is
  frm : s'.frm = s.frm
  pool : s'.pool = s.pool
  inv : PInv s' t
  step : DStep ds t 4
  cont : ∀ m, content s' t m = if m = n then l else content s ds m
theorem dropS_none_at (s : PG) (n : Int) : (dropS s n).fr n = none := by
  show (if n = n then none else s.fr n) = none
  rw [if_pos rfl]
theorem content_put2 {s : PG} {ds : DS} {n m : Int} {l : List Int} {d : Bool} : content (putS s n l d) ds m = if m = n then l else content s ds m := by
  by_cases e : m = n
  · rw [if_pos e, e, content_put_at]
  · rw [if_neg e, content_put e]
theorem PutOut.easy {s : PG} {ds : DS} (h : PInv s ds) {n : Int} {l : List Int} {d : Bool} (h0 : 0 ≤ n) (h1 : n < s.is.length) (hc : (((dropS s n).used.length : Nat) : Int) < s.pool) (hd : d = false → l = pg ds (s.frm + 4 * n)) : PutOut s ds n l d (putS (dropS s n) n l d) ds where
  is := rfl
  frm := rfl
  pool := rfl
  inv := (h.drop n).put (dropS_none_at s n) h0 h1 hc hd
  step := DStep.refl _ _
  cont := fun m => by
    rw [content_put2]
    by_cases e : m = n
    · rw [if_pos e, if_pos e]
    · rw [if_neg e, if_neg e, content_drop e]
theorem drop_len {s : PG} {ds : DS} (h : PInv s ds) {n : Int} (hn : n ∈ s.used) : (dropS s n).used.length + 1 = s.used.length := by
  show (s.used.erase n).length + 1 = _
  rw [List.length_erase_of_mem hn]
  have := List.length_pos_of_mem hn
  omega
theorem PutOut.out {s : PG} {ds t : DS} (h : PInv s ds) {n m : Int} {l ll : List Int} {d dl : Bool} (h0 : 0 ≤ n) (h1 : n < s.is.length) (hm : (dropS s n).fr m = some (ll, dl)) (hl : ll.length = 1024) (hW : W4 ds t (s.frm + 4 * m) ll 4) (hd : d = false → l = pg ds (s.frm + 4 * n)) :
    PutOut s ds n l d (putS (dropS (cleanS (dropS s n) m ll) m) n l d) t := by
  have i1 := h.drop n
  obtain ⟨i2, k2⟩ := i1.wrote (t := t) hm hl hW
  have i3 := i2.drop m
  have hmn : m ≠ n := fun e => by rw [e, dropS_none_at] at hm; cases hm
  have hmem : m ∈ (dropS s n).used := (i1.keys m).2 (by rw [hm]; simp)
  have hc := drop_len i2 (n := m) hmem
  have hcap := i2.cap
  have hfr : (dropS (cleanS (dropS s n) m ll) m).fr n = none := by
    show (if n = m then none else (if n = m then some (ll, false) else (dropS s n).fr n)) = none
    rw [if_neg (Ne.symm hmn), if_neg (Ne.symm hmn), dropS_none_at]
  refine ⟨rfl, rfl, rfl, i3.put hfr h0 h1 (by show _ < (cleanS (dropS s n) m ll).pool; omega) (fun e => ?_), hW.dstep, fun k => ?_⟩
  · rw [hd e]
    exact (hW.far (by omega)).symm
  · rw [content_put2]
    by_cases e : k = n
    · rw [if_pos e, if_pos e]
    · rw [if_neg e, if_neg e]
      have hc1 : (cleanS (dropS s n) m ll).fr m = some (ll, false) := by
        show (if m = m then some (ll, false) else _) = _
        rw [if_pos rfl]
      rw [content_drop_clean i2 hc1, k2, content_drop e]
theorem PutOut.outClean {s : PG} {ds : DS} (h : PInv s ds) {n m : Int} {l ll : List Int} {d : Bool} (h0 : 0 ≤ n) (h1 : n < s.is.length) (hm : (dropS s n).fr m = some (ll, false)) (hd : d = false → l = pg ds (s.frm + 4 * n)) :
    PutOut s ds n l d (putS (dropS (dropS s n) m) n l d) ds := by
  have i1 := h.drop n
  have i3 := i1.drop m
  have hmn : m ≠ n := fun e => by rw [e, dropS_none_at] at hm; cases hm
  have hmem : m ∈ (dropS s n).used := (i1.keys m).2 (by rw [hm]; simp)
  have hc := drop_len i1 (n := m) hmem
  have hcap := i1.cap
  have hfr : (dropS (dropS s n) m).fr n = none := by
    show (if n = m then none else (dropS s n).fr n) = none
    rw [if_neg (Ne.symm hmn), dropS_none_at]
  refine ⟨rfl, rfl, rfl, i3.put hfr h0 h1 (by show _ < (dropS s n).pool; omega) hd, DStep.refl _ _, fun k => ?_⟩
  rw [content_put2]
  by_cases e : k = n
  · rw [if_pos e, if_pos e]
  · rw [if_neg e, if_neg e, content_drop_clean i1 hm, content_drop e]
theorem last_at {l : List Int} {N : Nat} (h : l.length = N + 1) : ∃ x, l[N]? = some x ∧ x ∈ l :=
  ⟨l[N]'(by omega), List.getElem?_eq_getElem (by omega), List.getElem_mem _⟩

/-- Within a call that began at w: pages and disk are in these states, and nothing but F was changed. -/
structure Cur (g gd : Nat) (w : World) (F : Nat → Prop) (w1 : World) (s : PG) (p : PP) (ds : DS) (D : Nat → Prop) : Prop where
  pages : PagesOf w1 g gd s p
  disk : DiskAt w1 gd ds D
  gm : ¬ D p.gm
  chg : Chg w w1 F
  foot : ∀ k, FootP g s p k → F k ∨ w.heap.size ≤ k
  dfoot : ∀ k, D k → F k ∨ w.heap.size ≤ k
  own : F g
theorem PD.cur {g gd : Nat} {w : World} {F : Nat → Prop} {s : PG} {ds : DS} (h : PD w g gd s ds F) : ∃ p D, Cur g gd w F w s p ds D := by
  obtain ⟨p, D, h1, h2, h3, hF⟩ := h
  exact ⟨p, D, h1, h2, h3, Chg.refl _ _, fun k hk => .inl ((hF k).2 (.inl hk)), fun k hk => .inl ((hF k).2 (.inr hk)), (hF g).2 (.inl (.inl rfl))⟩
theorem Cur.on {g gd : Nat} {w w1 : World} {F : Nat → Prop} {s : PG} {p : PP} {ds : DS} {D : Nat → Prop} (h : Cur g gd w F w1 s p ds D) : OnPD g gd w F s ds w1 :=
  ⟨fun k => FootP g s p k ∨ D k, ⟨p, D, h.pages, h.disk, h.gm, fun _ => Iff.rfl⟩, h.chg, fun k hk => hk.elim (h.foot k) (h.dfoot k)⟩
theorem Cur.below {g gd : Nat} {w w1 w2 : World} {F : Nat → Prop} {s : PG} {p : PP} {ds : DS} {D : Nat → Prop} (h : Cur g gd w F w1 s p ds D) (hb : Below w1.heap.size w1 w2) : Cur g gd w F w2 s p ds D :=
  ⟨h.pages.below hb, h.disk.below hb, h.gm, h.chg.trans (Chg.of_below hb (fun _ => False)) (fun _ hk => hk.elim), h.foot, h.dfoot, h.own⟩
theorem Cur.drew {g gd : Nat} {w w1 : World} {F : Nat → Prop} {s : PG} {p : PP} {ds : DS} {D : Nat → Prop} (h : Cur g gd w F w1 s p ds D) : Cur g gd w F w1.drew s p ds D := h.below (Below.refl _ _).drew
theorem Cur.drop {g gd : Nat} {w w1 w2 : World} {F : Nat → Prop} {s : PG} {p : PP} {ds : DS} {D : Nat → Prop} {n : Int} {e : Ending} (h : Cur g gd w F w1 s p ds D) (hd : DropP g gd s p n w1 e w2) :
    e = .returned (.tuple #[]) ∧ ∃ p2, Cur g gd w F w2 (dropS s n) p2 ds D ∧ p2.gm = p.gm ∧ p2.gi = p.gi ∧ p2.fb = p.fb ∧ p2.fv = p.fv ∧ (∀ (k : Nat) (cur : Array Value) (t : TypeId) (mk : Nat × Nat), w1.heap[k]? = some (Obj.cells cur t mk) → t ≠ 3 → t ≠ 69 → w2.heap[k]? = w1.heap[k]?) := by
  obtain ⟨he, p2, k1, k2, k3, k4, k5, k6, k7⟩ := hd
  have hfp : ∀ k, DropF g p k → FootP g s p k := fun k hk => by
    rcases hk with h | h | h
    · exact .inl h
    · exact .inr (.inr (.inl h))
    · exact .inr (.inr (.inr (.inl h)))
  have hdk := h.disk.apart k6 (fun k hk => h.pages.notD h.disk h.gm k (hfp k hk)) (fun k cur mk hk => h.pages.notByte k (hfp k hk) cur mk)
  refine ⟨he, p2, ⟨k1, hdk, by rw [k2]; exact h.gm, h.chg.trans k6 (fun k hk => h.foot k (hfp k hk)), fun k hk => ?_, h.dfoot, h.own⟩, k2, k3, k4, k5, fun k cur t mk hk ht1 ht2 => ?_⟩
  · rcases DropP.foot (gd := gd) (w := w1) k2 k3 k4 k7 k hk with x | x
    · exact h.foot k x
    · exact .inr (Nat.le_trans h.chg.size x)
  · refine k6.block k (heap_lt hk) fun hx => ?_
    rcases hx with rfl | rfl | hx
    · exact ne_types hk h.pages.blk ht2 rfl
    · exact h.pages.map.notCells hk
    · obtain ⟨cur', hb⟩ := row_block h.pages.used hx
      exact ne_types hk hb ht1 rfl
theorem Dead.lift {g gd : Nat} {w w1 w2 : World} {F : Nat → Prop} {s : PG} {p : PP} {ds : DS} {D : Nat → Prop} (h : Cur g gd w F w1 s p ds D) (hd : Dead g gd w1 (fun k => FootP g s p k ∨ D k) w2) : Dead g gd w F w2 := by
  obtain ⟨a1, a2, ⟨t, D2, a3, a4, a5, a6⟩, a7⟩ := hd
  have hf : ∀ k, (FootP g s p k ∨ D k) → F k ∨ w.heap.size ≤ k := fun k hk => hk.elim (h.foot k) (h.dfoot k)
  refine ⟨a1, h.own, ⟨t, D2, a3, a4, a5, fun k hk => ?_⟩, h.chg.trans a7 hf⟩
  rcases a6 k hk with x | x
  · exact hf k x
  · exact .inr (Nat.le_trans h.chg.size x)
theorem Cur.wrote {g gd : Nat} {w w1 w2 : World} {F : Nat → Prop} {s : PG} {p : PP} {ds : DS} {D : Nat → Prop} {n : Int} {l : List Int} {d : Bool} {e : Ending} (h : Cur g gd w F w1 s p ds D) (hs : s.fr n = some (l, d)) (hd : PWrote g gd s p ds D n l w1 e w2) :
    (e = .returned (.bool true) ∧ ∃ t D', W4 ds t (s.frm + 4 * n) l 4 ∧ Cur g gd w F w2 (cleanS s n l) p t D') ∨ (e = .returned (.bool false) ∧ ¬ Healthy ds ∧ Dead g gd w F w2) := by
  rcases hd with ⟨he, t, D', a1, a2, a3, a4, a5, a6⟩ | ⟨he, a1, a2⟩
  · have hf : ∀ k, (FootP g s p k ∨ D k) → F k ∨ w.heap.size ≤ k := fun k hk => hk.elim (h.foot k) (h.dfoot k)
    refine .inl ⟨he, t, D', a1, ⟨a2, a3, a4, h.chg.trans a5 hf, fun k hk => h.foot k ?_, fun k hk => ?_, h.own⟩⟩
    · rcases hk with hk | hk | hk | hk | ⟨m, hm, hk⟩
      · exact .inl hk
      · exact .inr (.inl hk)
      · exact .inr (.inr (.inl hk))
      · exact .inr (.inr (.inr (.inl hk)))
      · refine .inr (.inr (.inr (.inr ⟨m, fun x => hm ?_, hk⟩)))
        show (if m = n then some (l, false) else s.fr m) = none
        by_cases e : m = n
        · rw [e, hs] at x; cases x
        · rw [if_neg e]; exact x
    · rcases a6 k hk with x | x
      · exact h.dfoot k x
      · exact .inr (Nat.le_trans h.chg.size x)
  · exact .inr ⟨he, a1, Dead.lift h a2⟩
/-- A frame is laid into the map and into the list. -/
theorem Cur.put {g gd : Nat} {w w1 w2 w3 : World} {F : Nat → Prop} {s : PG} {p : PP} {ds : DS} {D : Nat → Prop} {n : Int} {f : Nat} {v v' : Value} {l : List Int} {d : Bool} (h : Cur g gd w F w1 s p ds D) (hn : s.fr n = none) (hf : FrameAt w1 f n v l d)
    (hm : MapIs w2 p.gm (updM p.fm n (.pointer (some ⟨f, 0, none⟩)))) (hg : w1.grownBy w2 (some p.gm)) (hu : Nums w3 0 v' (n :: s.used)) (hg2 : Grew w2 p.vu w3 v') :
    ∃ F', PD (w3.setCell ⟨g, 5, none⟩ v') g gd (putS s n l d) ds F' ∧ Chg w (w3.setCell ⟨g, 5, none⟩ v') F ∧ (∀ k, F' k → F k ∨ k = f ∨ w.heap.size ≤ k) ∧ FrameAt (w3.setCell ⟨g, 5, none⟩ v') f n v l d := by
  have h1 := h.pages.addKey n f v l d hf hm hg
  have h2 := h1.setUsed v' (n :: s.used) hu hg2
  have c1 : Chg w1 w2 (fun k => k = p.gm) := (Chg.grown hg).mono fun k _ hk => by injection hk with hk; exact hk.symm
  have c2 : Chg w1 w3 (FootP g s p) := (c1.mono fun k _ hk => .inr (.inr (.inl hk))).trans (Chg.grown hg2.by_) (fun k hk => .inl (.inr (.inr (.inr (.inl hk)))))
  have c3 : Chg w1 (w3.setCell ⟨g, 5, none⟩ v') (FootP g s p) := c2.trans (Chg.setCell w3 ⟨g, 5, none⟩ v') (fun k hk => .inl (.inl hk))
  have hdk := h.disk.apart c3 (fun k hk => h.pages.notD h.disk h.gm k hk) (fun k cur mk hk => h.pages.notByte k hk cur mk)
  have hfr : FrameAt (w3.setCell ⟨g, 5, none⟩ v') f n v l d := by
    have h3 := (h2.some_ n l d (by show (if n = n then _ else _) = _; rw [if_pos rfl])).2
    simpa using h3
  refine ⟨_, ⟨_, D, h2, hdk, h.gm, fun _ => Iff.rfl⟩, h.chg.trans c3 h.foot, fun k hk => ?_, hfr⟩
  rcases hk with hk | hk
  · rcases hk with hk | hk | hk | hk | ⟨m, hm, hk⟩
    · exact (h.foot k (.inl hk)).imp_right .inr
    · exact (h.foot k (.inr (.inl hk))).imp_right .inr
    · exact (h.foot k (.inr (.inr (.inl hk)))).imp_right .inr
    · have hk : v'.ownBlock = some k := hk
      rcases hg2.at_ with e | e
      · rw [e] at hk
        exact (h.foot k (.inr (.inr (.inr (.inl hk))))).imp_right .inr
      · have x := e k hk
        have := h.chg.size
        have := hg.size
        exact .inr (.inr (by omega))
    · have hm : (if m = n then some (l, d) else s.fr m) ≠ none := hm
      have hk : (if m = n then f else p.fb m) = k := hk
      by_cases e : m = n
      · rw [if_pos e] at hk
        exact .inr (.inl hk.symm)
      · rw [if_neg e] at hk hm
        exact (h.foot k (.inr (.inr (.inr (.inr ⟨m, hm, hk⟩))))).imp_right .inr
  · exact (h.dfoot k hk).imp_right .inr
end Go.Proofs.Ytkjbicenhncpeaa
