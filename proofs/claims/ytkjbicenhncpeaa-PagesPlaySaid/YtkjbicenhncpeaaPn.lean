/-
  pages: drop, put.
-/
import Derived.Test.YtkjbicenhncpeaaPm
set_option linter.unusedVariables false
namespace Go.Proofs.Ytkjbicenhncpeaa
open Go.RowKit

/-- A page is taken out of the pool. -/
def dropS (s : PG) (n : Int) : PG := { s with used := s.used.erase n, fr := fun k => if k = n then none else s.fr k }
/-- A page is put into the pool. -/
def putS (s : PG) (n : Int) (l : List Int) (d : Bool) : PG := { s with used := n :: s.used, fr := fun k => if k = n then some (l, d) else s.fr k }
/-- The pool is in order. -/
structure PInv (s : PG) (ds : DS) : Prop where
  nodup : s.used.Nodup
  rng : ∀ n ∈ s.used, 0 ≤ n ∧ n < s.is.length
  keys : ∀ n, n ∈ s.used ↔ s.fr n ≠ none
  cap : (s.used.length : Int) ≤ s.pool
  pool1 : 1 ≤ s.pool ∧ s.pool ≤ 1000000
  clean : ∀ n l, s.fr n = some (l, false) → l = pg ds (s.frm + 4 * n)
  frm : 0 ≤ s.frm
  end_ : s.frm + 4 * s.is.length ≤ ds.size
  size : ds.size ≤ 65536
  fuse : ds.fuse ≤ 9223372036854775807
theorem PInv.len {s : PG} {ds : DS} (h : PInv s ds) : s.used.length ≤ 1000000 := by have := h.cap; have := h.pool1; omega
theorem PInv.area {s : PG} {ds : DS} (h : PInv s ds) (hp : ds.pend.length ≤ 100000000) : Area s ds := ⟨h.frm, h.end_, h.size, hp, h.fuse⟩
/-- What a disk may become. -/
structure DStep (ds t : DS) (k : Nat) : Prop where
  size : t.size = ds.size
  pend : t.pend.length ≤ ds.pend.length + k
  fuse : t.fuse ≤ ds.fuse
  ok : Healthy ds → Healthy t
theorem DStep.refl (ds : DS) (k : Nat) : DStep ds ds k := ⟨rfl, by omega, Int.le_refl _, id⟩
theorem DStep.trans {a b c : DS} {j k : Nat} (h : DStep a b j) (h2 : DStep b c k) : DStep a c (j + k) := ⟨h2.size.trans h.size, by have := h.pend; have := h2.pend; omega, Int.le_trans h2.fuse h.fuse, fun x => h2.ok (h.ok x)⟩
theorem DStep.mono {a b : DS} {j k : Nat} (h : DStep a b j) (hk : j ≤ k) : DStep a b k := ⟨h.size, by have := h.pend; omega, h.fuse, h.ok⟩
theorem W4.dstep {ds t : DS} {a : Int} {l : List Int} (h : W4 ds t a l 4) : DStep ds t 4 := ⟨h.size, by rw [h.pend]; exact Nat.le_refl _, h.fuse, h.ok⟩
theorem erase_at : ∀ {l : List Int} {n : Int} {i : Nat}, idxI l n = i → l.eraseIdx i = l.erase n
  | [], n, i, h => by simp
  | y :: r, n, i, h => by
    by_cases e : y = n
    · subst e
      have : i = 0 := by simp [idxI] at h; omega
      subst this
      simp
    · rw [idxI, if_neg e] at h
      split at h
      · omega
      · rename_i h0
        obtain ⟨j, hj⟩ : ∃ j : Nat, idxI r n = j := ⟨(idxI r n).toNat, by omega⟩
        have : i = j + 1 := by omega
        subst this
        rw [List.erase_cons_tail (by simpa using e), List.eraseIdx_cons_succ, erase_at hj]
theorem PInv.drop {s : PG} {ds : DS} (h : PInv s ds) (n : Int) : PInv (dropS s n) ds where
  nodup := h.nodup.erase n
  rng := fun m hm => h.rng m (List.mem_of_mem_erase hm)
  keys := fun m => by
    show m ∈ s.used.erase n ↔ (if m = n then none else s.fr m) ≠ none
    rw [h.nodup.mem_erase_iff]
    by_cases e : m = n
    · simp [e]
    · rw [if_neg e, h.keys m]; simp [e]
  cap := by
    have h1 := h.cap
    have h2 : (s.used.erase n).length ≤ s.used.length := List.length_erase_le
    show ((s.used.erase n).length : Int) ≤ s.pool
    omega
  pool1 := h.pool1
  clean := fun m l hm => by
    have hm : (if m = n then none else s.fr m) = some (l, false) := hm
    by_cases e : m = n
    · rw [if_pos e] at hm; cases hm
    · rw [if_neg e] at hm; exact h.clean m l hm
  frm := h.frm
  end_ := h.end_
  size := h.size
  fuse := h.fuse
theorem dropS_none {s : PG} {ds : DS} (h : PInv s ds) {n : Int} (hn : s.fr n = none) : dropS s n = s := by
  have h1 : n ∉ s.used := fun x => (h.keys n).1 x hn
  have h2 : (fun k => if k = n then none else s.fr k) = s.fr := by
    funext k
    by_cases e : k = n
    · rw [if_pos e, e, hn]
    · rw [if_neg e]
  unfold dropS
  rw [List.erase_of_not_mem h1, h2]
theorem content_drop {s : PG} {ds : DS} {n m : Int} (hm : m ≠ n) : content (dropS s n) ds m = content s ds m := by
  unfold content
  show ((if m = n then none else s.fr m).map (·.1)).getD (pg ds (s.frm + 4 * m)) = _
  rw [if_neg hm]
theorem content_drop_clean {s : PG} {ds : DS} (h : PInv s ds) {n : Int} {l : List Int} (hn : s.fr n = some (l, false)) (m : Int) : content (dropS s n) ds m = content s ds m := by
  by_cases e : m = n
  · subst e
    unfold content
    show ((if m = m then none else s.fr m).map (·.1)).getD (pg ds (s.frm + 4 * m)) = _
    rw [if_pos rfl, hn]
    exact (h.clean m l hn).symm
  · exact content_drop e
/-- A frame was written to the disk. -/
def cleanS (s : PG) (n : Int) (l : List Int) : PG := { s with fr := fun k => if k = n then some (l, false) else s.fr k }
theorem PInv.wrote {s : PG} {ds t : DS} {n : Int} {l : List Int} {d : Bool} (h : PInv s ds) (hn : s.fr n = some (l, d)) (hl : l.length = 1024) (hW : W4 ds t (s.frm + 4 * n) l 4) : PInv (cleanS s n l) t ∧ ∀ m, content (cleanS s n l) t m = content s ds m := by
  refine ⟨⟨h.nodup, h.rng, fun m => ?_, h.cap, h.pool1, fun m l' hm => ?_, h.frm, by rw [hW.size]; exact h.end_, by rw [hW.size]; exact h.size, Int.le_trans hW.fuse h.fuse⟩, fun m => ?_⟩
  · show m ∈ s.used ↔ (if m = n then some (l, false) else s.fr m) ≠ none
    rw [h.keys m]
    by_cases e : m = n
    · rw [if_pos e, e, hn]; simp
    · rw [if_neg e]
  · have hm : (if m = n then some (l, false) else s.fr m) = some (l', false) := hm
    show l' = pg t (s.frm + 4 * m)
    by_cases e : m = n
    · rw [if_pos e] at hm
      injection hm with hm
      injection hm with hm
      subst hm e
      exact (hW.page hl).symm
    · rw [if_neg e] at hm
      rw [h.clean m l' hm, hW.far (by omega)]
  · unfold content
    show ((if m = n then some (l, false) else s.fr m).map (·.1)).getD (pg t (s.frm + 4 * m)) = _
    by_cases e : m = n
    · rw [if_pos e, e, hn]; rfl
    · rw [if_neg e, hW.far (c := s.frm + 4 * m) (by omega)]
theorem PInv.put {s : PG} {ds : DS} (h : PInv s ds) {n : Int} {l : List Int} {d : Bool} (hn : s.fr n = none) (h0 : 0 ≤ n) (h1 : n < s.is.length) (hc : (s.used.length : Int) < s.pool) (hd : d = false → l = pg ds (s.frm + 4 * n)) : PInv (putS s n l d) ds where
  nodup := by
    show (n :: s.used).Nodup
    exact List.nodup_cons.2 ⟨fun x => (h.keys n).1 x hn, h.nodup⟩
  rng := fun m hm => by
    rcases List.mem_cons.1 hm with rfl | hm
    · exact ⟨h0, h1⟩
    · exact h.rng m hm
  keys := fun m => by
    show m ∈ n :: s.used ↔ (if m = n then some (l, d) else s.fr m) ≠ none
    rw [List.mem_cons, h.keys m]
    by_cases e : m = n
    · rw [if_pos e]; simp [e]
    · rw [if_neg e]; simp [e]
  cap := by
    show (((n :: s.used).length : Nat) : Int) ≤ s.pool
    rw [List.length_cons]
    omega
  pool1 := h.pool1
  clean := fun m l' hm => by
    have hm : (if m = n then some (l, d) else s.fr m) = some (l', false) := hm
    show l' = pg ds (s.frm + 4 * m)
    by_cases e : m = n
    · rw [if_pos e] at hm
      injection hm with hm
      injection hm with e1 e2
      subst e1 e2 e
      exact hd rfl
    · rw [if_neg e] at hm
      exact h.clean m l' hm
  frm := h.frm
  end_ := h.end_
  size := h.size
  fuse := h.fuse
theorem content_put {s : PG} {ds : DS} {n m : Int} {l : List Int} {d : Bool} (hm : m ≠ n) : content (putS s n l d) ds m = content s ds m := by
  unfold content
  show ((if m = n then some (l, d) else s.fr m).map (·.1)).getD (pg ds (s.frm + 4 * m)) = _
  rw [if_neg hm]
theorem content_put_at {s : PG} {ds : DS} {n : Int} {l : List Int} {d : Bool} : content (putS s n l d) ds n = l := by
  unfold content
  show ((if n = n then some (l, d) else s.fr n).map (·.1)).getD (pg ds (s.frm + 4 * n)) = _
  rw [if_pos rfl]
  rfl

theorem zeroFr (w : World) : (zeroValue 73).run Try.prog w = .ok (.pointer none) w := by kernel_rfl
/-- The blocks that drop writes. -/
def DropF (g : Nat) (p : PP) (k : Nat) : Prop := k = g ∨ k = p.gm ∨ p.vu.ownBlock = some k
/-- What drop leaves. -/
def DropP (g gd : Nat) (s : PG) (p : PP) (n : Int) (w : World) (e : Ending) (w' : World) : Prop :=
  e = .returned (.tuple #[]) ∧ ∃ p', PagesOf w' g gd (dropS s n) p' ∧ p'.gm = p.gm ∧ p'.gi = p.gi ∧ p'.fb = p.fb ∧ p'.fv = p.fv ∧ Chg w w' (DropF g p) ∧ (∀ k, p'.vu.ownBlock = some k → p.vu.ownBlock = some k ∨ w.heap.size ≤ k)
theorem DropP.foot {g gd : Nat} {s : PG} {p p' : PP} {n : Int} {w : World} (h1 : p'.gm = p.gm) (h2 : p'.gi = p.gi) (h3 : p'.fb = p.fb) (h4 : ∀ k, p'.vu.ownBlock = some k → p.vu.ownBlock = some k ∨ w.heap.size ≤ k) (k : Nat) (hk : FootP g (dropS s n) p' k) : FootP g s p k ∨ w.heap.size ≤ k := by
  rcases hk with rfl | rfl | rfl | hk | ⟨m, hm, rfl⟩
  · exact .inl (.inl rfl)
  · exact .inl (.inr (.inl h2))
  · exact .inl (.inr (.inr (.inl h1)))
  · rcases h4 k hk with h | h
    · exact .inl (.inr (.inr (.inr (.inl h))))
    · exact .inr h
  · refine .inl (.inr (.inr (.inr (.inr ⟨m, fun e => hm ?_, by rw [h3]⟩))))
    show (if m = n then none else s.fr m) = none
    split
    · rfl
    · exact e

set_option maxHeartbeats 4000000 in
theorem drop_any (g gd : Nat) (s : PG) (p : PP) (ds : DS) (n : Int) (w : World) (h : PagesOf w g gd s p) (hi : PInv s ds) :
    Calls Try.prog 32 #[.pointer (some ⟨g, 0, none⟩), .int .i64 n] w (DropP g gd s p n w) := by
  have c4 : w.cell? ⟨g, 4, none⟩ = some (.map (some p.gm)) := h.blk.cell 4
  have c5 : w.cell? ⟨g, 5, none⟩ = some p.vu := h.blk.cell 5
  have hlk := h.map.lookup (P := Try.prog) (T := 67) (K := 3) (E := 73) Try.underlying67 Try.underlying3 (zeroFr _) n
  rcases hn : s.fr n with _ | ⟨l, d⟩
  · have HE := Lib.hid (dropS_none hi hn)
    rw [h.none_ n hn] at hlk
    simp only [Option.getD_none, Option.isSome_none] at hlk
    have H := Lib.hid h
    clear h hi hn
    go_enter Try.func32, Try.ntmps32
    go_wp2
    go_end0
    exact ⟨rfl, p, by rw [HE.out]; exact H.out, rfl, rfl, rfl, rfl, Chg.refl _ _, fun k hk => .inl hk⟩
  · obtain ⟨f1, f2⟩ := h.some_ n l d hn
    rw [f1] at hlk
    simp only [Option.getD_some, Option.isSome_some] at hlk
    have hmem : n ∈ s.used := (hi.keys n).2 (by rw [hn]; simp)
    obtain ⟨i, i1, i2, i3⟩ := idxI_mem hmem
    obtain ⟨A, c, ev, hlc, hcm, hcu⟩ := ownsRow_shape h.used
    have hIX := index_any A s.used c n w hcu hi.len
    rw [i1] at hIX
    have hDL := delete_any 0 p.vu s.used i w h.used i2 (Nat.zero_le _)
    rw [erase_at i1] at hDL
    have HIX : Hid (Calls Try.prog 43 #[p.vu, .int .i64 n] w fun e w' => e = .returned (.int .i64 i) ∧ w = w') := Lib.hid (by rw [ev]; exact hIX)
    have HDL := Lib.hid hDL
    have HI := Lib.hid hi
    have HN := Lib.hid hn
    have H := Lib.hid h
    have hz5 := h.blk.free 5
    have hw1 : IntKind.i64.wrap ((i : Int) + 1) = ((i + 1 : Nat) : Int) := by rw [IntKind.wrap_i64]; have := hi.len; omega
    clear hIX hDL f1 f2 hcu hlc hcm i1 i2 i3 hmem hi hn h ev
    go_enter Try.func32, Try.ntmps32
    go_wp2_with fail
    refine HIX.out.mono ?_
    rintro e w1 ⟨rfl, rfl⟩
    go_wp2_with fail
    refine HDL.out.mono ?_
    rintro e w1 ⟨v1, rfl, hn1, hg1⟩
    obtain ⟨A1, k1, hv1, _⟩ := ownsRow_shape hn1
    obtain ⟨N1, hN1⟩ : ∃ N1, (s.used.erase n).length = N1 := ⟨_, rfl⟩
    rw [hN1] at hv1
    subst hv1
    have HN1 := Lib.hid hN1
    clear hN1
    have hP1 := H.out.setUsed (.slice A1 N1 k1) (s.used.erase n) hn1 hg1
    have hne : p.vu.ownBlock ≠ some g := fun e => by
      obtain ⟨cur', hb⟩ := row_block H.out.used e
      exact ne_types hb H.out.blk (by decide) rfl
    have hb1 : Blk w1 g 69 (pcells gd s p false) := H.out.blk.grown hg1.by_ (fun e => hne e.symm)
    have y5 : w1.cell? ⟨g, 5, none⟩ = some p.vu := hb1.cell 5
    have z5 := hb1.free 5
    have c4' : (w1.setCell ⟨g, 5, none⟩ (.slice A1 N1 k1)).cell? ⟨g, 4, none⟩ = some (.map (some p.gm)) := hP1.blk.cell 4
    obtain ⟨w2, hd2, hm2, hg2, hs2⟩ := hP1.map.delete (P := Try.prog) (T := 67) (K := 3) (E := 73) Try.underlying67 Try.underlying3 n
    have HG1 := Lib.hid hg1
    have HG2 := Lib.hid hg2
    have HP2 := Lib.hid (hP1.delKey n hm2 hg2)
    have HP1 := Lib.hid hP1
    clear hP1 hm2 hg2 hs2 hn1 hg1
    go_wp2
    go_end0
    refine ⟨rfl, { p with vu := .slice A1 N1 k1, fm := delM p.fm n }, HP2.out, rfl, rfl, rfl, rfl, ?_, fun k hk => ?_⟩
    · have a1 : Chg w w1 (DropF g p) := (Chg.grown HG1.out.by_).mono fun k _ hk => .inr (.inr hk)
      have a2 := a1.trans (Chg.setCell w1 ⟨g, 5, none⟩ (.slice A1 N1 k1)) (fun k hk => .inl (.inl hk))
      exact a2.trans (Chg.grown HG2.out) (fun k hk => by injection hk with hk; exact .inl (.inr (.inl hk.symm)))
    · rcases HG1.out.at_ with e | e
      · exact .inl (by rw [← e]; exact hk)
      · exact .inr (e k hk)
end Go.Proofs.Ytkjbicenhncpeaa
