/-
  pages.put.
-/
import Derived.Test.YtkjbicenhncpeaaPo
import Derived.Deep.RegionWith
set_option linter.unusedVariables false
namespace Go.Proofs.Ytkjbicenhncpeaa
open Go.RowKit

/-- What put answers. -/
def PutRes (g gd f : Nat) (s : PG) (ds : DS) (n : Int) (v : Value) (l : List Int) (d : Bool) (w : World) (F : Nat → Prop) (e : Ending) (w' : World) : Prop :=
  (e = .returned (.bool true) ∧ ∃ s' t F', PutOut s ds n l d s' t ∧ PD w' g gd s' t F' ∧ Chg w w' F ∧ (∀ k, F' k → F k ∨ k = f ∨ w.heap.size ≤ k) ∧ FrameAt w' f n v l d) ∨
  (e = .returned (.bool false) ∧ ¬ Healthy ds ∧ s.pool ≤ ((dropS s n).used.length : Int) ∧ Dead g gd w F w')
theorem PInv.keysM {s : PG} {ds : DS} (h : PInv s ds) {w : World} {g gd : Nat} {p : PP} (hp : PagesOf w g gd s p) (k : Int) : k ∈ s.used ↔ p.fm k ≠ none := by
  rw [h.keys k]
  rcases hk : s.fr k with _ | ⟨l, d⟩
  · rw [hp.none_ k hk]; simp
  · rw [(hp.some_ k l d hk).1]; simp
theorem grew_trans_below {w w1 w2 : World} {v v' : Value} (hb : Below w.heap.size w w1) (hg : Grew w1 v w2 v') : Grew w v w2 v' := by
  refine ⟨⟨hg.by_.os.trans hb.os, hg.by_.tape.trans hb.tape, hg.by_.output.trans hb.output, Nat.le_trans hb.size hg.by_.size, fun k hk hne => (hg.by_.block k (Nat.lt_of_lt_of_le hk hb.size) hne).trans (hb.block k hk)⟩, ?_⟩
  rcases hg.at_ with e | e
  · exact .inl e
  · exact .inr fun k hk => Nat.le_trans hb.size (e k hk)
theorem ins_keep {w w1 w2 : World} {g gd : Nat} {s : PG} {p : PP} {v' : Value} (h : PagesOf w g gd s p) (hb : Below w.heap.size w w1) (hg : Grew w1 p.vu w2 v') {z : Prop} (hz : z) :
    w2.cell? ⟨g, 5, none⟩ = some p.vu ∧ w2.frozen? ⟨g, 5, none⟩ = false := by
  have h1 := h.below hb
  have hne : some g ≠ p.vu.ownBlock := fun e => by
    obtain ⟨cur', hb'⟩ := row_block h1.used e.symm
    exact ne_types hb' h1.blk (by decide) rfl
  have hb2 : Blk w2 g 69 (pcells gd s p false) := h1.blk.grown hg.by_ hne
  exact ⟨hb2.cell 5, hb2.free 5⟩
theorem ins_keepF {w w1 w2 : World} {g gd : Nat} {s : PG} {p : PP} {v' : Value} (h : PagesOf w g gd s p) (hb : Below w.heap.size w w1) (hg : Grew w1 p.vu w2 v') {f : Nat} {t : TypeId} {cs : Array Value} (hB : Blk w f t cs) (ht : t ≠ 3) : Blk w2 f t cs := by
  have hne : some f ≠ p.vu.ownBlock := fun e => by
    obtain ⟨cur', hb'⟩ := row_block h.used e.symm
    exact ne_types hB hb' ht rfl
  exact (hg.by_.block f (Nat.lt_of_lt_of_le (heap_lt hB) hb.size) hne).trans ((hb.block f (heap_lt hB)).trans hB)
/-- A frame that the pages do not hold is left alone. -/
theorem FrameAt.chg {w w' : World} {g gd f : Nat} {s : PG} {p : PP} {ds : DS} {D : Nat → Prop} {n : Int} {v : Value} {l : List Int} {d : Bool} (h : PagesOf w g gd s p) (hD : DiskAt w gd ds D) (hn : s.fr n = none) (hf : FrameAt w f n v l d) (hc : Chg w w' (fun k => FootP g s p k ∨ D k)) : FrameAt w' f n v l d := by
  refine hf.keep (hc.block f (heap_lt hf.blk) fun hx => ?_) (bk_of_chg hc fun k cur mk hk => hk.elim (fun x => h.notByte k x cur mk) (fun x => hD.notByte k cur mk x)) hc.size
  rcases hx with (hx | hx | hx | hx | ⟨m, hm, hx⟩) | hx
  · exact ne_types hf.blk h.blk (by decide) hx
  · exact ne_types hf.blk h.row (by decide) hx
  · subst hx; exact h.map.notCells hf.blk
  · obtain ⟨cur', hb⟩ := row_block h.used hx
    exact ne_types hf.blk hb (by decide) rfl
  · rcases em : s.fr m with _ | ⟨lm, dm⟩
    · exact hm em
    · have h1 := (h.some_ m lm dm em).2.blk
      have h2 := hf.blk
      rw [hx] at h1
      unfold Blk at h1 h2
      rw [h1] at h2
      injection h2 with h2
      injection h2 with h2
      have := congrArg (fun a => a[0]?) h2
      simp at this
      subst this
      exact hm hn
  · exact hD.notT f _ _ (0, 0) free_frame hx hf.blk

set_option maxHeartbeats 8000000 in
theorem put_any (g gd f : Nat) (s : PG) (ds : DS) (F : Nat → Prop) (n : Int) (v : Value) (l : List Int) (d : Bool) (w : World) (h : PD w g gd s ds F) (hi : PInv s ds) (hp : ds.pend.length ≤ 100000000) (hf : FrameAt w f n v l d) (h0 : 0 ≤ n) (h1 : n < s.is.length) (hd : d = false → l = pg ds (s.frm + 4 * n)) :
    Calls Try.prog 29 #[.pointer (some ⟨g, 0, none⟩), .pointer (some ⟨f, 0, none⟩)] w (PutRes g gd f s ds n v l d w F) := by
  obtain ⟨p, D, hC⟩ := h.cur
  have f0 : w.cell? ⟨f, 0, none⟩ = some (.int .i64 n) := hf.blk.cell 0
  have HC := Lib.hid hC
  have HI := Lib.hid hi
  have HF := Lib.hid hf
  have HD := Lib.hid hd
  have HP := Lib.hid hp
  clear hC hi hf h hd hp
  go_enter Try.func29, Try.ntmps29
  go_wp2_with fail
  refine (drop_any g gd s p ds n w HC.out.pages HI.out).mono ?_
  rintro e w1 hdp
  obtain ⟨rfl, p1, hC1, e1, e2, e3, e4, hkeep⟩ := HC.out.drop hdp
  have hbk : BK w w1 := fun k cur mk hk => hkeep k cur _ mk hk (by decide) (by decide)
  have hF1 : FrameAt w1 f n v l d := HF.out.keep (hkeep f _ _ _ HF.out.blk (by decide) (by decide)) hbk (by obtain ⟨_, _, _, _, _, _, _, hx, _⟩ := hdp; exact hx.size)
  have hI1 := HI.out.drop n
  clear hdp hkeep hbk e1 e2 e3 e4
  have c4 : w1.drew.cell? ⟨g, 4, none⟩ = some (.map (some p1.gm)) := hC1.pages.blk.cell 4
  have c2 : w1.drew.cell? ⟨g, 2, none⟩ = some (.int .i64 s.pool) := hC1.pages.blk.cell 2
  have hlen := hC1.drew.pages.map.len (P := Try.prog) (T := 67) (K := 3) (E := 73) Try.underlying67 (dropS s n).used hI1.nodup (fun k => hI1.keysM hC1.drew.pages k)
  obtain ⟨N, hN⟩ : ∃ N, (dropS s n).used.length = N := ⟨_, rfl⟩
  rw [hN] at hlen
  have hpool := hI1.pool1
  have hp1 : 1 ≤ s.pool := hpool.1
  by_cases hfull : s.pool ≤ (N : Int)
  · have hge : decide ((N : Int) ≥ s.pool) = true := by simpa using hfull
    have hNb : N ≤ 1000000 := by have := hI1.len; omega
    obtain ⟨M, rfl⟩ : ∃ M, N = M + 1 := ⟨N - 1, by omega⟩
    obtain ⟨m, hm1, hm2⟩ := last_at hN
    rcases hm3 : (dropS s n).fr m with _ | ⟨ll, dl⟩
    · exact absurd hm3 ((hI1.keys m).1 hm2)
    obtain ⟨g1, g2⟩ := hC1.pages.some_ m ll dl hm3
    have hlk := hC1.drew.drew.pages.map.lookup1 (P := Try.prog) (T := 67) (K := 3) (E := 73) Try.underlying67 Try.underlying3 (zeroFr _) m
    rw [g1] at hlk
    simp only [Option.getD_some] at hlk
    have hzM : m ≠ n := fun e => by rw [e, dropS_none_at] at hm3; cases hm3
    rcases hC1.pages.used.form with ⟨_, h00⟩ | ⟨gu, cap, cur, hvu, _, _, _, hcl, hcm, hcu⟩
    · rw [h00] at hN; simp at hN
    have cM : w1.drew.drew.cell? ⟨gu, M, none⟩ = some (.int .i64 m) := hcu M m hm1
    have c5 : w1.drew.drew.cell? ⟨g, 5, none⟩ = some (.slice (some ⟨gu, 0, none⟩) (M + 1) cap) := by rw [← hN, ← hvu]; exact hC1.pages.blk.cell 5
    have c4d : w1.drew.drew.cell? ⟨g, 4, none⟩ = some (.map (some p1.gm)) := hC1.pages.blk.cell 4
    have l0 : w1.drew.drew.cell? ⟨p1.fb m, 0, none⟩ = some (.int .i64 m) := g2.blk.cell 0
    have l2 : w1.drew.drew.cell? ⟨p1.fb m, 2, none⟩ = some (.bool dl) := g2.blk.cell 2
    have hrng := hI1.rng m hm2
    have hll : ll.length = 1024 := by obtain ⟨_, _, _, _, _, _, _, _, _, _, hx, _⟩ := g2.row; exact hx
    have hwr : IntKind.i64.wrap (((M + 1 : Nat) : Int) - 1) = (M : Int) := by rw [IntKind.wrap_i64]; omega
    have hwr2 : IntKind.i64.wrap ((M : Int) + 1 - 1) = (M : Int) := by rw [IntKind.wrap_i64]; omega
    unfold maxLen at hcm
    rw [hN] at hcl
    have hMcap : M < cap := by omega
    have hMb : M < 1000000 := by omega
    have HINV1 := Lib.hid hI1
    have HC1 := Lib.hid hC1.drew.drew
    have HF1 : Hid (FrameAt w1.drew.drew f n v l d) := Lib.hid (hF1.keep rfl (fun _ _ _ _ => rfl) (Nat.le_refl _))
    have HM3 := Lib.hid hm3
    have HRNG := Lib.hid hrng
    have HLL := Lib.hid hll
    have HNN := Lib.hid hN
    have HFULL : Hid (s.pool ≤ ((dropS s n).used.length : Int)) := Lib.hid (by rw [hN]; exact hfull)
    clear hI1 hC1 hF1 hm3 hm1 hm2 hrng hll hN hpool g1 g2 hvu hcu hcl hzM hNb
    rcases dl with _ | _
    · -- clean
      have HOUT := Lib.hid (PutOut.outClean (l := l) (d := d) HI.out h0 h1 HM3.out HD.out)
      go_wp2
      go_region
      go_wp2
      go_region
      clear hlen hge hfull c4 c2 hlk
      go_wp2_with fail
      refine (drop_any g gd (dropS s n) p1 ds m w1.drew.drew HC1.out.pages HINV1.out).mono ?_
      rintro e w4 hdp
      obtain ⟨rfl, p2, hC2, e1, e2, e3, e4, hkeep⟩ := HC1.out.drop hdp
      have hbk : BK w1.drew.drew w4 := fun k cur mk hk => hkeep k cur _ mk hk (by decide) (by decide)
      have hF2 : FrameAt w4 f n v l d := HF1.out.keep (hkeep f _ _ _ HF1.out.blk (by decide) (by decide)) hbk (by obtain ⟨_, _, _, _, _, _, _, hx, _⟩ := hdp; exact hx.size)
      have HINV := Lib.hid (HINV1.out.drop m)
      have HCUR := Lib.hid hC2
      have HFR := Lib.hid hF2
      have HNONE : Hid ((dropS (dropS s n) m).fr n = none) := Lib.hid (by
        show (if n = m then none else (dropS s n).fr n) = none
        split
        · rfl
        · exact dropS_none_at s n)
      clear hdp hkeep hbk hC2 hF2 e1 e2 e3 e4
      have c4f : (w4).drew.cell? ⟨g, 4, none⟩ = some (.map (some p2.gm)) := HCUR.out.pages.blk.cell 4
      have f0f : (w4).drew.cell? ⟨f, 0, none⟩ = some (.int .i64 n) := HFR.out.blk.cell 0
      have hmf : MapIs (w4).drew p2.gm p2.fm := HCUR.out.drew.pages.map
      obtain ⟨w8, hr8, hm8, hg8, hs8⟩ := hmf.update (P := Try.prog) (T := 67) (K := 3) (E := 73) Try.underlying67 Try.underlying3 n (.pointer (some ⟨f, 0, none⟩))
      have hH8 := HCUR.out.drew.pages.addKey n f v l d (HFR.out.keep rfl (fun _ _ _ _ => rfl) (Nat.le_refl _)) hm8 hg8
      have y5 : w8.cell? ⟨g, 5, none⟩ = some p2.vu := hH8.blk.cell 5
      have hfb8 : Blk w8 f 75 #[.int .i64 n, v, .bool d] := by
        have := (hH8.some_ n l d (by show (if n = n then _ else _) = _; rw [if_pos rfl])).2.blk
        simpa using this
      have y0 : w8.cell? ⟨f, 0, none⟩ = some (.int .i64 n) := hfb8.cell 0
      have z5 := hH8.blk.free 5
      have hlv : (dropS (dropS s n) m).used.length ≤ 1000000 := HINV.out.len
      obtain ⟨w9, hw9⟩ : ∃ w9, (w8.alloc (.cells #[.int .i64 n] 3)).drew = w9 := ⟨_, rfl⟩
      have hb9 : Below w8.heap.size w8 w9 := by rw [← hw9]; exact ((Below.refl _ _).alloc (Nat.le_refl _) _).drew
      have hINS := insert_any 0 p2.vu (dropS (dropS s n) m).used n w8.heap.size w9 (by rw [← hw9]; exact hH8.used.alloc _) (by rw [← hw9]; exact Blk.new w8 _ _) (fun e => by
        obtain ⟨cur', hb⟩ := row_block hH8.used e.symm
        have := heap_lt hb
        omega) hlv (Nat.zero_le _)
      have HINS : Hid (Calls Try.prog 42 #[p2.vu, .int .i64 0, .slice (some ⟨w8.heap.size, 0, none⟩) 1 1] ((w8.alloc (.cells #[.int .i64 n] 3)).drew) fun e w' => ∃ v', e = .returned v' ∧ Nums w' 0 v' (n :: (dropS (dropS s n) m).used) ∧ Grew w9 p2.vu w' v') := Lib.hid (by rw [hw9]; exact hINS)
      have HM8 := Lib.hid hm8
      have hltg : g < w8.heap.size := heap_lt hH8.blk
      have hltf : f < w8.heap.size := heap_lt hfb8
      have HG8 := Lib.hid hg8
      have HH8 := Lib.hid hH8
      have HFB8 := Lib.hid hfb8
      have HW9 := Lib.hid hw9
      have HB9 := Lib.hid hb9
      have n1 := World.new_ne w8 ⟨g, 5, none⟩ y5
      have n2 := World.new_ne w8 ⟨f, 0, none⟩ y0
      clear hltg hltf
      clear hINS hmf hm8 hg8 hs8 hH8 hlv hw9 hb9 hfb8
      go_wp2
      go_region
      go_wp2
      have y5a : (w8.alloc (.cells #[.int .i64 n] 3)).cell? ⟨g, 5, none⟩ = some p2.vu := (((Below.refl _ _).alloc (Nat.le_refl _) _).cell (p := ⟨g, 5, none⟩) (World.block_lt_of_cell? w8 _ y5)).trans y5
      clear n1 n2
      go_region_with (first | (go_at_call 42; refine HINS.out.mono ?_; rintro e w10 ⟨v10, rfl, hn10, hg10⟩; obtain ⟨A10, k10, hv10, _⟩ := ownsRow_shape hn10; obtain ⟨N10, hN10⟩ : ∃ N10, (n :: (dropS (dropS s n) m).used).length = N10 := ⟨_, rfl⟩; rw [hN10] at hv10; subst hv10; have HN10 := Lib.hid hN10; clear hN10; have z10 : w10.frozen? ⟨g, 5, none⟩ = false := (ins_keep HH8.out HB9.out hg10 z5).2; have y10 : w10.cell? ⟨g, 5, none⟩ = some p2.vu := (ins_keep HH8.out HB9.out hg10 z5).1; have x10 : w10.cell? ⟨f, 0, none⟩ = some (.int .i64 n) := (ins_keepF HH8.out HB9.out hg10 HFB8.out (by decide)).cell 0; have HN := Lib.hid hn10; have HGR := Lib.hid hg10; clear hn10 hg10))
      all_goals
        go_wp2
        go_ret
        obtain ⟨F', q1, q2, q3, q4⟩ := HCUR.out.drew.put HNONE.out (HFR.out.keep rfl (fun _ _ _ _ => rfl) (Nat.le_refl _)) HM8.out HG8.out HN.out (grew_trans_below HB9.out HGR.out)
        exact .inl ⟨rfl, _, _, F', HOUT.out, q1, q2, q3, q4⟩
    · -- dirty
      have hp2 : (w1.drew.drew.heap.size) = (w1.drew.drew.heap.size) := rfl
      go_wp2
      go_region
      go_wp2
      go_region
      clear hlen hge hfull c4 c2 hlk hp2
      go_wp2_with fail
      refine (pwrite_any g gd (dropS s n) p1 ds D m ll true w1.drew.drew HC1.out.pages HC1.out.disk HC1.out.gm HM3.out HRNG.out.1 HRNG.out.2 (HINV1.out.area HP.out)).mono ?_
      rintro e w3 hpw
      rcases HC1.out.wrote HM3.out hpw with ⟨rfl, t, D', hW, hC3⟩ | ⟨rfl, hnh, hdead⟩
      · have hF3 : FrameAt w3 f n v l d := by
          rcases hpw with ⟨_, _, _, _, _, _, _, hch, _⟩ | ⟨hx, _⟩
          · exact HF1.out.chg HC1.out.pages HC1.out.disk (dropS_none_at s n) hch
          · injection hx with hx; injection hx with hx; cases hx
        have HOUT := Lib.hid (PutOut.out (l := l) (d := d) HI.out h0 h1 HM3.out HLL.out hW HD.out)
        obtain ⟨HINV3, _⟩ := HINV1.out.wrote HM3.out HLL.out hW
        have l0' : w3.cell? ⟨p1.fb m, 0, none⟩ = some (.int .i64 m) := (hC3.pages.some_ m ll false (by show (if m = m then _ else _) = _; rw [if_pos rfl])).2.blk.cell 0
        have HC3 := Lib.hid hC3
        have HF3 := Lib.hid hF3
        have HI3 := Lib.hid HINV3
        clear hpw hC3 hF3 HINV3 hW
        go_wp2_with fail
        refine (drop_any g gd (cleanS (dropS s n) m ll) p1 t m w3 HC3.out.pages HI3.out).mono ?_
        rintro e w4 hdp
        obtain ⟨rfl, p2, hC2, e1, e2, e3, e4, hkeep⟩ := HC3.out.drop hdp
        have hbk : BK w3 w4 := fun k cur mk hk => hkeep k cur _ mk hk (by decide) (by decide)
        have hF2 : FrameAt w4 f n v l d := HF3.out.keep (hkeep f _ _ _ HF3.out.blk (by decide) (by decide)) hbk (by obtain ⟨_, _, _, _, _, _, _, hx, _⟩ := hdp; exact hx.size)
        have HINV := Lib.hid (HI3.out.drop m)
        have HCUR := Lib.hid hC2
        have HFR := Lib.hid hF2
        have HNONE : Hid ((dropS (cleanS (dropS s n) m ll) m).fr n = none) := Lib.hid (by
          show (if n = m then none else (if n = m then some (ll, false) else (dropS s n).fr n)) = none
          split
          · rfl
          · exact dropS_none_at s n)
        clear hdp hkeep hbk hC2 hF2 e1 e2 e3 e4
        have c4f : (w4).drew.cell? ⟨g, 4, none⟩ = some (.map (some p2.gm)) := HCUR.out.pages.blk.cell 4
        have f0f : (w4).drew.cell? ⟨f, 0, none⟩ = some (.int .i64 n) := HFR.out.blk.cell 0
        have hmf : MapIs (w4).drew p2.gm p2.fm := HCUR.out.drew.pages.map
        obtain ⟨w8, hr8, hm8, hg8, hs8⟩ := hmf.update (P := Try.prog) (T := 67) (K := 3) (E := 73) Try.underlying67 Try.underlying3 n (.pointer (some ⟨f, 0, none⟩))
        have hH8 := HCUR.out.drew.pages.addKey n f v l d (HFR.out.keep rfl (fun _ _ _ _ => rfl) (Nat.le_refl _)) hm8 hg8
        have y5 : w8.cell? ⟨g, 5, none⟩ = some p2.vu := hH8.blk.cell 5
        have hfb8 : Blk w8 f 75 #[.int .i64 n, v, .bool d] := by
          have := (hH8.some_ n l d (by show (if n = n then _ else _) = _; rw [if_pos rfl])).2.blk
          simpa using this
        have y0 : w8.cell? ⟨f, 0, none⟩ = some (.int .i64 n) := hfb8.cell 0
        have z5 := hH8.blk.free 5
        have hlv : (dropS (cleanS (dropS s n) m ll) m).used.length ≤ 1000000 := HINV.out.len
        obtain ⟨w9, hw9⟩ : ∃ w9, (w8.alloc (.cells #[.int .i64 n] 3)).drew = w9 := ⟨_, rfl⟩
        have hb9 : Below w8.heap.size w8 w9 := by rw [← hw9]; exact ((Below.refl _ _).alloc (Nat.le_refl _) _).drew
        have hINS := insert_any 0 p2.vu (dropS (cleanS (dropS s n) m ll) m).used n w8.heap.size w9 (by rw [← hw9]; exact hH8.used.alloc _) (by rw [← hw9]; exact Blk.new w8 _ _) (fun e => by
          obtain ⟨cur', hb⟩ := row_block hH8.used e.symm
          have := heap_lt hb
          omega) hlv (Nat.zero_le _)
        have HINS : Hid (Calls Try.prog 42 #[p2.vu, .int .i64 0, .slice (some ⟨w8.heap.size, 0, none⟩) 1 1] ((w8.alloc (.cells #[.int .i64 n] 3)).drew) fun e w' => ∃ v', e = .returned v' ∧ Nums w' 0 v' (n :: (dropS (cleanS (dropS s n) m ll) m).used) ∧ Grew w9 p2.vu w' v') := Lib.hid (by rw [hw9]; exact hINS)
        have HM8 := Lib.hid hm8
        have hltg : g < w8.heap.size := heap_lt hH8.blk
        have hltf : f < w8.heap.size := heap_lt hfb8
        have HG8 := Lib.hid hg8
        have HH8 := Lib.hid hH8
        have HFB8 := Lib.hid hfb8
        have HW9 := Lib.hid hw9
        have HB9 := Lib.hid hb9
        have n1 := World.new_ne w8 ⟨g, 5, none⟩ y5
        have n2 := World.new_ne w8 ⟨f, 0, none⟩ y0
        clear hltg hltf
        clear hINS hmf hm8 hg8 hs8 hH8 hlv hw9 hb9 hfb8
        go_wp2
        go_region
        go_wp2
        have y5a : (w8.alloc (.cells #[.int .i64 n] 3)).cell? ⟨g, 5, none⟩ = some p2.vu := (((Below.refl _ _).alloc (Nat.le_refl _) _).cell (p := ⟨g, 5, none⟩) (World.block_lt_of_cell? w8 _ y5)).trans y5
        clear n1 n2
        go_region_with (first | (go_at_call 42; refine HINS.out.mono ?_; rintro e w10 ⟨v10, rfl, hn10, hg10⟩; obtain ⟨A10, k10, hv10, _⟩ := ownsRow_shape hn10; obtain ⟨N10, hN10⟩ : ∃ N10, (n :: (dropS (cleanS (dropS s n) m ll) m).used).length = N10 := ⟨_, rfl⟩; rw [hN10] at hv10; subst hv10; have HN10 := Lib.hid hN10; clear hN10; have z10 : w10.frozen? ⟨g, 5, none⟩ = false := (ins_keep HH8.out HB9.out hg10 z5).2; have y10 : w10.cell? ⟨g, 5, none⟩ = some p2.vu := (ins_keep HH8.out HB9.out hg10 z5).1; have x10 : w10.cell? ⟨f, 0, none⟩ = some (.int .i64 n) := (ins_keepF HH8.out HB9.out hg10 HFB8.out (by decide)).cell 0; have HN := Lib.hid hn10; have HGR := Lib.hid hg10; clear hn10 hg10))
        all_goals
          go_wp2
          go_ret
          obtain ⟨F', q1, q2, q3, q4⟩ := HCUR.out.drew.put HNONE.out (HFR.out.keep rfl (fun _ _ _ _ => rfl) (Nat.le_refl _)) HM8.out HG8.out HN.out (grew_trans_below HB9.out HGR.out)
          exact .inl ⟨rfl, _, _, F', HOUT.out, q1, q2, q3, q4⟩
      · have HD3 := Lib.hid hdead
        clear hdead hpw
        go_wp2
        go_ret
        exact .inr ⟨rfl, hnh, HFULL.out, HD3.out⟩
  · have hge : decide ((N : Int) ≥ s.pool) = false := by simpa using hfull
    have HOUT := Lib.hid (PutOut.easy (l := l) (d := d) HI.out h0 h1 (by rw [hN]; show ((N : Nat) : Int) < s.pool; omega) HD.out)
    have HNONE := Lib.hid (dropS_none_at s n)
    have HINV := Lib.hid hI1
    have HCUR := Lib.hid hC1.drew
    have HFR : Hid (FrameAt w1.drew f n v l d) := Lib.hid (hF1.keep rfl (fun _ _ _ _ => rfl) (Nat.le_refl _))
    have HNN := Lib.hid hN
    clear hC1 hF1 hI1 hN hpool
    go_wp2
    go_region
    clear hlen hge hfull c4 c2
    have c4f : (w1.drew).drew.cell? ⟨g, 4, none⟩ = some (.map (some p1.gm)) := HCUR.out.pages.blk.cell 4
    have f0f : (w1.drew).drew.cell? ⟨f, 0, none⟩ = some (.int .i64 n) := HFR.out.blk.cell 0
    have hmf : MapIs (w1.drew).drew p1.gm p1.fm := HCUR.out.drew.pages.map
    obtain ⟨w8, hr8, hm8, hg8, hs8⟩ := hmf.update (P := Try.prog) (T := 67) (K := 3) (E := 73) Try.underlying67 Try.underlying3 n (.pointer (some ⟨f, 0, none⟩))
    have hH8 := HCUR.out.drew.pages.addKey n f v l d (HFR.out.keep rfl (fun _ _ _ _ => rfl) (Nat.le_refl _)) hm8 hg8
    have y5 : w8.cell? ⟨g, 5, none⟩ = some p1.vu := hH8.blk.cell 5
    have hfb8 : Blk w8 f 75 #[.int .i64 n, v, .bool d] := by
      have := (hH8.some_ n l d (by show (if n = n then _ else _) = _; rw [if_pos rfl])).2.blk
      simpa using this
    have y0 : w8.cell? ⟨f, 0, none⟩ = some (.int .i64 n) := hfb8.cell 0
    have z5 := hH8.blk.free 5
    have hlv : (dropS s n).used.length ≤ 1000000 := HINV.out.len
    obtain ⟨w9, hw9⟩ : ∃ w9, (w8.alloc (.cells #[.int .i64 n] 3)).drew = w9 := ⟨_, rfl⟩
    have hb9 : Below w8.heap.size w8 w9 := by rw [← hw9]; exact ((Below.refl _ _).alloc (Nat.le_refl _) _).drew
    have hINS := insert_any 0 p1.vu (dropS s n).used n w8.heap.size w9 (by rw [← hw9]; exact hH8.used.alloc _) (by rw [← hw9]; exact Blk.new w8 _ _) (fun e => by
      obtain ⟨cur', hb⟩ := row_block hH8.used e.symm
      have := heap_lt hb
      omega) hlv (Nat.zero_le _)
    have HINS : Hid (Calls Try.prog 42 #[p1.vu, .int .i64 0, .slice (some ⟨w8.heap.size, 0, none⟩) 1 1] ((w8.alloc (.cells #[.int .i64 n] 3)).drew) fun e w' => ∃ v', e = .returned v' ∧ Nums w' 0 v' (n :: (dropS s n).used) ∧ Grew w9 p1.vu w' v') := Lib.hid (by rw [hw9]; exact hINS)
    have HM8 := Lib.hid hm8
    have hltg : g < w8.heap.size := heap_lt hH8.blk
    have hltf : f < w8.heap.size := heap_lt hfb8
    have HG8 := Lib.hid hg8
    have HH8 := Lib.hid hH8
    have HFB8 := Lib.hid hfb8
    have HW9 := Lib.hid hw9
    have HB9 := Lib.hid hb9
    have n1 := World.new_ne w8 ⟨g, 5, none⟩ y5
    have n2 := World.new_ne w8 ⟨f, 0, none⟩ y0
    clear hltg hltf
    clear hINS hmf hm8 hg8 hs8 hH8 hlv hw9 hb9 hfb8
    go_wp2
    go_region
    go_wp2
    have y5a : (w8.alloc (.cells #[.int .i64 n] 3)).cell? ⟨g, 5, none⟩ = some p1.vu := (((Below.refl _ _).alloc (Nat.le_refl _) _).cell (p := ⟨g, 5, none⟩) (World.block_lt_of_cell? w8 _ y5)).trans y5
    clear n1 n2
    go_region_with (first | (go_at_call 42; refine HINS.out.mono ?_; rintro e w10 ⟨v10, rfl, hn10, hg10⟩; obtain ⟨A10, k10, hv10, _⟩ := ownsRow_shape hn10; obtain ⟨N10, hN10⟩ : ∃ N10, (n :: (dropS s n).used).length = N10 := ⟨_, rfl⟩; rw [hN10] at hv10; subst hv10; have HN10 := Lib.hid hN10; clear hN10; have z10 : w10.frozen? ⟨g, 5, none⟩ = false := (ins_keep HH8.out HB9.out hg10 z5).2; have y10 : w10.cell? ⟨g, 5, none⟩ = some p1.vu := (ins_keep HH8.out HB9.out hg10 z5).1; have x10 : w10.cell? ⟨f, 0, none⟩ = some (.int .i64 n) := (ins_keepF HH8.out HB9.out hg10 HFB8.out (by decide)).cell 0; have HN := Lib.hid hn10; have HGR := Lib.hid hg10; clear hn10 hg10))
    all_goals
      go_wp2
      go_ret
      obtain ⟨F', q1, q2, q3, q4⟩ := HCUR.out.drew.put HNONE.out (HFR.out.keep rfl (fun _ _ _ _ => rfl) (Nat.le_refl _)) HM8.out HG8.out HN.out (grew_trans_below HB9.out HGR.out)
      exact .inl ⟨rfl, _, _, F', HOUT.out, q1, q2, q3, q4⟩
end Go.Proofs.Ytkjbicenhncpeaa
