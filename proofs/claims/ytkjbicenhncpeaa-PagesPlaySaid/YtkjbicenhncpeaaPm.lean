/-
  pages: write, drop.
-/
import Derived.Test.YtkjbicenhncpeaaPl
import Derived.Deep.RegionHeld3
set_option linter.unusedVariables false
namespace Go.Proofs.Ytkjbicenhncpeaa
open Go.RowKit

/-- What is wanted of pages' area. -/
structure Area (s : PG) (ds : DS) : Prop where
  frm : 0 ≤ s.frm
  end_ : s.frm + 4 * s.is.length ≤ ds.size
  size : ds.size ≤ 65536
  pend : ds.pend.length ≤ 100000000
  fuse : ds.fuse ≤ 9223372036854775807
/-- What write answers of a frame. -/
def PWrote (g gd : Nat) (s : PG) (p : PP) (ds : DS) (D : Nat → Prop) (n : Int) (l : List Int) (w : World) (e : Ending) (w' : World) : Prop :=
  (e = .returned (.bool true) ∧ ∃ t D', W4 ds t (s.frm + 4 * n) l 4 ∧ PagesOf w' g gd { s with fr := fun k => if k = n then some (l, false) else s.fr k } p ∧ DiskAt w' gd t D' ∧ ¬ D' p.gm ∧ Chg w w' (fun k => FootP g s p k ∨ D k) ∧ ∀ k, D' k → D k ∨ w.heap.size ≤ k) ∨
  (e = .returned (.bool false) ∧ ¬ Healthy ds ∧ Dead g gd w (fun k => FootP g s p k ∨ D k) w')
theorem writeE_ok {t : DS} {n : Int} {l : List Int} (hd : t.down = false) (h0 : 0 ≤ n) (h1 : n < t.size) (hl : l.length = 256) (hf : t.fuse ≠ 0) : writeE t n l = (0, wroteS (burnS t) n l) := by
  unfold writeE
  rw [if_neg (by rw [hd]; decide), if_neg (by omega), if_neg hf]
theorem writeE_no {t : DS} {n : Int} {l : List Int} (h0 : 0 ≤ n) (h1 : n < t.size) (hl : l.length = 256) (hn : ¬ (t.down = false ∧ t.fuse ≠ 0)) : (writeE t n l).1 = 7 ∧ (writeE t n l).2.down = true := by
  unfold writeE
  by_cases hd : t.down = true
  · rw [if_pos hd]; exact ⟨rfl, hd⟩
  · have hf : t.fuse = 0 := by
      by_cases x : t.fuse = 0
      · exact x
      · exact absurd ⟨by simpa using hd, x⟩ hn
    rw [if_neg hd, if_neg (by omega), if_pos hf]
    refine ⟨rfl, ?_⟩
    unfold burnS
    rw [if_pos hf]
theorem W4.alive {ds t : DS} {a : Int} {l : List Int} {k : Nat} (h : W4 ds t a l k) (hn : ¬ (t.down = false ∧ t.fuse ≠ 0)) : ¬ Healthy ds := fun hh => by
  have := h.ok hh
  unfold Healthy at this
  exact hn ⟨this.1, by omega⟩
theorem DiskAt.cellsKeep {w w' : World} {gd : Nat} {ds : DS} {D : Nat → Prop} (h : DiskAt w gd ds D) (hc : Chg w w' D) {k : Nat} {t : TypeId} {cs : Array Value} (hb : Blk w k t cs) (ht : Free t) : Blk w' k t cs :=
  (hc.block k hb.lt fun hd => h.notT k cs t (0, 0) ht hd hb).trans hb
/-- A page's own cell was written. -/
theorem DiskAt.setOwn {w : World} {gd : Nat} {ds : DS} {D : Nat → Prop} (h : DiskAt w gd ds D) {k : Nat} {t : TypeId} {cs : Array Value} (hb : Blk w k t cs) (ht : Free t) (hn : t ≠ 5) (i : Nat) (u : Value) : DiskAt (w.setCell ⟨k, i, none⟩ u) gd ds D :=
  h.chg (Chg.setCell w ⟨k, i, none⟩ u) (fun j hj e => by
    have e : j = k := e
    subst e
    exact h.notT j cs t (0, 0) ht hj hb) (fun j cur mk e hj => by
    have e : j = k := e
    subst e
    exact ne_types hj hb (fun x => hn x.symm) rfl)
theorem free_pages : Free 69 := ⟨by decide, by decide⟩
theorem free_frame : Free 75 := ⟨by decide, by decide⟩
theorem free_state : Free 70 := ⟨by decide, by decide⟩

set_option maxHeartbeats 4000000 in
set_option maxRecDepth 20000 in
theorem pwrite_any (g gd : Nat) (s : PG) (p : PP) (ds : DS) (D : Nat → Prop) (n : Int) (l : List Int) (d : Bool) (w : World) (h1 : PagesOf w g gd s p) (h2 : DiskAt w gd ds D) (h3 : ¬ D p.gm) (hs : s.fr n = some (l, d)) (hn0 : 0 ≤ n) (hn1 : n < s.is.length) (ha : Area s ds) :
    Calls Try.prog 34 #[.pointer (some ⟨g, 0, none⟩), .pointer (some ⟨p.fb n, 0, none⟩)] w (PWrote g gd s p ds D n l w) := by
  obtain ⟨f1, f2⟩ := h1.some_ n l d hs
  obtain ⟨f, hf⟩ : ∃ f, p.fb n = f := ⟨_, rfl⟩
  rw [hf] at f2 ⊢
  have hrow := f2.row
  obtain ⟨b, off, c, cur, mk, ev, hb, hc1, hc2, hcc, hl, ho⟩ := hrow
  obtain ⟨N, hN⟩ : ∃ N, N = 1024 := ⟨_, rfl⟩
  rw [← hN] at ev
  obtain ⟨a1, a2, a3, a4, a5⟩ := ha
  have HS := Lib.hid hs
  have H1 := Lib.hid h1
  have H2 := Lib.hid h2
  have H3 := Lib.hid h3
  have HF := Lib.hid hf
  have HV := Lib.hid ev
  have HO := Lib.hid ho
  have HLEN := Lib.hid hl
  have HN := Lib.hid hN
  clear hs h1 h2 h3 f1 f2 hb hcc ev hl hf ho hN
  unfold maxLen at hc2
  go_enter Try.func34, Try.ntmps34
  go_wp2
  go_loopw [6] (fun vi wr => ∃ (k : Nat) (t : DS) (D' : Nat → Prop), vi = .int .i64 k ∧ k ≤ 4 ∧ Hid (W4 ds t (s.frm + 4 * n) l k) ∧ PagesOf wr g gd s p ∧ DiskAt wr gd t D' ∧ ¬ D' p.gm ∧ Chg w wr D ∧ ∀ k, D' k → D k ∨ w.heap.size ≤ k) (fun vi _ => 4 - (RowKit.intOf vi).toNat)
  case atStart => exact ⟨0, ds, D, rfl, Nat.zero_le _, Lib.hid (W4.start _ _ _), H1.out, H2.out, H3.out, Chg.refl _ _, fun k hk => .inl hk⟩
  case round =>
    obtain ⟨k, t, D', rfl, hk4, HW, hP, hD, hDm, hC, hD'⟩ := hrel
    by_cases hlt : k < 4
    · have hkI : (k : Int) < 4 := by omega
      obtain ⟨f1, f2⟩ := hP.some_ n l d HS.out
      have y0 : wr.cell? ⟨g, 0, none⟩ = some (.pointer (some ⟨gd, 0, none⟩)) := hP.blk.cell 0
      have y1 : wr.cell? ⟨g, 1, none⟩ = some (.int .i64 s.frm) := hP.blk.cell 1
      have z0 : wr.cell? ⟨f, 0, none⟩ = some (.int .i64 n) := by rw [← HF.out]; exact f2.blk.cell 0
      have z1 : wr.cell? ⟨f, 1, none⟩ = some (.slice (some ⟨b, off, none⟩) N c) := by rw [← HF.out, ← HV.out]; exact f2.blk.cell 1
      obtain ⟨hsec, _⟩ := PageB.sec (N := N) (by rw [← HV.out]; exact f2.row) k hlt
      obtain ⟨lo, hlo⟩ : ∃ lo, k * 256 = lo := ⟨_, rfl⟩
      obtain ⟨hi, hhi⟩ : ∃ hi, (k + 1) * 256 = hi := ⟨_, rfl⟩
      rw [hlo] at hsec
      obtain ⟨q, hq⟩ : ∃ q, s.frm + 4 * n + (k : Int) = q := ⟨_, rfl⟩
      obtain ⟨m, hm⟩ : ∃ m, s.frm + 4 * n = m := ⟨_, rfl⟩
      have w1 : IntKind.i64.wrap (4 * n) = 4 * n := by rw [IntKind.wrap_i64]; omega
      have w2 : IntKind.i64.wrap (s.frm + 4 * n) = m := by rw [IntKind.wrap_i64]; omega
      have w3 : IntKind.i64.wrap (m + (k : Int)) = q := by rw [IntKind.wrap_i64]; omega
      have w4 : IntKind.i64.wrap ((k : Int) * 256) = (lo : Int) := by rw [IntKind.wrap_i64]; omega
      have w5 : IntKind.i64.wrap ((k : Int) + 1) = (k : Int) + 1 := by rw [IntKind.wrap_i64]; omega
      have w6 : IntKind.i64.wrap (((k : Int) + 1) * 256) = (hi : Int) := by rw [IntKind.wrap_i64]; omega
      have g1 : (lo : Int) ≤ (hi : Int) := by omega
      have g2 : (hi : Int) ≤ (c : Int) := by omega
      have g3 : ¬ c = lo := by omega
      have g4 : ¬ lo = c := by omega
      have g5 : lo ≤ hi := by omega
      have g6 : hi ≤ c := by omega
      have g7 : (0 : Int) ≤ (lo : Int) := by omega
      have g8 : (lo : Int) ≤ (c : Int) := by omega
      have g9 : hi ≤ N ∨ True := .inr trivial
      have hsl := secP_len HLEN.out hlt
      have hlh : (secP l k).length = hi - lo := by omega
      have hso := secP_oct HO.out k
      have hq0 : 0 ≤ q := by omega
      have hq1 : q < t.size := by rw [HW.out.size]; omega
      have hst := HW.out.step
      rw [hq] at hst
      have hwr := write_w gd t D' q (some ⟨b, off + lo, none⟩) (secP l k) (c - lo) wr.drew hD.drewD (Int.le_trans HW.out.fuse a5) hsec hso (by rw [HW.out.pend]; omega) (by omega)
      rw [hlh] at hwr
      have HST := Lib.hid hst
      have HQ := Lib.hid hq
      have HM := Lib.hid hm
      have HLO := Lib.hid hlo
      have HHI := Lib.hid hhi
      have HSL := Lib.hid hsl
      have HQ0 := Lib.hid hq0
      have HQ1 := Lib.hid hq1
      clear hst hq hm hlo hhi hsl hlh hso hsec f1 hq0 hq1
      by_cases hal : t.down = false ∧ t.fuse ≠ 0
      · have he := writeE_ok (n := q) (l := secP l k) hal.1 HQ0.out HQ1.out HSL.out hal.2
        rw [he] at hwr
        have HWR : Hid (Calls Try.prog 46 #[.pointer (some ⟨gd, 0, none⟩), .int .i64 q, .slice (some ⟨b, off + lo, none⟩) (hi - lo) (c - lo)] wr.drew fun e w' => e = .returned (.int .i64 0) ∧ OnD gd wr.drew D' (wroteS (burnS t) q (secP l k)) w') := Lib.hid hwr
        clear hwr he
        have HP := Lib.hid hP
        have HD := Lib.hid hD
        have HDM := Lib.hid hDm
        have HC := Lib.hid hC
        have HDD := Lib.hid hD'
        have HF2 := Lib.hid f2
        clear hP hD hDm hC hD' hal f2
        go_wp2
        go_region_held3 (fun w' => w'.cell? ⟨g, 0, none⟩ = some (.pointer (some ⟨gd, 0, none⟩)) ∧ w'.cell? ⟨g, 1, none⟩ = some (.int .i64 s.frm) ∧ w'.cell? ⟨f, 0, none⟩ = some (.int .i64 n) ∧ w'.cell? ⟨f, 1, none⟩ = some (.slice (some ⟨b, off, none⟩) N c)) (go_keep)
          (first
            | (go_at_call 46; refine HWR.out.mono ?_; rintro e w5 ⟨rfl, ho5⟩; have hx5 := (show PagesOf wr.drew g gd s p from HP.out.drewP).onDisk HD.out.drewD HDM.out ho5; obtain ⟨f51, f52⟩ := hx5.1.some_ n l d HS.out; have y50 : w5.cell? ⟨g, 0, none⟩ = some (.pointer (some ⟨gd, 0, none⟩)) := hx5.1.blk.cell 0; have y51 : w5.cell? ⟨g, 1, none⟩ = some (.int .i64 s.frm) := hx5.1.blk.cell 1; have z50 : w5.cell? ⟨f, 0, none⟩ = some (.int .i64 n) := (by rw [← HF.out]; exact f52.blk.cell 0); have z51 : w5.cell? ⟨f, 1, none⟩ = some (.slice (some ⟨b, off, none⟩) N c) := (by rw [← HF.out, ← HV.out]; exact f52.blk.cell 1)))
        all_goals
          obtain ⟨k1, D2, k2, k3, k4, k5⟩ := hx5
          clear f51 f52 y50 y51 z50 z51 ho5
          go_wp2
          go_roundw
          case rel =>
            refine ⟨k + 1, _, D2, by go_num, by omega, Lib.hid HST.out, k1, k2, k3, (HC.out.trans (Chg.drew wr D') (fun i hi => HDD.out i hi)).trans k4 (fun i hi => HDD.out i hi), fun i hi => ?_⟩
            rcases k5 i hi with x | x
            · exact HDD.out i x
            · exact .inr (Nat.le_trans HC.out.size x)
          case measure => simp [RowKit.intOf]; omega
      · obtain ⟨he1, he2⟩ := writeE_no (n := q) (l := secP l k) HQ0.out HQ1.out HSL.out hal
        rw [he1] at hwr
        obtain ⟨t2, ht2⟩ : ∃ t2, (writeE t q (secP l k)).2 = t2 := ⟨_, rfl⟩
        rw [ht2] at hwr he2
        have HWR : Hid (Calls Try.prog 46 #[.pointer (some ⟨gd, 0, none⟩), .int .i64 q, .slice (some ⟨b, off + lo, none⟩) (hi - lo) (c - lo)] wr.drew fun e w' => e = .returned (.int .i64 7) ∧ OnD gd wr.drew D' t2 w') := Lib.hid hwr
        have HNH := Lib.hid (HW.out.alive hal)
        have HE2 := Lib.hid he2
        clear hwr he1 he2 ht2
        have HP := Lib.hid hP
        have HD := Lib.hid hD
        have HDM := Lib.hid hDm
        have HC := Lib.hid hC
        have HDD := Lib.hid hD'
        clear hP hD hDm hC hD' hal f2
        go_wp2
        go_region_held3 (fun w' => w'.cell? ⟨g, 0, none⟩ = some (.pointer (some ⟨gd, 0, none⟩)) ∧ w'.cell? ⟨g, 1, none⟩ = some (.int .i64 s.frm) ∧ w'.cell? ⟨f, 0, none⟩ = some (.int .i64 n) ∧ w'.cell? ⟨f, 1, none⟩ = some (.slice (some ⟨b, off, none⟩) N c)) (go_keep)
          (first
            | (go_at_call 46; refine HWR.out.mono ?_; rintro e w5 ⟨rfl, ho5⟩; have hx5 := (show PagesOf wr.drew g gd s p from HP.out.drewP).onDisk HD.out.drewD HDM.out ho5; obtain ⟨f51, f52⟩ := hx5.1.some_ n l d HS.out; have y50 : w5.cell? ⟨g, 0, none⟩ = some (.pointer (some ⟨gd, 0, none⟩)) := hx5.1.blk.cell 0; have y51 : w5.cell? ⟨g, 1, none⟩ = some (.int .i64 s.frm) := hx5.1.blk.cell 1; have z50 : w5.cell? ⟨f, 0, none⟩ = some (.int .i64 n) := (by rw [← HF.out]; exact f52.blk.cell 0); have z51 : w5.cell? ⟨f, 1, none⟩ = some (.slice (some ⟨b, off, none⟩) N c) := (by rw [← HF.out, ← HV.out]; exact f52.blk.cell 1)))
        all_goals
          obtain ⟨k1, D2, k2, k3, k4, k5⟩ := hx5
          clear f51 f52 y50 y51 z50 z51 ho5
          have x6 := k1.alive
          have z6 := k1.blk.free 6
          go_wp2
          go_ret
          have hC2 : Chg w w5 D := (HC.out.trans (Chg.drew wr D') (fun i hi => HDD.out i hi)).trans k4 (fun i hi => HDD.out i hi)
          have hb6 := k1.blk.set_ 6 (.bool true)
          refine .inr ⟨rfl, HNH.out, hb6.cell 6, .inl (.inl rfl), ⟨t2, D2, k2.setOwn k1.blk free_pages (by decide) 6 _, HE2.out, k1.notD k2 k3 g (.inl rfl), fun i hi => ?_⟩, ?_⟩
          · rcases k5 i hi with x | x
            · rcases HDD.out i x with y | y
              · exact .inl (.inr y)
              · exact .inr y
            · exact .inr (Nat.le_trans HC.out.size x)
          · exact (hC2.mono fun i _ hi => .inr hi).trans (Chg.setCell w5 ⟨g, 6, none⟩ _) (fun i hi => .inl (.inl (.inl hi)))
    · obtain rfl : k = 4 := by omega
      obtain ⟨f1, f2⟩ := hP.some_ n l d HS.out
      have f2b := f2.blk
      rw [HF.out] at f2b
      have z2 : wr.cell? ⟨f, 2, none⟩ = some (.bool d) := f2b.cell 2
      have fz2 := f2b.free 2
      have hset := hP.setDirty HS.out false
      have hdset := hD.setOwn f2.blk free_frame (by decide) 2 (.bool false)
      rw [HF.out] at hset hdset
      have HSE := Lib.hid hset
      have HDS := Lib.hid hdset
      have HDM := Lib.hid hDm
      have HC := Lib.hid hC
      have HDD := Lib.hid hD'
      clear hset hdset hP hD f1 f2 f2b hDm hC hD'
      go_wp2
      go_ret
      refine .inl ⟨rfl, t, D', HW.out, HSE.out, HDS.out, HDM.out, (HC.out.mono fun i _ hi => .inr hi).trans (Chg.setCell wr ⟨f, 2, none⟩ _) (fun i hi => .inl (.inl (.inr (.inr (.inr (.inr ⟨n, by rw [HS.out]; simp, by rw [HF.out]; exact hi.symm⟩)))))), HDD.out⟩
end Go.Proofs.Ytkjbicenhncpeaa
