/-
  The reference's Open, where nothing is held.
-/
import Derived.Test.YtkjbicenhncpeaaPv
set_option linter.unusedVariables false
namespace Go.Proofs.Ytkjbicenhncpeaa
open Go.RowKit

theorem make_ints (k : Nat) (hk : k ≤ 100000000) (w : World) : (Instr.makeSlice 30 (.int .i64 k) (.int .i64 k)).run Try.prog w = .ok (.slice (some ⟨w.heap.size, 0, none⟩) k k) (w.alloc (.cells (Array.replicate k (.int .i64 0)) 3)) := by
  obtain ⟨i0, hi, hz0, hz1, hz2⟩ := info_parts info_int
  have h := run_make (P := Try.prog) w 30 3 i0 (.int .i64 0) Try.underlying30 hi hz0 .i64 .i64 k k (by omega) (Int.le_refl _) (by rw [hz2]; omega) (by omega)
  have e3 : (Value.int .i64 0).cells = #[.int .i64 0] := rfl
  rw [Int.toNat_natCast, e3, hz1, Nat.mul_one, madeCells_one] at h
  have e4 : (List.replicate k (Value.int .i64 0)).toArray = Array.replicate k (.int .i64 0) := by simp
  rw [e4] at h
  exact h
theorem info_rows : (Try.prog.info? 37).map (fun i => (i.zero, i.size, i.bytes)) = some (some (.slice none 0 0), 1, 24) := by kernel_rfl
theorem make_rows (k : Nat) (hk : k ≤ 100000000) (w : World) : (Instr.makeSlice 52 (.int .i64 k) (.int .i64 k)).run Try.prog w = .ok (.slice (some ⟨w.heap.size, 0, none⟩) k k) (w.alloc (.cells (Array.replicate k (.slice none 0 0)) 37)) := by
  obtain ⟨i0, hi, hz0, hz1, hz2⟩ := info_parts info_rows
  have h := run_make (P := Try.prog) w 52 37 i0 (.slice none 0 0) Try.underlying52 hi hz0 .i64 .i64 k k (by omega) (Int.le_refl _) (by rw [hz2]; omega) (by omega)
  have e3 : (Value.slice none 0 0).cells = #[.slice none 0 0] := rfl
  rw [Int.toNat_natCast, e3, hz1, Nat.mul_one, madeCells_one] at h
  have e4 : (List.replicate k (Value.slice none 0 0)).toArray = Array.replicate k (.slice none 0 0) := by simp
  rw [e4] at h
  exact h
/-- The reference's pages, the first k of them laid. -/
structure RefK (w : World) (g : Nat) (count : Nat) (q : RPp) (k : Nat) : Prop where
  blk : Blk w g 54 #[.slice (some ⟨q.gi, 0, none⟩) count count, .slice (some ⟨q.gb, 0, none⟩) count count]
  row : Blk w q.gi 3 (Array.replicate count (.int .i64 0))
  rows : Blk w q.gb 37 q.vs.toArray
  vlen : q.vs.length = count
  at_ : ∀ (j : Nat) (v : Value), j < k → q.vs[j]? = some v → PageB w v zeroPage
theorem RefK.ref {w : World} {g count : Nat} {q : RPp} (h : RefK w g count q count) : RefOf w g ⟨List.replicate count 0, List.replicate count zeroPage⟩ q where
  blk := by simpa using h.blk
  row := by
    have := h.row
    simpa [I64] using this
  rows := h.rows
  vlen := by rw [h.vlen]; simp
  blen := by simp
  at_ := fun k v l h1 h2 => by
    have hk : k < count := by have := (List.getElem?_eq_some_iff.1 h1).1; have := h.vlen; omega
    have : l = zeroPage := by
      have h2 : (List.replicate count zeroPage)[k]? = some l := h2
      rw [List.getElem?_replicate, if_pos hk] at h2
      injection h2 with h2
      exact h2.symm
    rw [this]
    exact h.at_ k v hk h1
theorem RefK.below {w w' : World} {g count : Nat} {q : RPp} {k : Nat} (h : RefK w g count q k) (hb : Below w.heap.size w w') : RefK w' g count q k where
  blk := (hb.block _ (heap_lt h.blk)).trans h.blk
  row := (hb.block _ (heap_lt h.row)).trans h.row
  rows := (hb.block _ (heap_lt h.rows)).trans h.rows
  vlen := h.vlen
  at_ := fun j v h1 h2 => (h.at_ j v h1 h2).keep (BKA.of_below hb).b hb.size
theorem RefK.set_ {w : World} {g count : Nat} {q : RPp} {k : Nat} (h : RefK w g count q k) {v : Value} (hp : PageB w v zeroPage) : RefK (w.setCell ⟨q.gb, k, none⟩ v) g count ⟨q.gi, q.gb, q.vs.set k v⟩ (k + 1) := by
  have h2 : BK w (w.setCell ⟨q.gb, k, none⟩ v) := fun j cur mk hj => Below.heap_setCell w ⟨q.gb, k, none⟩ v j (ne_types hj h.rows (by decide))
  have h3 : w.heap.size ≤ (w.setCell ⟨q.gb, k, none⟩ v).heap.size := by simp [World.setCell]
  refine ⟨(Below.heap_setCell w ⟨q.gb, k, none⟩ v g (ne_types h.blk h.rows (by decide))).trans h.blk, (Below.heap_setCell w ⟨q.gb, k, none⟩ v q.gi (ne_types h.row h.rows (by decide))).trans h.row, ?_, by simp only [List.length_set]; exact h.vlen, fun j u hj hu => ?_⟩
  · have := h.rows.set_ k v
    unfold Blk at this ⊢
    rw [this]
    simp [List.setIfInBounds_toArray]
  · have hu : (q.vs.set k v)[j]? = some u := hu
    rw [List.getElem?_set] at hu
    by_cases e : k = j
    · rw [if_pos e] at hu
      split at hu
      · injection hu with hu
        subst hu
        exact hp.keep h2 h3
      · cases hu
    · rw [if_neg e] at hu
      exact (h.at_ j u (by omega) hu).keep h2 h3
theorem refK_new (w : World) (g gi gb : Nat) (count : Nat) (h1 : Blk w g 54 #[.slice (some ⟨gi, 0, none⟩) count count, .slice (some ⟨gb, 0, none⟩) count count]) (h2 : Blk w gi 3 (Array.replicate count (.int .i64 0))) (h3 : Blk w gb 37 (Array.replicate count (.slice none 0 0))) : RefK w g count ⟨gi, gb, List.replicate count (.slice none 0 0)⟩ 0 :=
  ⟨h1, h2, by simpa using h3, by simp, fun j v hj => absurd hj (by omega)⟩

theorem alloc3 (w : World) (a b c : Array Value) (ta tb tc : TypeId) : Blk (((w.alloc (.cells a ta)).alloc (.cells b tb)).alloc (.cells c tc)).drew w.heap.size ta a ∧ Blk (((w.alloc (.cells a ta)).alloc (.cells b tb)).alloc (.cells c tc)).drew (w.heap.size + 1) tb b ∧ Blk (((w.alloc (.cells a ta)).alloc (.cells b tb)).alloc (.cells c tc)).drew (w.heap.size + 1 + 1) tc c ∧ Below w.heap.size w (((w.alloc (.cells a ta)).alloc (.cells b tb)).alloc (.cells c tc)).drew := by
  refine ⟨?_, ?_, ?_, ((((Below.refl _ _).alloc (Nat.le_refl _) _).alloc (by simp) _).alloc (by simp; omega) _).drew⟩
  · have h : Blk (w.alloc (.cells a ta)) w.heap.size ta a := Blk.new w _ _
    show ((((w.alloc (.cells a ta)).alloc (.cells b tb)).alloc (.cells c tc))).heap[w.heap.size]? = _
    rw [Below.heap_alloc _ _ _ (by simp; omega), Below.heap_alloc _ _ _ (by simp)]
    exact h
  · have h := Blk.new (w.alloc (.cells a ta)) tb b
    rw [World.size_alloc] at h
    show ((((w.alloc (.cells a ta)).alloc (.cells b tb)).alloc (.cells c tc))).heap[w.heap.size + 1]? = _
    rw [Below.heap_alloc _ _ _ (by simp)]
    exact h
  · have h := Blk.new ((w.alloc (.cells a ta)).alloc (.cells b tb)) tc c
    rw [World.size_alloc, World.size_alloc] at h
    exact h

set_option maxHeartbeats 8000000 in
set_option maxRecDepth 20000 in
theorem ropen_any (frm pool size : Int) (count : Nat) (w : World) (h0 : 0 ≤ frm) (hp1 : 1 ≤ pool) (he : frm + 4 * (count : Int) ≤ size) (hs : size ≤ 65536) :
    Calls Try.prog 21 #[.int .i64 size, .int .i64 frm, .int .i64 count, .int .i64 pool, .slice none 0 0] w fun e w' => ∃ g R, e = .returned (.pointer (some ⟨g, 0, none⟩)) ∧ RefAt w' g ⟨List.replicate count 0, List.replicate count zeroPage⟩ R ∧ (∀ k, R k → w.heap.size ≤ k) ∧ Below w.heap.size w w' := by
  have hmi := make_ints count (by omega)
  have hmr := make_rows count (by omega)
  obtain ⟨N, hN⟩ : ∃ N : Nat, N = 1024 := ⟨_, rfl⟩
  have hmk : ∀ w, (Instr.makeSlice 37 (.int .i64 1024) (.int .i64 1024)).run Try.prog w = .ok (.slice (some ⟨w.heap.size, 0, none⟩) N N) (w.alloc (.cells (U8 zeroPage).toArray 5)) := by rw [hN]; exact makePage
  have HN := Lib.hid hN
  obtain ⟨M, hM⟩ : ∃ M, size - frm = M := ⟨_, rfl⟩
  have w1 : IntKind.i64.wrap (size - frm) = M := by rw [IntKind.wrap_i64]; omega
  obtain ⟨Q, hQ⟩ : ∃ Q, M.tdiv 4 = Q := ⟨_, rfl⟩
  have hQe : Q = M / 4 := by rw [← hQ]; exact Int.tdiv_eq_ediv_of_nonneg (by omega)
  have w2 : IntKind.i64.wrap Q = Q := by rw [IntKind.wrap_i64]; omega
  have g1 : ¬ frm < 0 := by omega
  have g2 : ¬ (count : Int) < 0 := by omega
  have g3 : ¬ pool < 1 := by omega
  have g4 : ¬ frm > size := by omega
  have g5 : ¬ (count : Int) > Q := by omega
  have hcb : count ≤ 20000 := by omega
  clear hQe HN
  go_enter Try.func21, Try.ntmps21
  go_upto_region 3 with fail
  go_cut [11] (fun s11 wx => ∃ g q, s11 = .pointer (some ⟨g, 0, none⟩) ∧ RefK wx g count q 0 ∧ (w.heap.size ≤ g ∧ w.heap.size ≤ q.gi ∧ w.heap.size ≤ q.gb) ∧ Below w.heap.size w wx)
  case first =>
    go_region
    · go_wp2_with fail
      go_meet
      obtain ⟨k1, k2, k3, k4⟩ := alloc3 w (Array.replicate count (.int .i64 0)) (Array.replicate count (.slice none 0 0)) #[.slice (some ⟨w.heap.size, 0, none⟩) count count, .slice (some ⟨w.heap.size + 1, 0, none⟩) count count] 3 37 54
      exact ⟨w.heap.size + 1 + 1, ⟨w.heap.size, w.heap.size + 1, List.replicate count (.slice none 0 0)⟩, rfl, refK_new _ _ _ _ _ k3 k1 k2, ⟨by omega, Nat.le_refl _, by show w.heap.size ≤ w.heap.size + 1; omega⟩, k4⟩
    · go_wp2_with fail
      go_meet
      obtain ⟨k1, k2, k3, k4⟩ := alloc3 w (Array.replicate count (.slice none 0 0)) (Array.replicate count (.int .i64 0)) #[.slice (some ⟨w.heap.size + 1, 0, none⟩) count count, .slice (some ⟨w.heap.size, 0, none⟩) count count] 37 3 54
      exact ⟨w.heap.size + 1 + 1, ⟨w.heap.size + 1, w.heap.size, List.replicate count (.slice none 0 0)⟩, rfl, refK_new _ _ _ _ _ k3 k2 k1, ⟨by omega, by show w.heap.size ≤ w.heap.size + 1; omega, Nat.le_refl _⟩, k4⟩
  case rest =>
    obtain ⟨g, q, rfl, hK, hlo, hB⟩ := hcut
    have HLO := Lib.hid hlo
    clear hlo
    go_wp2
    go_loopw [12] (fun vi wr => ∃ (k : Nat) (vs : List Value), vi = .int .i64 k ∧ k ≤ count ∧ RefK wr g count ⟨q.gi, q.gb, vs⟩ k ∧ Below w.heap.size w wr) (fun vi _ => count - (RowKit.intOf vi).toNat)
    case atStart => exact ⟨0, q.vs, rfl, Nat.zero_le _, hK, hB⟩
    case round =>
      obtain ⟨k, vs, rfl, hk, hR, hBr⟩ := hrel
      by_cases hlt : k < count
      · have hkI : (k : Int) < (count : Int) := by omega
        obtain ⟨u, hu⟩ : ∃ u, vs[k]? = some u := ⟨_, List.getElem?_eq_getElem (by have := hR.vlen; simp only at this; omega)⟩
        have hB2 : Below wr.heap.size wr (wr.alloc (.cells (U8 zeroPage).toArray 5)) := (Below.refl _ _).alloc (Nat.le_refl _) _
        have hR2 := hR.below hB2
        have e0 : wr.cell? ⟨g, 1, none⟩ = some (.slice (some ⟨q.gb, 0, none⟩) count count) := hR.blk.cell 1
        have e1 : wr.drew.cell? ⟨g, 1, none⟩ = some (.slice (some ⟨q.gb, 0, none⟩) count count) := e0
        have e2 : (wr.alloc (.cells (U8 zeroPage).toArray 5)).cell? ⟨g, 1, none⟩ = some (.slice (some ⟨q.gb, 0, none⟩) count count) := hR2.blk.cell 1
        have e3 : (wr.alloc (.cells (U8 zeroPage).toArray 5)).cell? ⟨q.gb, k, none⟩ = some u := by
          have := hR2.rows.cell k
          rw [this]; simpa using hu
        have z3 : (wr.alloc (.cells (U8 zeroPage).toArray 5)).frozen? ⟨q.gb, k, none⟩ = false := hR2.rows.free k
        have hpg : PageB (wr.alloc (.cells (U8 zeroPage).toArray 5)) (.slice (some ⟨wr.heap.size, 0, none⟩) N N) zeroPage := by
          rw [hN]
          have hb : Blk (wr.alloc (.cells (U8 zeroPage).toArray 5)) wr.heap.size 5 (U8 zeroPage).toArray := Blk.new wr _ _
          have ho := own_blk (base := 0) hb (Nat.zero_le _) (by rw [zeroPage_len]; decide)
          rw [zeroPage_len] at ho
          exact own_page ho zeroPage_len zeroPage_oct
        have hfin := (hR2.set_ hpg).below (Below.refl _ _).drew
        have hBf : Below w.heap.size w ((wr.alloc (.cells (U8 zeroPage).toArray 5)).setCell ⟨q.gb, k, none⟩ (.slice (some ⟨wr.heap.size, 0, none⟩) N N)).drew := ((hBr.trans (hB2.mono hBr.size)).setCell (p := ⟨q.gb, k, none⟩) HLO.out.2.2 _).drew
        have HF := Lib.hid hfin
        have HB := Lib.hid hBf
        have HN := Lib.hid hN
        clear hfin hBf hpg hR2 hB2 hu hR hBr hN hK hB
        go_wp2
        go_region
        go_wp2
        go_roundw
        case rel => exact ⟨k + 1, _, by go_num, by omega, HF.out, HB.out⟩
        case measure => simp [RowKit.intOf]; omega
      · have hkI : ¬ (k : Int) < (count : Int) := by omega
        obtain rfl : k = count := by omega
        have HR := Lib.hid hR
        have HB := Lib.hid hBr
        clear hR hBr hK hB
        go_wp2
        go_loopw [13] (fun vi wz => vi = .int .i64 0 ∧ wr = wz) (fun _ _ => 0)
        case atStart => exact ⟨rfl, rfl⟩
        case round =>
          obtain ⟨rfl, rfl⟩ := hrel
          go_wp2
          go_ret
          refine ⟨g, FootR g ⟨q.gi, q.gb, vs⟩, rfl, ⟨_, HR.out.ref, fun _ => Iff.rfl⟩, fun j hj => ?_, HB.out⟩
          rcases hj with rfl | rfl | rfl
          · exact HLO.out.1
          · exact HLO.out.2.1
          · exact HLO.out.2.2
end Go.Proofs.Ytkjbicenhncpeaa
