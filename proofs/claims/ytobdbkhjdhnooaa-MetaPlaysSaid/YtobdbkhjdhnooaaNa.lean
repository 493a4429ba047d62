/-
  The reference's heads: munimentref04.Big, munimentref08.Sector, munimentref08.Read.
-/
import Derived.Test.YtobdbkhjdhnooaaMa
import Derived.RegionTactic
import Derived.Deep.RegionLaw
set_option linter.unusedVariables false
namespace Go.Proofs.Ytobdbkhjdhnooaa
open Go.RowKit

set_option maxHeartbeats 1000000 in
theorem big_any (x : Int) (w : World) (h0 : 0 ≤ x) (h1 : x ≤ 18446744073709551615) :
    Calls Try.prog 43 #[.int .u64 x] w fun e w' => e = .returned (.slice (some ⟨w.heap.size, 0, none⟩) 8 8) ∧ w' = w.alloc (.cells (U8 (be64 x)).toArray 5) := by
  have hmk : ∀ w, (Instr.makeSlice 28 (.int .i64 8) (.int .i64 8)).run Try.prog w = .ok (.slice (some ⟨w.heap.size, 0, none⟩) 8 8) (w.alloc (.cells #[.int .u8 0, .int .u8 0, .int .u8 0, .int .u8 0, .int .u8 0, .int .u8 0, .int .u8 0, .int .u8 0] 5)) := fun _ => by kernel_rfl
  have hbe : (U8 (be64 x)).toArray = #[Value.int IntKind.u8 (x / 256 / 256 / 256 / 256 / 256 / 256 / 256 % 256), Value.int IntKind.u8 (x / 256 / 256 / 256 / 256 / 256 / 256 % 256), Value.int IntKind.u8 (x / 256 / 256 / 256 / 256 / 256 % 256), Value.int IntKind.u8 (x / 256 / 256 / 256 / 256 % 256), Value.int IntKind.u8 (x / 256 / 256 / 256 % 256), Value.int IntKind.u8 (x / 256 / 256 % 256), Value.int IntKind.u8 (x / 256 % 256), Value.int IntKind.u8 (x % 256)] := by
    have e7 : x / 72057594037927936 = x / 256 / 256 / 256 / 256 / 256 / 256 / 256 := by omega
    have e6 : x / 281474976710656 = x / 256 / 256 / 256 / 256 / 256 / 256 := by omega
    have e5 : x / 1099511627776 = x / 256 / 256 / 256 / 256 / 256 := by omega
    have e4 : x / 4294967296 = x / 256 / 256 / 256 / 256 := by omega
    have e3 : x / 16777216 = x / 256 / 256 / 256 := by omega
    have e2 : x / 65536 = x / 256 / 256 := by omega
    simp only [be64, U8, List.map_cons, List.map_nil, e7, e6, e5, e4, e3, e2]
  have H := Lib.hid hbe; clear hbe
  go_enter Try.func43, Try.ntmps43
  go_wp2
  refine wp_loop_rounds 9 ?_
  iterate 9 (rw [rounds_succ]; go_wp2)
  go_ret
  exact ⟨rfl, by rw [H.out]⟩

set_option maxRecDepth 8000 in
set_option maxHeartbeats 4000000 in
theorem rsector_any (G : Int) (A : Option Addr) (p : List Int) (c : Nat) (w : World) (h0 : 0 ≤ G) (h1 : G ≤ 18446744073709551615) (hp : p.length ≤ 247) (hc : Cells w w.heap.size A (U8 p)) :
    Calls Try.prog 35 #[.agg #[.int .u64 G, .slice A p.length c]] w fun e w' => ∃ v, e = .returned v ∧ Own w' w.heap.size v (secH G p) ∧ Below w.heap.size w w' := by
  have hx0 : Blk (w.alloc (.cells #[.int .u64 G, .slice A p.length c] 44)) w.heap.size 44 #[.int .u64 G, .slice A p.length c] := Blk.new w _ _
  have hb0 : Below w.heap.size w (w.alloc (.cells #[.int .u64 G, .slice A p.length c] 44)) := (Below.refl _ _).alloc (Nat.le_refl _) _
  have HC := Lib.hid (big_any G (w.alloc (.cells #[.int .u64 G, .slice A p.length c] 44)) h0 h1)
  have hs0 : (w.alloc (.cells #[.int .u64 G, .slice A p.length c] 44)).heap.size = w.heap.size + 1 := World.size_alloc _ _
  have HS0 := Lib.hid hs0
  clear hs0
  go_enter Try.func35, Try.ntmps35
  go_wp2_with fail
  refine HC.out.mono ?_
  clear HC
  generalize w.alloc (.cells #[.int .u64 G, .slice A p.length c] 44) = W0 at *
  rintro e w1 ⟨rfl, rfl⟩
  have hown1 := own_row W0 (w.heap.size + 1) (be64 G) (by rw [HS0.out]; exact Nat.le_refl _) (by rw [be64_len]; decide)
  rw [be64_len] at hown1
  have hb1 : Below W0.heap.size W0 (W0.alloc (.cells (U8 (be64 G)).toArray 5)) := (Below.refl _ _).alloc (Nat.le_refl _) _
  have hx1 := hx0.below hb1 hx0.lt
  have hB1 : Below w.heap.size w (W0.alloc (.cells (U8 (be64 G)).toArray 5)) := hb0.trans (hb1.mono hb0.size)
  have hs1 : (W0.alloc (.cells (U8 (be64 G)).toArray 5)).heap.size = w.heap.size + 2 := by rw [World.size_alloc, HS0.out]
  have HS1 := Lib.hid hs1
  clear hs1
  generalize W0.alloc (.cells (U8 (be64 G)).toArray 5) = w1 at *
  have q1 : w1.cell? ⟨w.heap.size, 1, none⟩ = some (.slice A p.length c) := hx1.cell 1
  have hl1 := hx1.lt
  have hwp : IntKind.u8.wrap (p.length : Int) = (p.length : Int) % 256 := IntKind.wrap_u8 _
  have hc1 := (hc.below hB1).whole
  obtain ⟨m, hm⟩ : ∃ m : Nat, m = 247 - p.length := ⟨_, rfl⟩
  have hm247 : m ≤ 247 := by omega
  have HM := Lib.hid hm
  clear hm
  go_wp2_with (first | (at_builtin; refine app_one rfl (.tmp 7) (.tmp 12) rfl (w.heap.size + 1) _ _ _ rfl hown1 rfl (by rw [be64_len]; omega) (by omega) ?_; intro v2 w2 hown2 hg2; have hx2 := hx1.grown hg2.by_ (fun e => absurd (hown1.lt _ e.symm).1 (by omega)); have q2 : w2.cell? ⟨w.heap.size, 1, none⟩ = some (.slice A p.length c) := hx2.cell 1; have hl2 := hx2.lt; have hB2 := hB1.trans ((hg2.below hown1 (by omega)).mono (Nat.le_succ w.heap.size)); have hc2 := (hc.below hB2).whole) | (at_builtin; refine app_any rfl (.tmp 14) (.tmp 16) rfl (w.heap.size + 1) _ _ rfl hown2 w2.heap.size A c p rfl hc2 (by simp [be64_len] <;> omega) (by omega) ?_; intro v3 w3 hown3 hg3; have hB3 := hB2.trans ((hg3.below hown2 (by omega)).mono (Nat.le_succ w.heap.size)); have hl3 := hg3.by_.size))
  obtain ⟨L, hL, hLl⟩ : ∃ L, be64 G ++ [(p.length : Int) % 256] ++ p = L ∧ L.length = 9 + p.length := ⟨_, rfl, by simp [be64_len] <;> omega⟩
  rw [hL] at hown3
  have HL := Lib.hid hL
  have hLm : L.length + m = 256 := by have := HM.out; omega
  have HLM := Lib.hid hLm
  clear hL hLl hLm
  go_loopw [3] (fun v wr => ∃ (j : Nat) (A3 : Option Addr) (n c3 : Nat), v = .slice A3 n c3 ∧ Hid (n = L.length + j) ∧ j ≤ m ∧ n ≤ 256 ∧ Own wr (w.heap.size + 1) (.slice A3 n c3) (L ++ zer j) ∧ Below w.heap.size w wr ∧ w.heap.size + 1 ≤ wr.heap.size)
    (fun v _ => 256 - lenOf v)
  case atStart =>
    obtain ⟨A3, c3, e3, _⟩ := hown3.shape
    subst e3
    exact ⟨0, A3, L.length, c3, rfl, Lib.hid (by omega), Nat.zero_le _, by have := HLM.out; omega, by simpa [zer] using hown3, hB3, by omega⟩
  case round =>
    obtain ⟨j, A3, n, c3, rfl, HN, hj, hn, hown, hB, hsz⟩ := hrel
    by_cases hlt : n < 256
    · have hgn : (n : Int) < 256 := by omega
      go_wp2_with (first | (at_builtin; refine app_one rfl (.tmp 21) (.tmp 22) rfl (w.heap.size + 1) _ (L ++ zer j) 0 rfl hown rfl (by rw [List.length_append, zer_len]; have := HLM.out; omega) (by omega) ?_; intro v4 w4 hown4 hg4))
      obtain ⟨A4, c4, e4, _⟩ := hown4.shape
      subst e4
      have hlen : (L ++ zer j ++ [0]).length = n + 1 := by have := HN.out; rw [List.length_append, List.length_append, zer_len, List.length_singleton]; omega
      rw [hlen] at hown4
      rw [hlen]
      have hown5 := own_as hown4 (show L ++ zer j ++ [0] = L ++ zer (j + 1) by unfold zer; rw [List.append_assoc, List.replicate_succ'])
      have hg4' := hg4.below hown (by omega)
      have hs4 := hg4.by_.size
      clear hlen hown4 hg4
      go_wp2
      go_roundw
      case rel => exact ⟨j + 1, A4, n + 1, c4, rfl, Lib.hid (by have := HN.out; omega), by have := HN.out; have := HLM.out; omega, by omega, hown5, hB.trans (hg4'.mono (Nat.le_succ _)), by omega⟩
      case measure => simp [lenOf]; omega
    · have hgn : ¬ (n : Int) < 256 := by omega
      go_wp2
      go_ret
      refine ⟨_, rfl, own_as (hown.mono (Nat.le_succ _)) ?_, hB⟩
      have hjm : j = m := by have := HN.out; have := HLM.out; omega
      rw [← HL.out, hjm, HM.out]
      unfold secH zer
      simp [List.append_assoc]

/-- What the reference reads of a sector. -/
def rheadOf (s : List Int) : Int × List Int :=
  if 200 < nOf s ∨ gOf s = 0 then (0, []) else if s.drop (9 + nOf s) = List.replicate (247 - nOf s) 0 then (gOf s, pOf s) else (0, [])
theorem rheadOf_eq (s : List Int) (hl : s.length = 256) (ho : Oct s) : rheadOf s = headOf s := by
  unfold rheadOf headOf
  by_cases hn : 200 < nOf s
  · rw [if_pos (.inl hn), if_pos hn]
  · rw [if_neg hn]
    by_cases hg : gOf s = 0
    · rw [if_pos (.inr hg), if_neg (fun h => h.2 hg)]
    · rw [if_neg (by rintro (h | h); exact hn h; exact hg h)]
      have h8 : s.take 8 = be64 (gOf s) := (be64_num (s.take 8) (ho.take 8) (by rw [List.length_take]; omega)).symm
      have hpl : (pOf s).length = nOf s := by unfold pOf; rw [List.length_take, List.length_drop]; omega
      have hlt : 8 < s.length := by omega
      have h9 : s[8] = (nOf s : Int) := by
        unfold nOf
        rw [List.getD_eq_getElem?_getD, List.getElem?_eq_getElem hlt]
        have := ho.at_ (List.getElem?_eq_getElem hlt)
        show s[8] = ((s[8]).toNat : Int)
        omega
      have hs : s = be64 (gOf s) ++ (nOf s : Int) :: (pOf s ++ s.drop (9 + nOf s)) := by
        have e1 : s = s.take 8 ++ s.drop 8 := (List.take_append_drop 8 s).symm
        have e2 : s.drop 8 = s[8] :: s.drop 9 := List.drop_eq_getElem_cons hlt
        have e3 : s.drop 9 = pOf s ++ s.drop (9 + nOf s) := by
          unfold pOf
          rw [← List.drop_drop, List.take_append_drop]
        rw [h8, e2, e3, h9] at e1
        exact e1
      have hmod : ((pOf s).length : Int) % 256 = (nOf s : Int) := by rw [hpl]; omega
      have hiff : s.drop (9 + nOf s) = List.replicate (247 - nOf s) 0 ↔ s = secH (gOf s) (pOf s) := by
        unfold secH
        rw [hmod, hpl]
        constructor
        · intro hz
          rw [← hz]
          exact hs
        · intro hz
          have e : be64 (gOf s) ++ (nOf s : Int) :: (pOf s ++ s.drop (9 + nOf s)) = be64 (gOf s) ++ (nOf s : Int) :: (pOf s ++ List.replicate (247 - nOf s) 0) := hs.symm.trans hz
          have e2 := List.append_cancel_left e
          injection e2 with _ e2
          exact List.append_cancel_left e2
      by_cases hz : s.drop (9 + nOf s) = List.replicate (247 - nOf s) 0
      · rw [if_pos hz, if_pos ⟨hiff.1 hz, hg⟩]
      · rw [if_neg hz, if_neg (fun h => hz (hiff.2 h.1))]

/-- What the reference's Read answers. -/
def RHeadP (s : List Int) (w : World) (e : Ending) (w' : World) : Prop :=
  ∃ A' c', e = .returned (.agg #[.int .u64 (rheadOf s).1, .slice A' (rheadOf s).2.length c']) ∧ Bytes w' A' (rheadOf s).2 ∧ Below w.heap.size w w'
theorem rhead_no {s : List Int} {w w' : World} (h : rheadOf s = (0, [])) (hB : Below w.heap.size w w') : RHeadP s w (.returned (.agg #[.int .u64 0, .slice none 0 0])) w' := by
  unfold RHeadP
  rw [h]
  exact ⟨none, 0, rfl, Bytes.none _, hB⟩

set_option maxRecDepth 8000 in
set_option maxHeartbeats 8000000 in
theorem rhead_any (b off c : Nat) (s : List Int) (w : World) (hl : s.length = 256) (hb : Bytes w (some ⟨b, off, none⟩) s) (ho : Oct s) (hcap : s.length ≤ c) (hcm : c ≤ 9223372036854775807) :
    Calls Try.prog 38 #[.slice (some ⟨b, off, none⟩) s.length c] w (RHeadP s w) := by
  have h8 : 8 < s.length := by omega
  have c8 : w.cell? ⟨b, off + 8, none⟩ = some (.int .u8 s[8]) := hb.1.knownU h8
  have hbl : b < w.heap.size := World.block_lt_of_cell? w _ c8
  have o8 := ho.at_ (List.getElem?_eq_getElem h8)
  have hn8 : (nOf s : Int) = s[8] := by
    unfold nOf
    rw [List.getD_eq_getElem?_getD, List.getElem?_eq_getElem h8]
    show ((s[8]).toNat : Int) = s[8]
    omega
  rw [← hn8] at c8 o8
  have HL := Lib.hid hl
  have hl256 : s.length ≤ 256 := by omega
  have hl9 : 9 ≤ s.length := by omega
  clear hn8 hl h8
  obtain ⟨n, hn⟩ : ∃ n, nOf s = n := ⟨_, rfl⟩
  rw [hn] at c8 o8
  have HN := Lib.hid hn
  clear hn
  have hr0 : Blk ((w.alloc (.cells #[.int .u64 0, .slice none 0 0] 44)).alloc (.cells #[.int .u64 0, .slice none 0 0] 44)) w.heap.size 44 #[.int .u64 0, .slice none 0 0] := (Blk.new w _ _).alloc _
  have hr1 : Blk ((w.alloc (.cells #[.int .u64 0, .slice none 0 0] 44)).alloc (.cells #[.int .u64 0, .slice none 0 0] 44)) (w.heap.size + 1) 44 #[.int .u64 (num (s.take 0) 0), .slice none 0 0] := Blk.second w _ _ _
  have hB1 : Below w.heap.size w ((w.alloc (.cells #[.int .u64 0, .slice none 0 0] 44)).alloc (.cells #[.int .u64 0, .slice none 0 0] 44)) := ((Below.refl _ _).alloc (Nat.le_refl _) _).alloc (by simp) _
  go_enter Try.func38, Try.ntmps38
  go_wp2
  generalize ((w.alloc (.cells #[.int .u64 0, .slice none 0 0] 44)).alloc (.cells #[.int .u64 0, .slice none 0 0] 44)) = W1 at *
  go_loopw [4] (fun i wr => ∃ k : Nat, i = .int .i64 k ∧ k ≤ 8 ∧ Blk wr w.heap.size 44 #[.int .u64 0, .slice none 0 0] ∧ Blk wr (w.heap.size + 1) 44 #[.int .u64 (num (s.take k) 0), .slice none 0 0] ∧ Below w.heap.size w wr)
    (fun i _ => 8 - (intOf i).toNat)
  case atStart => exact ⟨0, rfl, by omega, hr0, hr1, hB1⟩
  case round =>
    obtain ⟨k, rfl, hk, hq0, hq1, hB⟩ := hrel
    clear hr0 hr1 hB1
    have a0 : wr.cell? ⟨w.heap.size, 0, none⟩ = some (.int .u64 0) := hq0.cell 0
    have a1 : wr.cell? ⟨w.heap.size, 1, none⟩ = some (.slice none 0 0) := hq0.cell 1
    have za0 := hq0.free 0
    have za1 := hq0.free 1
    have b0 : wr.cell? ⟨w.heap.size + 1, 0, none⟩ = some (.int .u64 (num (s.take k) 0)) := hq1.cell 0
    have b1 : wr.cell? ⟨w.heap.size + 1, 1, none⟩ = some (.slice none 0 0) := hq1.cell 1
    have zb0 := hq1.free 0
    have zb1 := hq1.free 1
    by_cases hlt : k < 8
    · have hgk : (k : Int) < 8 := by omega
      have hks : k < s.length := by omega
      have hck : wr.cell? ⟨b, off + k, none⟩ = some (.int .u8 (s[k]'hks)) := (hb.1.below hB).knownU hks
      have hok := ho.at_ (List.getElem?_eq_getElem hks)
      have hbd := num_take_bd (s.take 8) (ho.take 8) (by rw [List.length_take]; omega) k hlt
      rw [List.take_take, show min k 8 = k by omega] at hbd
      have hsn : num (s.take (k + 1)) 0 = num (s.take k) 0 * 256 + s[k] := by rw [take_snoc s k hks, num_snoc]
      have HSN := Lib.hid hsn
      clear hsn
      generalize s[k]'hks = x at *
      generalize hX : num (s.take k) 0 = X at *
      have hw1 : IntKind.u64.wrap (X * 256) = X * 256 := by rw [IntKind.wrap_u64]; omega
      have hw2 : IntKind.u64.wrap (X * 256 + x) = X * 256 + x := by rw [IntKind.wrap_u64]; omega
      have hw3 : IntKind.u64.wrap x = x := by rw [IntKind.wrap_u64]; omega
      have hkb : (k : Int) < (s.length : Int) := by omega
      go_wp2
      go_region
      all_goals
        go_wp2
        go_roundw
        case rel => exact ⟨k + 1, by go_num, by omega, (hq0.far (p := ⟨w.heap.size + 1, 0, none⟩) (by show w.heap.size ≠ w.heap.size + 1; omega) _).drew, by rw [HSN.out]; exact (hq1.set_ 0 _).drew, (hB.setCell (p := ⟨w.heap.size + 1, 0, none⟩) (by show w.heap.size ≤ w.heap.size + 1; omega) _).drew⟩
        case measure => simp [intOf]; omega
    · have hk8 : k = 8 := by omega
      subst hk8
      have hgk : ¬ ((8 : Nat) : Int) < 8 := by omega
      have hG := num_eight (s.take 8) (ho.take 8) (by rw [List.length_take]; omega)
      have hgG : num (s.take 8) 0 = gOf s := rfl
      rw [hgG] at hG b0 hq1
      have hc8 : wr.cell? ⟨b, off + 8, none⟩ = some (.int .u8 (n : Int)) := (hB.cell (p := ⟨b, off + 8, none⟩) hbl).trans c8
      obtain ⟨G, hGe⟩ : ∃ G, gOf s = G := ⟨_, rfl⟩
      rw [hGe] at hG b0 hq1
      have HG := Lib.hid hGe
      clear hGe hgG
      have hW0 := (hq0.set_ 0 (.int .u64 0)).set_ 1 (.slice none 0 0)
      have hWB0 := (hB.setCell (p := ⟨w.heap.size, 0, none⟩) (Nat.le_refl _) (.int .u64 0)).setCell (p := ⟨w.heap.size, 1, none⟩) (Nat.le_refl _) (.slice none 0 0)
      by_cases hbig : 200 < n
      · have HF : Hid (rheadOf s = (0, [])) := Lib.hid (by unfold rheadOf; rw [HN.out, if_pos (.inl hbig)])
        have hgb : (200 : Int) < (n : Int) := by omega
        go_wp2
        exact bodyPost_ret (v := .agg #[.int .u64 0, .slice none 0 0]) (by simp [results, Try.results38, go_sem, hW0.cell]) rfl (rhead_no HF.out hWB0)
      have hgb : ¬ (200 : Int) < (n : Int) := by omega
      by_cases hg0 : G = 0
      · have HF : Hid (rheadOf s = (0, [])) := Lib.hid (by unfold rheadOf; rw [HG.out, if_pos (.inr hg0)])
        have hgz : (G == 0) = true := by simpa using hg0
        clear hg0
        go_wp2
        exact bodyPost_ret (v := .agg #[.int .u64 0, .slice none 0 0]) (by simp [results, Try.results38, go_sem, hW0.cell]) rfl (rhead_no HF.out hWB0)
      have hgz : (G == 0) = false := by simpa using hg0
      have HG0 := Lib.hid hg0
      clear hg0
      go_wp2
      go_loop [6] (fun i => ∃ j : Nat, i = .int .i64 (9 + (n : Int) + (j : Int)) ∧ 9 + n + j ≤ s.length ∧ Hid ((s.drop (9 + n)).take j = List.replicate j 0)) (fun i => 256 - (intOf i).toNat)
      case atStart => exact ⟨0, by go_num, by have := HL.out; omega, Lib.hid rfl⟩
      case round =>
        obtain ⟨j, rfl, hj, HJ⟩ := hrel
        by_cases hlt2 : 9 + n + j < s.length
        · have hg2 : 9 + (n : Int) + (j : Int) < (s.length : Int) := by omega
          have hcj : wr.cell? ⟨b, off + (9 + n + j), none⟩ = some (.int .u8 (s[9 + n + j]'hlt2)) := (hb.1.below hB).knownU hlt2
          have ht0 : (9 + (n : Int) + (j : Int)).toNat = 9 + n + j := by omega
          have hp0 : 0 ≤ 9 + (n : Int) + (j : Int) := by omega
          have hsj : (s.drop (9 + n)).take (j + 1) = (s.drop (9 + n)).take j ++ [s[9 + n + j]'hlt2] := by
            rw [take_snoc _ j (by rw [List.length_drop]; omega), List.getElem_drop]
          have HSJ := Lib.hid hsj
          clear hsj
          generalize s[9 + n + j]'hlt2 = x at *
          by_cases hx : x = 0
          · subst hx
            go_wp2
            go_round
            case rel => exact ⟨j + 1, by go_num, by omega, Lib.hid (by rw [HSJ.out, HJ.out, List.replicate_succ'])⟩
            case measure => simp [intOf]; omega
          · have hxb : (x != 0) = true := by simpa using hx
            have HF : Hid (rheadOf s = (0, [])) := Lib.hid (by
              unfold rheadOf
              rw [HN.out, HG.out, if_neg (by rintro (h | h); exact hbig h; exact HG0.out h), if_neg (fun e => hx (by
                have := HSJ.out
                rw [e, List.take_replicate] at this
                have hm : x ∈ List.replicate (min (j + 1) (247 - n)) (0 : Int) := by rw [this]; simp
                exact List.eq_of_mem_replicate hm))])
            clear hx
            go_wp2
            exact bodyPost_ret (v := .agg #[.int .u64 0, .slice none 0 0]) (by simp [results, Try.results38, go_sem, hW0.cell]) rfl (rhead_no HF.out hWB0)
        · have hg2 : ¬ 9 + (n : Int) + (j : Int) < (s.length : Int) := by omega
          have HF : Hid (rheadOf s = (G, pOf s)) := Lib.hid (by
            unfold rheadOf
            have hje : j = 247 - n := by have := HL.out; omega
            have hz := HJ.out
            rw [List.take_of_length_le (by rw [List.length_drop]; have := HL.out; omega), hje] at hz
            rw [HN.out, HG.out, if_neg (by rintro (h | h); exact hbig h; exact HG0.out h), if_pos hz])
          have hpl : (pOf s).length = n := by
            unfold pOf
            rw [List.length_take, List.length_drop, HN.out]
            have := HL.out
            omega
          have hcp : Cells wr wr.heap.size (some ⟨b, off + 9, none⟩) (U8 (pOf s)) := (((hb.1.below hB).whole).subU 9).takeU _
          obtain ⟨p, hp⟩ : ∃ p, pOf s = p := ⟨_, rfl⟩
          rw [hp] at hpl hcp HF
          clear hp HJ
          subst hpl
          have hw9 : IntKind.i64.wrap (9 + (p.length : Int)) = 9 + (p.length : Int) := by rw [IntKind.wrap_i64]; omega
          have e1 : (0 : Int) ≤ 9 + (p.length : Int) := by omega
          have e2 : (9 : Int) ≤ 9 + (p.length : Int) := by omega
          have e3 : 9 + (p.length : Int) ≤ (c : Int) := by omega
          have e4 : (9 + (p.length : Int)).toNat = 9 + p.length := by omega
          have e5 : ¬ c = 9 := by have := HL.out; omega
          have e6 : 9 + p.length ≤ c := by omega
          have e7 : 9 + p.length - 9 = p.length := by omega
          have hr1l := hq1.lt
          have HFB : Hid (∀ (w2 : World) (A2 : Option Addr) (c2 : Nat), Own w2 (w.heap.size + 2) (.slice A2 p.length c2) p → Below w.heap.size w w2 → RHeadP s w (.returned (.agg #[.int .u64 G, .slice A2 p.length c2])) w2) := Lib.hid fun w2 A2 c2 m1 m2 => by
            unfold RHeadP
            rw [HF.out]
            exact ⟨A2, c2, rfl, m1.bytes, m2⟩
          go_wp2
          go_region_law (refine app_stepS rfl (.tmp 48) (.tmp 52) rfl (w.heap.size + 2) (.slice none 0 0) [] ?_ ?_ wr.heap.size (some ⟨b, off + 9, none⟩) (c - 9) p ?_ ?_ ?_ ?_ ?_; (simp [Act.eval]); (exact Own.nil _ _); (simp [Act.eval]); (exact hcp.drew); (simp; omega); (simp; omega); intro A2 c2 w2 hown2 hg2; simp only [List.length_nil, Nat.zero_add, List.nil_append] at hown2 hg2; have hq2 := hq1.drew.grown hg2.by_ (by simp [Value.ownBlock]); have hq3 := hq0.drew.grown hg2.by_ (by simp [Value.ownBlock]); have d0 : w2.cell? ⟨w.heap.size + 1, 0, none⟩ = some (.int .u64 G) := hq2.cell 0; have d1 : w2.cell? ⟨w.heap.size + 1, 1, none⟩ = some (.slice none 0 0) := hq2.cell 1; have zd1 := hq2.free 1; have f0 : w2.cell? ⟨w.heap.size, 0, none⟩ = some (.int .u64 0) := hq3.cell 0; have f1 : w2.cell? ⟨w.heap.size, 1, none⟩ = some (.slice none 0 0) := hq3.cell 1; have zf0 := hq3.free 0; have zf1 := hq3.free 1)
          all_goals
            have hr := hq3.far (p := ⟨w.heap.size + 1, 1, none⟩) (by show w.heap.size ≠ w.heap.size + 1; omega) (.slice A2 p.length c2)
            have hO := (((hown2.store hq2 (by decide) 1 (.slice A2 p.length c2)).store hr (by decide) 0 (.int .u64 G)).store (hr.set_ 0 (.int .u64 G)) (by decide) 1 (.slice A2 p.length c2))
            have hW := (hr.set_ 0 (.int .u64 G)).set_ 1 (.slice A2 p.length c2)
            have hB2 : Below w.heap.size w w2 := hB.drew.trans (hg2.below (Own.nil wr.drew w.heap.size) hB.size)
            have hWB := ((hB2.setCell (p := ⟨w.heap.size + 1, 1, none⟩) (by show w.heap.size ≤ w.heap.size + 1; omega) (.slice A2 p.length c2)).setCell (p := ⟨w.heap.size, 0, none⟩) (Nat.le_refl _) (.int .u64 G)).setCell (p := ⟨w.heap.size, 1, none⟩) (Nat.le_refl _) (.slice A2 p.length c2)
            go_wp2
            exact bodyPost_ret (v := .agg #[.int .u64 G, .slice A2 p.length c2]) (by simp [results, Try.results38, go_sem, hW.cell]) rfl (HFB.out _ A2 c2 hO hWB)
end Go.Proofs.Ytobdbkhjdhnooaa
