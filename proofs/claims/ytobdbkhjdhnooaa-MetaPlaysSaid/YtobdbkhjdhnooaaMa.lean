/-
  The contracts of meta.sector, meta.read.
-/
import Derived.Test.YtobdbkhjdhnooaaMp
import Derived.Test.YtobdbkhjdhnooaaAz
import Derived.Deep.RegionHeld3
import Derived.StillTailTactics
set_option linter.unusedVariables false
namespace Go.Proofs.Ytobdbkhjdhnooaa
open Go.RowKit

set_option maxRecDepth 8000 in
set_option maxHeartbeats 2000000 in
theorem msector_any (G : Int) (A : Option Addr) (p : List Int) (c : Nat) (w : World) (h0 : 0 ≤ G) (h1 : G ≤ 18446744073709551615) (hp : p.length ≤ 247) (hc : Cells w w.heap.size A (U8 p)) :
    Calls Try.prog 28 #[.agg #[.int .u64 G, .slice A p.length c]] w fun e w' => ∃ v, e = .returned v ∧ Own w' w.heap.size v (secH G p) ∧ Below w.heap.size w w' := by
  have hx0 : Blk (w.alloc (.cells #[.int .u64 G, .slice A p.length c] 30)) w.heap.size 30 #[.int .u64 G, .slice A p.length c] := Blk.new w _ _
  have hb0 : Below w.heap.size w (w.alloc (.cells #[.int .u64 G, .slice A p.length c] 30)) := (Below.refl _ _).alloc (Nat.le_refl _) _
  have HC := Lib.hid (append64_any (.slice none 0 0) [] G (w.alloc (.cells #[.int .u64 G, .slice A p.length c] 30)) (w.heap.size + 1) h0 h1 (by simp) (Own.nil _ _) (by simp))
  have hc0 := (hc.below hb0).whole
  go_enter Try.func28, Try.ntmps28
  go_wp2_with fail
  refine HC.out.mono ?_
  clear HC
  rintro e w1 ⟨v1, rfl, hown1, hg1⟩
  have hb1 := hg1.below (Own.nil (w.alloc (.cells #[.int .u64 G, .slice A p.length c] 30)) (w.heap.size + 1)) (by simp)
  generalize w.alloc (.cells #[.int .u64 G, .slice A p.length c] 30) = W0 at *
  have hx1 := hx0.below hb1 (Nat.lt_succ_self _)
  have q1 : w1.cell? ⟨w.heap.size, 1, none⟩ = some (.slice A p.length c) := hx1.cell 1
  have hl1 := hx1.lt
  have hwp : IntKind.u8.wrap (p.length : Int) = (p.length : Int) % 256 := IntKind.wrap_u8 _
  have hown1' := own_as hown1 (List.nil_append _)
  have hB1 : Below w.heap.size w w1 := hb0.trans (hb1.mono (Nat.le_succ _))
  have hc1 := (hc.below hB1).whole
  clear hown1 hg1
  obtain ⟨m, hm⟩ : ∃ m : Nat, m = 247 - p.length := ⟨_, rfl⟩
  have hm247 : m ≤ 247 := by omega
  have HM := Lib.hid hm
  clear hm
  go_wp2_with (first | (at_builtin; refine app_one rfl (.tmp 7) (.tmp 12) rfl (w.heap.size + 1) _ _ _ rfl hown1' rfl (by rw [be64_len]; omega) (by omega) ?_; intro v2 w2 hown2 hg2; have hx2 := hx1.grown hg2.by_ (fun e => absurd (hown1'.lt _ e.symm).1 (by omega)); have q2 : w2.cell? ⟨w.heap.size, 1, none⟩ = some (.slice A p.length c) := hx2.cell 1; have hl2 := hx2.lt; have hB2 := hB1.trans ((hg2.below hown1' (by omega)).mono (Nat.le_succ w.heap.size)); have hc2 := (hc.below hB2).whole) | (at_builtin; (refine app_any rfl (.tmp 14) (.tmp 16) rfl (w.heap.size + 1) _ _ rfl hown2 w2.heap.size A c p rfl hc2 (by simp [be64_len] <;> omega) (by omega) ?_; intro v3 w3 hown3 hg3; have hB3 := hB2.trans ((hg3.below hown2 (by omega)).mono (Nat.le_succ w.heap.size)); have hl3 := hg3.by_.size; obtain ⟨L, hL, hLl⟩ : ∃ L, be64 G ++ [(p.length : Int) % 256] ++ p = L ∧ L.length = 9 + p.length := ⟨_, rfl, by simp [be64_len] <;> omega⟩; rw [hL] at hown3; have HL := Lib.hid hL; have hsub : (256 : Int) - (L.length : Int) = (m : Int) := (by have := HM.out; omega); have hL9 : 9 ≤ L.length := (by omega); have hLu : L.length ≤ 256 := (by omega); clear hL hLl; obtain ⟨A3, c3, e3, _⟩ := hown3.shape; subst e3)) | (at_builtin; (refine app_zeros rfl (.tmp 18) (.tmp 21) rfl (w.heap.size + 1) _ L rfl hown3 (by omega) m rfl (by omega) (by omega) ?_; intro v4 w4 hown4 hg4)))
  go_ret
  refine ⟨v4, rfl, own_as (hown4.mono (Nat.le_succ _)) ?_, hB3.trans ((hg4.below hown3 (by omega)).mono (Nat.le_succ w.heap.size))⟩
  rw [← HL.out, HM.out]
  unfold secH zer
  simp [List.append_assoc]

theorem Bytes.sub {w : World} {b off : Nat} {l : List Int} (h : Bytes w (some ⟨b, off, none⟩) l) (i j : Nat) : Bytes w (some ⟨b, off + i, none⟩) ((l.drop i).take j) := by
  refine ⟨(h.1.subU i).takeU j, fun ad e => ?_⟩
  injection e with e
  subst e
  exact h.2 ⟨b, off, none⟩ rfl
theorem Bytes.none (w : World) : Bytes w none [] := ⟨Cells.nil, fun ad e => by cases e⟩
/-- What read answers. -/
def MReadP (s : List Int) (w : World) (e : Ending) (w' : World) : Prop :=
  ∃ A' c', e = .returned (.agg #[.int .u64 (headOf s).1, .slice A' (headOf s).2.length c']) ∧ Bytes w' A' (headOf s).2 ∧ (headOf s).2.length ≤ c' ∧ c' ≤ 9223372036854775807 ∧ Below w.heap.size w w'
theorem mread_no {s : List Int} {w w' : World} (h : headOf s = (0, [])) (hB : Below w.heap.size w w') : MReadP s w (.returned (.agg #[.int .u64 0, .slice none 0 0])) w' := by
  unfold MReadP
  rw [h]
  exact ⟨none, 0, rfl, Bytes.none _, by simp, by decide, hB⟩
theorem mread_yes {s : List Int} {w w' : World} {b off c : Nat} (h : headOf s = (gOf s, pOf s)) (hb : Bytes w' (some ⟨b, off, none⟩) s) (hn : nOf s + 9 ≤ s.length) (hl : s.length ≤ c) (hc : c ≤ 9223372036854775807) (hB : Below w.heap.size w w') : MReadP s w (.returned (.agg #[.int .u64 (gOf s), .slice (some ⟨b, off + 9, none⟩) (nOf s) (c - 9)])) w' := by
  unfold MReadP
  rw [h]
  have hlen : (pOf s).length = nOf s := by unfold pOf; rw [List.length_take, List.length_drop]; omega
  refine ⟨some ⟨b, off + 9, none⟩, c - 9, by rw [hlen], hb.sub 9 (nOf s), ?_, by omega, hB⟩
  show (pOf s).length ≤ _
  omega

set_option maxHeartbeats 4000000 in
theorem mread_any (b off c : Nat) (s : List Int) (w : World) (hl : s.length = 256) (hb : Bytes w (some ⟨b, off, none⟩) s) (ho : Oct s) (hcap : s.length ≤ c) (hcm : c ≤ 9223372036854775807) :
    Calls Try.prog 29 #[.slice (some ⟨b, off, none⟩) s.length c] w (MReadP s w) := by
  have h8 : 8 < s.length := by omega
  have c8 : w.cell? ⟨b, off + 8, none⟩ = some (.int .u8 s[8]) := hb.1.knownU h8
  have hbl : b < w.heap.size := World.block_lt_of_cell? w _ c8
  have o8 := ho.at_ (List.getElem?_eq_getElem h8)
  have hn8 : (nOf s : Int) = s[8] := by
    unfold nOf
    rw [List.getD_eq_getElem?_getD, List.getElem?_eq_getElem h8]
    show ((s[8]).toNat : Int) = s[8]
    omega
  rw [← hn8] at c8 o8
  have HL := Lib.hid hl
  have hl8 : 9 ≤ s.length := by omega
  clear hn8 hl h8
  obtain ⟨n, hn⟩ : ∃ n, nOf s = n := ⟨_, rfl⟩
  rw [hn] at c8 o8
  have HN := Lib.hid hn
  clear hn
  by_cases hbig : 200 < n
  · have HF : Hid (headOf s = (0, [])) := Lib.hid (by unfold headOf; rw [HN.out, if_pos hbig])
    go_enter Try.func29, Try.ntmps29
    go_wp2
    exact bodyPost_ret (v := .agg #[.int .u64 0, .slice none 0 0]) (by simp [results, Try.results29, go_sem]) rfl (mread_no HF.out ((Below.refl _ _).alloc (Nat.le_refl _) _))
  · have hl9 : n + 9 ≤ s.length := by have := HL.out; omega
    have hG := num_eight (s.take 8) (ho.take 8) (by rw [List.length_take]; omega)
    have hg : ∀ (w2 : World), Cells w2 w2.heap.size (some ⟨b, off, none⟩) (U8 (s.take 8)) → Calls Try.prog 40 #[.slice (some ⟨b, off, none⟩) s.length c] w2 fun e w' => e = .returned (.int .u64 (gOf s)) ∧ w2 = w' := fun w2 h2 => get64_any b off (s.take 8) s.length c w2 (by rw [List.length_take]; omega) h2 (ho.take 8) (by omega) hcap hcm
    have HG := Lib.hid hg
    have hc8 := hb.1.takeU 8
    have hw9 : IntKind.i64.wrap (9 + (n : Int)) = 9 + (n : Int) := by rw [IntKind.wrap_i64]; omega
    have e1 : (0 : Int) ≤ 9 + (n : Int) := by omega
    have e2 : (9 : Int) ≤ 9 + (n : Int) := by omega
    have e3 : 9 + (n : Int) ≤ (c : Int) := by omega
    have e4 : (9 + (n : Int)).toNat = 9 + n := by omega
    have e5 : ¬ c = 9 := by have := HL.out; omega
    have e6 : 9 + n ≤ c := by omega
    have e7 : 9 + n - 9 = n := by omega
    clear hg
    go_enter Try.func29, Try.ntmps29
    go_wp2
    have hpl : (pOf s).length = n := by
      unfold pOf
      rw [List.length_take, List.length_drop, HN.out]
      omega
    have HS : Hid (∀ w2 : World, Cells w2 w2.heap.size (some ⟨b, off + 9, none⟩) (U8 (pOf s)) → Calls Try.prog 28 #[.agg #[.int .u64 (gOf s), .slice (some ⟨b, off + 9, none⟩) n (c - 9)]] w2 fun e w' => ∃ A3 c3, e = .returned (.slice A3 (secH (gOf s) (pOf s)).length c3) ∧ Bytes w' A3 (secH (gOf s) (pOf s)) ∧ Below w2.heap.size w2 w') := Lib.hid fun w2 h2 => by
      have := msector_any (gOf s) (some ⟨b, off + 9, none⟩) (pOf s) (c - 9) w2 hG.1 hG.2 (by omega) h2
      rw [hpl] at this
      refine this.mono ?_
      rintro e w' ⟨v, rfl, hown, hB⟩
      obtain ⟨A3, c3, rfl, _⟩ := hown.shape
      exact ⟨A3, c3, rfl, hown.bytes, hB⟩
    have hop : Oct (pOf s) := (ho.drop 9).take _
    have hos := secH_oct (gOf s) (pOf s) hop
    have hcp : Cells w w.heap.size (some ⟨b, off + 9, none⟩) (U8 (pOf s)) := (hb.1.subU 9).takeU _
    have hbig' : (pOf s).length ≤ 200 := by omega
    clear hpl
    go_region_held3 (fun w' => True) (trivial)
      (first
        | (go_at_call 40; refine (HG.out _ (by first | exact ((hc8.alloc (Nat.le_refl _) _).whole).drew | exact (((hc8.alloc (Nat.le_refl _) _).alloc (by simp) _).whole).drew)).mono ?_; rintro e w4 ⟨rfl, rfl⟩))
    all_goals
      have hr0 : Blk ((w.alloc (.cells #[.int .u64 0, .slice none 0 0] 30)).alloc (.cells #[.int .u64 (gOf s), .slice (some ⟨b, off + 9, none⟩) n (c - 9)] 30)).drew w.heap.size 30 #[.int .u64 0, .slice none 0 0] := (Blk.new w _ _).alloc _
      have hr1 : Blk ((w.alloc (.cells #[.int .u64 0, .slice none 0 0] 30)).alloc (.cells #[.int .u64 (gOf s), .slice (some ⟨b, off + 9, none⟩) n (c - 9)] 30)).drew (w.heap.size + 1) 30 #[.int .u64 (gOf s), .slice (some ⟨b, off + 9, none⟩) n (c - 9)] := Blk.second w _ _ _
      have hB1 : Below w.heap.size w ((w.alloc (.cells #[.int .u64 0, .slice none 0 0] 30)).alloc (.cells #[.int .u64 (gOf s), .slice (some ⟨b, off + 9, none⟩) n (c - 9)] 30)).drew := (((Below.refl _ _).alloc (Nat.le_refl _) _).alloc (by simp) _).drew
      generalize ((w.alloc (.cells #[.int .u64 0, .slice none 0 0] 30)).alloc (.cells #[.int .u64 (gOf s), .slice (some ⟨b, off + 9, none⟩) n (c - 9)] 30)).drew = W at *
      have y0 : W.cell? ⟨w.heap.size + 1, 0, none⟩ = some (.int .u64 (gOf s)) := hr1.cell 0
      have y1 : W.cell? ⟨w.heap.size + 1, 1, none⟩ = some (.slice (some ⟨b, off + 9, none⟩) n (c - 9)) := hr1.cell 1
      go_wp2_with fail
      refine (HS.out W (hcp.below hB1).whole).mono ?_
      rintro e w5 ⟨A3, c3, rfl, hby5, hb5⟩
      have hB5 := hB1.trans (hb5.mono hB1.size)
      have hs0 := hr0.below hb5 hr0.lt
      have hs1 := hr1.below hb5 hr1.lt
      have hbs := hb.keep (BK.of_below hB5)
      go_wp2_with fail
      refine (bytes_equal _ _ s (secH (gOf s) (pOf s)) c c3 w5 hbs.1 hby5.1 ho hos).mono ?_
      rintro e w6 ⟨rfl, rfl⟩
      have t0 : w5.cell? ⟨w.heap.size + 1, 0, none⟩ = some (.int .u64 (gOf s)) := hs1.cell 0
      have t1 : w5.cell? ⟨w.heap.size + 1, 1, none⟩ = some (.slice (some ⟨b, off + 9, none⟩) n (c - 9)) := hs1.cell 1
      have u0 : w5.cell? ⟨w.heap.size, 0, none⟩ = some (.int .u64 0) := hs0.cell 0
      have u1 : w5.cell? ⟨w.heap.size, 1, none⟩ = some (.slice none 0 0) := hs0.cell 1
      have z0 := hs0.free 0
      have z1 := hs0.free 1
      by_cases heq : s = secH (gOf s) (pOf s)
      · have hsb : sameB s (secH (gOf s) (pOf s)) = true := by unfold sameB; exact decide_eq_true heq
        rw [hsb]
        clear hsb
        by_cases hg0 : gOf s = 0
        · have hgb : (gOf s == 0) = true := by simpa using hg0
          have HF : Hid (headOf s = (0, [])) := Lib.hid (by unfold headOf; rw [HN.out, if_neg hbig, if_neg (fun h => h.2 hg0)])
          clear heq hg0
          go_wp2
          have hW := (hs0.set_ 0 (.int .u64 0)).set_ 1 (.slice none 0 0)
          have hWB := (hB5.setCell (p := ⟨w.heap.size, 0, none⟩) (Nat.le_refl _) (.int .u64 0)).setCell (p := ⟨w.heap.size, 1, none⟩) (Nat.le_refl _) (.slice none 0 0)
          exact bodyPost_ret (v := .agg #[.int .u64 0, .slice none 0 0]) (by simp [results, Try.results29, go_sem, hW.cell]) rfl (mread_no HF.out hWB)
        · have hgb : (gOf s == 0) = false := by simpa using hg0
          have HF : Hid (headOf s = (gOf s, pOf s)) := Lib.hid (by unfold headOf; rw [HN.out, if_neg hbig, if_pos ⟨heq, hg0⟩])
          clear heq hg0
          go_wp2
          have hW := (hs0.set_ 0 (.int .u64 (gOf s))).set_ 1 (.slice (some ⟨b, off + 9, none⟩) n (c - 9))
          have hWB := (hB5.setCell (p := ⟨w.heap.size, 0, none⟩) (Nat.le_refl _) (.int .u64 (gOf s))).setCell (p := ⟨w.heap.size, 1, none⟩) (Nat.le_refl _) (.slice (some ⟨b, off + 9, none⟩) n (c - 9))
          have hfin := mread_yes HF.out (hb.keep (BK.of_below hWB)) (by rw [HN.out]; exact hl9) hcap hcm hWB
          rw [HN.out] at hfin
          exact bodyPost_ret (v := .agg #[.int .u64 (gOf s), .slice (some ⟨b, off + 9, none⟩) n (c - 9)]) (by simp [results, Try.results29, go_sem, hW.cell]) rfl hfin
      · have hsb : sameB s (secH (gOf s) (pOf s)) = false := by unfold sameB; exact decide_eq_false heq
        rw [hsb]
        clear hsb
        have HF : Hid (headOf s = (0, [])) := Lib.hid (by unfold headOf; rw [HN.out, if_neg hbig, if_neg (fun h => heq h.1)])
        clear heq
        go_wp2
        have hW := (hs0.set_ 0 (.int .u64 0)).set_ 1 (.slice none 0 0)
        have hWB := (hB5.setCell (p := ⟨w.heap.size, 0, none⟩) (Nat.le_refl _) (.int .u64 0)).setCell (p := ⟨w.heap.size, 1, none⟩) (Nat.le_refl _) (.slice none 0 0)
        exact bodyPost_ret (v := .agg #[.int .u64 0, .slice none 0 0]) (by simp [results, Try.results29, go_sem, hW.cell]) rfl (mread_no HF.out hWB)
end Go.Proofs.Ytobdbkhjdhnooaa
