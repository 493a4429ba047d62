/-
  The reference's reading of pages: leaves.
-/
import Derived.Test.YtbngcinhjoigaaaVt
import Derived.Test.YtbngcinhjoigaaaVu
set_option linter.unusedVariables false
namespace Go.Proofs.Ytbngcinhjoigaaa
open Go.RowKit

theorem NodeS.rd {w w' : World} {T : TypeId} {B g gn base p : Nat} {lf : Bool} {vk vv vi : Value} {ks vs : List (List Int)} {is l : List Int} (h : NodeS w T gn base lf vk vv vi ks vs is) (hR : RdAt w B g l p) (hc : Chg w w' (fun k => k = g)) (hlt : g < gn) : NodeS w' T gn base lf vk vv vi ks vs is := by
  obtain ⟨A, c, hb, _⟩ := hR
  have := h.low
  exact h.chg hc hb (by decide) (by omega) (by omega)
theorem rno_page {l : List Int} {lf : Bool} {ks vs : List (List Int)} {is : List Int} (h : rparse l = (lf, ks, vs, is)) (hn : ¬ (frmB lf ks vs is = true ∧ l = pageL lf ks vs is)) : ∀ (lf : Bool) (ks vs : List (List Int)) (is : List Int), ¬ IsPage l lf ks vs is := fun lf' ks' vs' is' hp => by
  have := rparse_page hp.1
  rw [hp.2, h] at this
  simp only [Prod.mk.injEq] at this
  obtain ⟨rfl, rfl, rfl, rfl⟩ := this
  exact hn ⟨hp.1, hp.2.symm⟩
theorem rsome_len (l : List Int) (p n : Nat) : (rsome l p n).length ≤ n := by simp [rsome]; omega
/-- The state ahead of the round k. -/
structure RR (w0 : World) (B gr gn : Nat) (T : TypeId) (lf : Bool) (X : List (List Int) × List (List Int) × List Int) (l : List Int) (C k : Nat) (wr : World) (p : Nat) (vk vv vi : Value) (ks vs : List (List Int)) (is : List Int) : Prop where
  parse : rparseN lf l (C - k) p ks vs is = X
  rd : RdAt wr B gr l p
  pos : p ≤ 200000
  node : NodeS wr T gn (gn + 1) lf vk vv vi ks vs is
  lk : ks.length = k
  lv : vs.length ≤ k
  li : is.length ≤ k + 1
  kl : LenLe ks 100000
  vl : LenLe vs 100000
  chg : Chg w0 wr (RS gr gn)
section
variable {w0 : World} {B gr gn : Nat} {T : TypeId} {X : List (List Int) × List (List Int) × List Int} {l : List Int} {C k : Nat} {wr : World} {p : Nat} {vk vv vi : Value} {ks vs : List (List Int)} {is : List Int}
theorem RR.leaf (H : RR w0 B gr gn T true X l C k wr p vk vv vi ks vs is) (hlt : k < C) (hp : p < l.length) :
    rparseN true l (C - (k + 1)) (p + 3 + (rsome l (p + 3) (rnum l p 1).toNat).length + (rsome l (p + 3 + (rsome l (p + 3) (rnum l p 1).toNat).length) (rnum l (p + 1) 2).toNat).length) (ks ++ [rsome l (p + 3) (rnum l p 1).toNat]) (vs ++ [rsome l (p + 3 + (rsome l (p + 3) (rnum l p 1).toNat).length) (rnum l (p + 1) 2).toNat]) is = X := by
  rw [← H.parse, show C - k = (C - (k + 1)) + 1 by omega, rparseN, if_neg (by omega), if_pos rfl]
theorem RR.inner (H : RR w0 B gr gn T false X l C k wr p vk vv vi ks vs is) (hlt : k < C) (hp : p < l.length) :
    rparseN false l (C - (k + 1)) (p + 1 + (rsome l (p + 1) (rnum l p 1).toNat).length + 4) (ks ++ [rsome l (p + 1) (rnum l p 1).toNat]) vs (is ++ [rnum l (p + 1 + (rsome l (p + 1) (rnum l p 1).toNat).length) 4]) = X := by
  rw [← H.parse, show C - k = (C - (k + 1)) + 1 by omega, rparseN, if_neg (by omega), if_neg (by decide)]
theorem RR.end_ {lf : Bool} (H : RR w0 B gr gn T lf X l C k wr p vk vv vi ks vs is) (hk : k ≤ C) (he : k = C ∨ l.length ≤ p) : X = (ks, vs, is) := by
  rw [← H.parse]
  by_cases hkC : k = C
  · rw [show C - k = 0 by omega, rparseN]
  · rw [show C - k = (C - (k + 1)) + 1 by omega, rparseN, if_pos (by omega)]
theorem RR.next {lf : Bool} {w8 : World} {p8 : Nat} {v7 v8 v9 : Value} {x : List Int} {vs8 : List (List Int)} {is8 : List Int} (H : RR w0 B gr gn T lf X l C k wr p vk vv vi ks vs is) (hp : rparseN lf l (C - (k + 1)) p8 (ks ++ [x]) vs8 is8 = X) (hR : RdAt w8 B gr l p8) (hpos : p8 ≤ 200000) (hx : x.length ≤ 100000)
    (hN : NodeS w8 T gn (gn + 1) lf v7 v8 v9 (ks ++ [x]) vs8 is8) (hv : LenLe vs8 100000 ∧ vs8.length ≤ k + 1) (hi : is8.length ≤ k + 2) (hc : Chg wr w8 (RS gr gn)) : RR w0 B gr gn T lf X l C (k + 1) w8 p8 v7 v8 v9 (ks ++ [x]) vs8 is8 := by
  have h1 := H.lk
  exact ⟨hp, hR, hpos, hN, by simp; omega, hv.2, hi, H.kl.snoc hx, hv.1, H.chg.rs hc⟩
end

set_option maxRecDepth 8000 in
set_option maxHeartbeats 16000000 in
theorem rread_leaf (A : Option Addr) (l : List Int) (c : Nat) (w : World) (ha : Cells w w.heap.size A (U8 l)) (ho : Oct l) (hl : l.length = 1024) (hcap : l.length ≤ c ∧ c ≤ 9223372036854775807) (h1 : rnum l 0 1 = 1) :
    Calls Try.prog 16 #[.slice A l.length c] w (ReadRes l w) := by
  obtain ⟨C, hC, hC'⟩ := rnum_nat ho 1 2
  have hC1 : C ≤ 65535 := by omega
  have HN : Hid (rparse l = (true, rparseN true l C 3 [] [] [])) := Lib.hid (by
    unfold rparse
    simp only [h1, decide_true, if_true, hC, Int.toNat_natCast])
  have hln : ((l.length : Int) != 1024) = false := by simp [hl]
  have hl1 : l.length ≤ 1024 := by omega
  have HL := Lib.hid hl
  obtain ⟨Wa, hWa⟩ : ∃ Wa, Wa = (w.alloc (.cells zeroNode 29)).alloc (.cells #[.slice A l.length c, .int .i64 0] 63) := ⟨_, rfl⟩
  have hB0 : Below w.heap.size w Wa := by rw [hWa]; exact ((Below.refl _ _).alloc (Nat.le_refl _) _).alloc (by simp) _
  have hZ0 : Blk Wa w.heap.size 29 zeroNode := by rw [hWa]; exact (Blk.new w _ _).alloc _
  have hR0 : RdAt Wa w.heap.size (w.heap.size + 1) l 0 := by rw [hWa]; exact ⟨A, c, Blk.second w _ _ _, (ha.alloc (Nat.le_refl _) _).alloc (by simp) _, hcap⟩
  have hsz : Wa.heap.size = w.heap.size + 2 := by rw [hWa]; simp
  have HN1 : Hid (Calls Try.prog 32 #[.pointer (some ⟨w.heap.size + 1, 0, none⟩), .int .i64 1] Wa fun e w' => e = .returned (.int .i64 1) ∧ RdAt w' w.heap.size (w.heap.size + 1) l 1 ∧ Chg Wa w' (fun k => k = w.heap.size + 1)) :=
    Lib.hid ((rnumber_any w.heap.size (w.heap.size + 1) l 0 1 Wa hR0 (by omega) (by omega) (by omega) (by omega) ho).mono fun e w' ⟨h, r⟩ => ⟨by rw [h, h1], r⟩)
  have HN2 : Hid (∀ w1, RdAt w1 w.heap.size (w.heap.size + 1) l 1 → Calls Try.prog 32 #[.pointer (some ⟨w.heap.size + 1, 0, none⟩), .int .i64 2] w1 fun e w' => e = .returned (.int .i64 C) ∧ RdAt w' w.heap.size (w.heap.size + 1) l 3 ∧ Chg w1 w' (fun k => k = w.heap.size + 1)) :=
    Lib.hid fun w1 hR1 => (rnumber_any w.heap.size (w.heap.size + 1) l 1 2 w1 hR1 (by omega) (by omega) (by omega) (by omega) ho).mono fun e w' ⟨h, r⟩ => ⟨by rw [h, hC], r⟩
  have HW := Lib.hid hWa
  have HS := Lib.hid hsz
  clear hWa hsz h1 hC hC' hl
  go_enter Try.func16, Try.ntmps16
  go_wp2_with fail
  rw [← HW.out]
  refine HN1.out.mono ?_
  rintro e w2 ⟨rfl, hR2, hc2⟩
  have hs2 : w.heap.size + 2 ≤ w2.heap.size := by have := hc2.size; rw [HS.out] at this; exact this
  obtain ⟨W3, hW3⟩ : ∃ W3, W3 = w2.alloc (.cells #[.bool true, .slice none 0 0, .slice none 0 0, .slice none 0 0] 29) := ⟨_, rfl⟩
  have hb3 : Below w2.heap.size w2 W3 := by rw [hW3]; exact (Below.refl _ _).alloc (Nat.le_refl _) _
  have hN3 : NodeS W3 29 w2.heap.size (w2.heap.size + 1) true (.slice none 0 0) (.slice none 0 0) (.slice none 0 0) [] [] [] := by rw [hW3]; exact NodeS.new (by decide) true
  have hR3 : RdAt W3 w.heap.size (w.heap.size + 1) l 1 := hR2.below hb3 (by omega) (by omega)
  have hZ2 : Blk w2 w.heap.size 29 zeroNode := (hc2.block _ hZ0.lt (fun e => by omega)).trans hZ0
  have hZ3 : Blk W3 w.heap.size 29 zeroNode := hZ2.below hb3 (by omega)
  have hB3 : Below w.heap.size w W3 := (hB0.trans (hc2.below (by rw [HS.out]; omega) fun i hi => by omega)).trans (hb3.mono (by omega))
  have HW3 := Lib.hid hW3
  clear hW3 hb3 hR2 hc2 hZ2
  go_wp2_with fail
  rw [← HW3.out]
  refine (HN2.out W3 hR3).mono ?_
  rintro e w4 ⟨rfl, hR4, hc4⟩
  have hN4 := hN3.rd hR3 hc4 (by omega)
  have d0 : w4.cell? ⟨w2.heap.size, 0, none⟩ = some (.bool true) := hN4.blk.cell 0
  go_wp2_with fail
  go_loopw [7] (fun i wr => ∃ (k p : Nat) (vk vv vi : Value) (ks vs : List (List Int)) (is : List Int), i = .int .i64 k ∧ k ≤ C ∧ RR W3 w.heap.size (w.heap.size + 1) w2.heap.size 29 true (rparseN true l C 3 [] [] []) l C k wr p vk vv vi ks vs is)
    (fun i _ => C - (intOf i).toNat)
  case atStart => exact ⟨0, 3, _, _, _, _, _, _, rfl, Nat.zero_le _, rfl, hR4, by omega, hN4, rfl, Nat.zero_le _, Nat.zero_le _, LenLe.nil' rfl, LenLe.nil' rfl, hc4.one⟩
  case round =>
    obtain ⟨k, p, vk, vv, vi, ks, vs, is, rfl, hk, H⟩ := hrel
    generalize rparseN true l C 3 [] [] [] = X at *
    clear d0 hc4 hN4 hR4 hN3
    have hN := H.node
    have hZ : Blk wr w.heap.size 29 zeroNode := (H.chg.block _ hZ3.lt (fun e => by rcases e with e | e | e <;> omega)).trans hZ3
    have hB : Below w.heap.size w wr := hB3.trans (H.chg.below hB3.size fun i hi => by rcases hi with e | e | e <;> omega)
    have q1 : wr.cell? ⟨w.heap.size + 1, 1, none⟩ = some (.int .i64 (p : Int)) := H.rd.cell.1
    have hpp := H.pos
    by_cases hcond : k < C ∧ p < l.length
    · have hkI : (k : Int) < (C : Int) := by omega
      have hpI : (p : Int) < (l.length : Int) := by omega
      have hkC : k < C := hcond.1
      have hp1 : p ≤ 1024 := by omega
      obtain ⟨s, hs, hs'⟩ := rnum_nat ho p 1
      obtain ⟨m, hm, hm'⟩ := rnum_nat ho (p + 1) 2
      have hs1 : s ≤ 255 := by omega
      have hm1 : m ≤ 65535 := by omega
      have HX := Lib.hid (H.leaf hcond.1 hcond.2)
      rw [hs, hm, Int.toNat_natCast, Int.toNat_natCast] at HX
      have HC1 : Hid (Calls Try.prog 32 #[.pointer (some ⟨w.heap.size + 1, 0, none⟩), .int .i64 1] wr fun e w' => e = .returned (.int .i64 s) ∧ RdAt w' w.heap.size (w.heap.size + 1) l (p + 1) ∧ Chg wr w' (fun k => k = w.heap.size + 1)) :=
        Lib.hid ((rnumber_any w.heap.size (w.heap.size + 1) l p 1 wr H.rd (by omega) (by omega) (by omega) (by omega) ho).mono fun e w' ⟨h, r⟩ => ⟨by rw [h, hs], r⟩)
      have HC2 : Hid (∀ w1, RdAt w1 w.heap.size (w.heap.size + 1) l (p + 1) → Calls Try.prog 32 #[.pointer (some ⟨w.heap.size + 1, 0, none⟩), .int .i64 2] w1 fun e w' => e = .returned (.int .i64 m) ∧ RdAt w' w.heap.size (w.heap.size + 1) l (p + 3) ∧ Chg w1 w' (fun k => k = w.heap.size + 1)) :=
        Lib.hid fun w1 hR1 => (rnumber_any w.heap.size (w.heap.size + 1) l (p + 1) 2 w1 hR1 (by omega) (by omega) (by omega) (by omega) ho).mono fun e w' ⟨h, r⟩ => ⟨by rw [h, hm], r⟩
      have HC3 : Hid (∀ w1, RdAt w1 w.heap.size (w.heap.size + 1) l (p + 3) → Calls Try.prog 33 #[.pointer (some ⟨w.heap.size + 1, 0, none⟩), .int .i64 s] w1 fun e w' => ∃ v, e = .returned v ∧ Own w' w1.heap.size v (rsome l (p + 3) s) ∧ RdAt w' w.heap.size (w.heap.size + 1) l (p + 3 + (rsome l (p + 3) s).length) ∧ Chg w1 w' (fun k => k = w.heap.size + 1)) :=
        Lib.hid fun w1 hR1 => rsome_any w.heap.size (w.heap.size + 1) l (p + 3) s w1 hR1 (by omega) (by omega) (by omega) (by omega) ho
      have hxl := rsome_len l (p + 3) s
      have hxo : Oct (rsome l (p + 3) s) := (ho.drop _).take _
      have HC4 : Hid (∀ w1, RdAt w1 w.heap.size (w.heap.size + 1) l (p + 3 + (rsome l (p + 3) s).length) → Calls Try.prog 33 #[.pointer (some ⟨w.heap.size + 1, 0, none⟩), .int .i64 m] w1 fun e w' => ∃ v, e = .returned v ∧ Own w' w1.heap.size v (rsome l (p + 3 + (rsome l (p + 3) s).length) m) ∧ RdAt w' w.heap.size (w.heap.size + 1) l (p + 3 + (rsome l (p + 3) s).length + (rsome l (p + 3 + (rsome l (p + 3) s).length) m).length) ∧ Chg w1 w' (fun k => k = w.heap.size + 1)) :=
        Lib.hid fun w1 hR1 => rsome_any w.heap.size (w.heap.size + 1) l (p + 3 + (rsome l (p + 3) s).length) m w1 hR1 (by omega) (by omega) (by omega) (by omega) ho
      have hyl := rsome_len l (p + 3 + (rsome l (p + 3) s).length) m
      have hyo : Oct (rsome l (p + 3 + (rsome l (p + 3) s).length) m) := (ho.drop _).take _
      clear hs hs' hm hm'
      generalize rsome l (p + 3 + (rsome l (p + 3) s).length) m = y at *
      generalize rsome l (p + 3) s = x at *
      have HXO := Lib.hid hxo
      have HYO := Lib.hid hyo
      have HH := Lib.hid H
      have hlk := H.lk
      have hlv := H.lv
      have hli := H.li
      have hkb : ks.length ≤ 65535 := by omega
      have hvb : vs.length ≤ 65535 := by omega
      clear H hcond hxo hyo hlk
      go_wp2_with fail
      refine HC1.out.mono ?_
      rintro e w4 ⟨rfl, hR4, hc4⟩
      have hN4 := hN.rd HH.out.rd hc4 (by omega)
      have q0 : w4.cell? ⟨w2.heap.size, 0, none⟩ = some (.bool true) := hN4.blk.cell 0
      clear q1
      go_wp2_with fail
      refine (HC2.out w4 hR4).mono ?_
      rintro e w5 ⟨rfl, hR5, hc5⟩
      have hN5 := hN4.rd hR4 hc5 (by omega)
      have hCH : Chg wr w5 (RS (w.heap.size + 1) w2.heap.size) := hc4.one.rs hc5.one
      clear hc4 hc5 hR4 hN4 q0 HC1 HC2 hN hZ hB
      go_upto_region 14 with fail
      go_cut [] (fun wx => ∃ v7, NodeS wx 29 w2.heap.size (w2.heap.size + 1) true v7 vv vi (ks ++ [x]) vs is ∧ RdAt wx w.heap.size (w.heap.size + 1) l (p + 3 + x.length) ∧ Chg wr wx (RS (w.heap.size + 1) w2.heap.size))
      case first =>
        obtain ⟨d3, d4⟩ : w5.cell? ⟨w2.heap.size, 1, none⟩ = some vk ∧ w5.frozen? ⟨w2.heap.size, 1, none⟩ = false := ⟨hN5.blk.cell 1, hN5.blk.free 1⟩
        have hR5d := hR5.drew
        have hN5d := hN5.drew
        go_region_law (first
          | (go_simp; go_at_call 33; refine (HC3.out _ hR5d).mono ?_; rintro e w6 ⟨v6, rfl, hown6, hR6, hc6⟩; obtain ⟨A6, c6, rfl, _⟩ := hown6.parts; have hN6 := hN5d.rd hR5d hc6 (by omega); obtain ⟨kv, hkr, hkv⟩ := hN6.keyRow; obtain ⟨e3, e4⟩ : w6.cell? ⟨w2.heap.size, 1, none⟩ = some vk ∧ w6.frozen? ⟨w2.heap.size, 1, none⟩ = false := ⟨hN6.blk.cell 1, hN6.blk.free 1⟩; have e5 : ∀ o, (w6.alloc o).cell? ⟨w2.heap.size, 1, none⟩ = some vk := fun o => (hN6.alloc o).blk.cell 1)
          | (refine appG_stepS Try.underlying22 info_rows rfl (by decide) rfl (.tmp 56) (.tmp 60) rfl (w2.heap.size + 1) vk ks.length kv ?_ ?_ (w6.heap.size + 1) (some ⟨w6.heap.size, 0, none⟩) 1 1 [.slice A6 x.length c6] ?_ ?_ ?_ ?_ ?_ ?_ ?_ ?_; (simp [Act.eval]); (exact World.ownsRow.alloc hkr _); (simp [Act.eval]); (exact cells_blk w6 _ _); (simp); (intro u hu; simp at hu; subst hu; rfl); (unfold maxLen; omega); (omega); (exact Nat.le_trans hN6.size (by simp)); intro A9 c9 w9 hr9 hg9; have hb9 := blk_row (hN6.alloc _).blk (World.ownsRow.alloc hkr _) hg9 (Nat.lt_succ_self _); obtain ⟨g3, g4⟩ : w9.cell? ⟨w2.heap.size, 1, none⟩ = some vk ∧ w9.frozen? ⟨w2.heap.size, 1, none⟩ = false := ⟨hb9.cell 1, hb9.free 1⟩))
        all_goals
          go_wp2_with fail
          go_meet
          have hv6 := hown6.rowV HXO.out
          have hNF := (hN6.alloc (.cells #[.slice A6 x.length c6] 26)).key (World.ownsRow.alloc hkr _) (hkv.keep (BK.of_below ((Below.refl _ _).alloc (Nat.le_refl _) _))) (hv6.keep (BK.of_below ((Below.refl _ _).alloc (Nat.le_refl _) _))) hr9 hg9
          have hCF := (Chg.alloc w6 (.cells #[.slice A6 x.length c6] 26) _).trans (chg_row (i := 1) (hN6.alloc (.cells #[.slice A6 x.length c6] 26)).blk (World.ownsRow.alloc hkr _) hg9 (Nat.lt_succ_self _) (.slice A9 (ks.length + 1) c9)) fun i hi => .inl hi
          exact ⟨_, hNF, hR6.chg hCF (by omega) (fun i hi => by omega), ((hCH.rs (Chg.drew w5 _)).rs hc6.one).rs hCF.node⟩
      case rest =>
        obtain ⟨v7, hN7, hR7, hCH7⟩ := hcut
        clear hN5 hR5 HC3 hCH
        have q0 : wc.cell? ⟨w2.heap.size, 0, none⟩ = some (.bool true) := hN7.blk.cell 0
        go_upto_region 16 with fail
        obtain ⟨d3, d4⟩ : wc.cell? ⟨w2.heap.size, 2, none⟩ = some vv ∧ wc.frozen? ⟨w2.heap.size, 2, none⟩ = false := ⟨hN7.blk.cell 2, hN7.blk.free 2⟩
        have hR7d := hR7.drew
        have hN7d := hN7.drew
        clear q0
        go_region_law (first
          | (go_simp; go_at_call 33; refine (HC4.out _ hR7d).mono ?_; rintro e w6 ⟨v6, rfl, hown6, hR6, hc6⟩; obtain ⟨A6, c6, rfl, _⟩ := hown6.parts; have hN6 := hN7d.rd hR7d hc6 (by omega); obtain ⟨kv, hkr, hkv⟩ := hN6.valRow; obtain ⟨e3, e4⟩ : w6.cell? ⟨w2.heap.size, 2, none⟩ = some vv ∧ w6.frozen? ⟨w2.heap.size, 2, none⟩ = false := ⟨hN6.blk.cell 2, hN6.blk.free 2⟩; have e5 : ∀ o, (w6.alloc o).cell? ⟨w2.heap.size, 2, none⟩ = some vv := fun o => (hN6.alloc o).blk.cell 2)
          | (refine appG_stepS Try.underlying22 info_rows rfl (by decide) rfl (.tmp 66) (.tmp 70) rfl (w2.heap.size + 1) vv vs.length kv ?_ ?_ (w6.heap.size + 1) (some ⟨w6.heap.size, 0, none⟩) 1 1 [.slice A6 y.length c6] ?_ ?_ ?_ ?_ ?_ ?_ ?_ ?_; (simp [Act.eval]); (exact World.ownsRow.alloc hkr _); (simp [Act.eval]); (exact cells_blk w6 _ _); (simp); (intro u hu; simp at hu; subst hu; rfl); (unfold maxLen; omega); (omega); (exact Nat.le_trans hN6.size (by simp)); intro A9 c9 w9 hr9 hg9; have hb9 := blk_row (hN6.alloc _).blk (World.ownsRow.alloc hkr _) hg9 (Nat.lt_succ_self _); obtain ⟨g3, g4⟩ : w9.cell? ⟨w2.heap.size, 2, none⟩ = some vv ∧ w9.frozen? ⟨w2.heap.size, 2, none⟩ = false := ⟨hb9.cell 2, hb9.free 2⟩))
        all_goals
          go_wp2
          go_roundw
          case rel =>
            have hv6 := hown6.rowV HYO.out
            have hNF := (hN6.alloc (.cells #[.slice A6 y.length c6] 26)).val (World.ownsRow.alloc hkr _) (hkv.keep (BK.of_below ((Below.refl _ _).alloc (Nat.le_refl _) _))) (hv6.keep (BK.of_below ((Below.refl _ _).alloc (Nat.le_refl _) _))) hr9 hg9
            have hCF := (Chg.alloc w6 (.cells #[.slice A6 y.length c6] 26) _).trans (chg_row (i := 2) (hN6.alloc (.cells #[.slice A6 y.length c6] 26)).blk (World.ownsRow.alloc hkr _) hg9 (Nat.lt_succ_self _) (.slice A9 (vs.length + 1) c9)) fun i hi => .inl hi
            exact ⟨k + 1, p + 3 + x.length + y.length, _, _, vi, _, _, is, by go_num, by omega, HH.out.next HX.out (hR6.chg hCF (by omega) (fun i hi => by omega)) (by omega) (by omega) hNF ⟨HH.out.vl.snoc (by omega), by simp; omega⟩ (by omega) (((hCH7.rs (Chg.drew wc _)).rs hc6.one).rs hCF.node)⟩
          case measure => simp [intOf]; omega
    · by_cases hkC : k < C
      · have hkI : (k : Int) < (C : Int) := by omega
        have hpI : ¬ (p : Int) < (l.length : Int) := by omega
        have HP : Hid (rparse l = (true, ks, vs, is)) := Lib.hid (by rw [HN.out, H.end_ hk (by omega)])
        have hlk := H.lk
        have hlv := H.lv
        have hli := H.li
        have hkb : ks.length ≤ 65535 := by omega
        have hvb : vs.length ≤ 65535 := by omega
        have hib : is.length ≤ 65536 := by omega
        have hkl := H.kl
        have hvl := H.vl
        clear H hlk hlv hli hk hcond
        obtain ⟨Ak, ck, Av, cv, Ai, ci, rfl, rfl, rfl, hAt⟩ := hN.node
        have HWR := Lib.hid (rwrite_any true Ak ks ck Av vs cv Ai is ci wr hAt hkl hvl (by omega) (by omega) (by omega))
        obtain ⟨p0, p1, p2, p3⟩ : wr.cell? ⟨w2.heap.size, 0, none⟩ = some (.bool true) ∧ wr.cell? ⟨w2.heap.size, 1, none⟩ = some (.slice Ak ks.length ck) ∧ wr.cell? ⟨w2.heap.size, 2, none⟩ = some (.slice Av vs.length cv) ∧ wr.cell? ⟨w2.heap.size, 3, none⟩ = some (.slice Ai is.length ci) := ⟨hN.blk.cell 0, hN.blk.cell 1, hN.blk.cell 2, hN.blk.cell 3⟩
        clear hkl hvl hAt
        cases hf : frmB true ks vs is with
        | false =>
          rw [hf] at HWR
          have HNP := Lib.hid (rno_page HP.out (fun h => by rw [hf] at h; cases h.1))
          clear hf
          go_wp2_with fail
          refine HWR.out.mono ?_
          rintro e w6 ⟨⟨v6, rfl, hown6⟩, hb6⟩
          have hBF : Below w.heap.size w w6 := hB.trans (hb6.mono hB.size)
          have hZ6 : Blk w6 w.heap.size 29 zeroNode := hZ.below hb6 hZ.lt
          have z0 := hZ6.free 0
          have z1 := hZ6.free 1
          have z2 := hZ6.free 2
          have z3 := hZ6.free 3
          obtain ⟨k0, k1, k2, k3⟩ : w6.cell? ⟨w.heap.size, 0, none⟩ = some (.bool false) ∧ w6.cell? ⟨w.heap.size, 1, none⟩ = some (.slice none 0 0) ∧ w6.cell? ⟨w.heap.size, 2, none⟩ = some (.slice none 0 0) ∧ w6.cell? ⟨w.heap.size, 3, none⟩ = some (.slice none 0 0) := ⟨hZ6.cell 0, hZ6.cell 1, hZ6.cell 2, hZ6.cell 3⟩
          obtain ⟨W9, hW9⟩ : ∃ W9, W9 = (((w6.setCell ⟨w.heap.size, 0, none⟩ (.bool false)).setCell ⟨w.heap.size, 1, none⟩ (.slice none 0 0)).setCell ⟨w.heap.size, 2, none⟩ (.slice none 0 0)).setCell ⟨w.heap.size, 3, none⟩ (.slice none 0 0) := ⟨_, rfl⟩
          have hFin : Below w.heap.size w W9 := by rw [hW9]; exact hBF.trans ((chg_four w6 w.heap.size (.bool false) (.slice none 0 0) (.slice none 0 0) (.slice none 0 0)).below hBF.size fun i hi => by omega)
          have hZF : Blk W9 w.heap.size 29 zeroNode := by rw [hW9]; exact hZ6.four (.bool false) (.slice none 0 0) (.slice none 0 0) (.slice none 0 0)
          obtain ⟨j0, j1, j2, j3⟩ : W9.cell? ⟨w.heap.size, 0, none⟩ = some (.bool false) ∧ W9.cell? ⟨w.heap.size, 1, none⟩ = some (.slice none 0 0) ∧ W9.cell? ⟨w.heap.size, 2, none⟩ = some (.slice none 0 0) ∧ W9.cell? ⟨w.heap.size, 3, none⟩ = some (.slice none 0 0) := ⟨hZF.cell 0, hZF.cell 1, hZF.cell 2, hZF.cell 3⟩
          have HW9 := Lib.hid hW9
          clear hW9 hown6 p0 p1 p2 p3
          go_wp2
          rw [← HW9.out]
          exact bodyPost_ret (v := .tuple #[.agg #[.bool false, .slice none 0 0, .slice none 0 0, .slice none 0 0], .int .i64 11]) (by simp [results, Try.results16, go_sem, j0, j1, j2, j3]) rfl ⟨.inr ⟨HNP.out, rfl⟩, hFin⟩
        | true =>
          rw [hf] at HWR
          have HIS : Hid (l = pageL true ks vs is → IsPage l true ks vs is) := Lib.hid fun e => ⟨hf, e.symm⟩
          have HNO : Hid (¬ l = pageL true ks vs is → ∀ (lf : Bool) (ks vs : List (List Int)) (is : List Int), ¬ IsPage l lf ks vs is) := Lib.hid fun hne => rno_page HP.out (fun h => hne h.2)
          clear hf
          generalize pageL true ks vs is = PG at *
          go_wp2_with fail
          refine HWR.out.mono ?_
          rintro e w5 ⟨⟨v6, rfl, hown6⟩, hb6⟩
          rw [if_pos rfl] at hown6 ⊢
          obtain ⟨A6, c6, rfl, h61, h62, hcl6⟩ := hown6.parts
          have hB5 : Below w.heap.size w w5 := hB.trans (hb6.mono hB.size)
          have HEQ := Lib.hid (same_b A A6 l PG c c6 w5 (ha.below hB5).whole hcl6 (by omega))
          clear hown6 p0 p1 p2 p3
          by_cases he : l = PG
          · rw [show sameB l PG = true from decide_eq_true he] at HEQ
            have HIP := Lib.hid (HIS.out he)
            clear he
            go_wp2_with (first | (go_at_call 14; refine HEQ.out.mono ?_; rintro e w6 ⟨rfl, hb7⟩; have hb67 := hb6.trans (hb7.mono hb6.size); have hN6 := hN.below hb67; have hZ6 := hZ.below hb67 hZ.lt; have z0 := hZ6.free 0; have z1 := hZ6.free 1; have z2 := hZ6.free 2; have z3 := hZ6.free 3; obtain ⟨k0, k1, k2, k3⟩ : w6.cell? ⟨w.heap.size, 0, none⟩ = some (.bool false) ∧ w6.cell? ⟨w.heap.size, 1, none⟩ = some (.slice none 0 0) ∧ w6.cell? ⟨w.heap.size, 2, none⟩ = some (.slice none 0 0) ∧ w6.cell? ⟨w.heap.size, 3, none⟩ = some (.slice none 0 0) := ⟨hZ6.cell 0, hZ6.cell 1, hZ6.cell 2, hZ6.cell 3⟩; obtain ⟨p0, p1, p2, p3⟩ : w6.cell? ⟨w2.heap.size, 0, none⟩ = some (.bool true) ∧ w6.cell? ⟨w2.heap.size, 1, none⟩ = some (.slice Ak ks.length ck) ∧ w6.cell? ⟨w2.heap.size, 2, none⟩ = some (.slice Av vs.length cv) ∧ w6.cell? ⟨w2.heap.size, 3, none⟩ = some (.slice Ai is.length ci) := ⟨hN6.blk.cell 0, hN6.blk.cell 1, hN6.blk.cell 2, hN6.blk.cell 3⟩))
            have hBF : Below w.heap.size w w6 := hB.trans (hb67.mono hB.size)
            obtain ⟨W9, hW9⟩ : ∃ W9, W9 = (((w6.setCell ⟨w.heap.size, 0, none⟩ (.bool true)).setCell ⟨w.heap.size, 1, none⟩ (.slice Ak ks.length ck)).setCell ⟨w.heap.size, 2, none⟩ (.slice Av vs.length cv)).setCell ⟨w.heap.size, 3, none⟩ (.slice Ai is.length ci) := ⟨_, rfl⟩
            have hCF : Chg w6 W9 (fun k => k = w.heap.size) := by rw [hW9]; exact chg_four w6 w.heap.size _ _ _ _
            have hFin : Below w.heap.size w W9 := hBF.trans (hCF.below hBF.size fun i hi => by omega)
            have hZF : Blk W9 w.heap.size 29 #[.bool true, .slice Ak ks.length ck, .slice Av vs.length cv, .slice Ai is.length ci] := by rw [hW9]; exact hZ6.four _ _ _ _
            have HAt := Lib.hid (hN6.chg hCF hZ6 (by decide) (by omega) (by omega)).at_.2.2.2
            obtain ⟨j0, j1, j2, j3⟩ : W9.cell? ⟨w.heap.size, 0, none⟩ = some (.bool true) ∧ W9.cell? ⟨w.heap.size, 1, none⟩ = some (.slice Ak ks.length ck) ∧ W9.cell? ⟨w.heap.size, 2, none⟩ = some (.slice Av vs.length cv) ∧ W9.cell? ⟨w.heap.size, 3, none⟩ = some (.slice Ai is.length ci) := ⟨hZF.cell 0, hZF.cell 1, hZF.cell 2, hZF.cell 3⟩
            rw [← hW9]
            exact bodyPost_ret (v := .tuple #[nodeV true Ak ks ck Av vs cv Ai is ci, .int .i64 0]) (by simp [results, Try.results16, go_sem, j0, j1, j2, j3]) rfl ⟨.inl ⟨true, Ak, ks, ck, Av, vs, cv, Ai, is, ci, HIP.out, rfl, HAt.out⟩, hFin⟩
          · rw [show sameB l PG = false from decide_eq_false he] at HEQ
            have HNP := Lib.hid (HNO.out he)
            clear he
            go_wp2_with (first | (go_at_call 14; refine HEQ.out.mono ?_; rintro e w6 ⟨rfl, hb7⟩; have hb67 := hb6.trans (hb7.mono hb6.size); have hZ6 := hZ.below hb67 hZ.lt; have z0 := hZ6.free 0; have z1 := hZ6.free 1; have z2 := hZ6.free 2; have z3 := hZ6.free 3; obtain ⟨k0, k1, k2, k3⟩ : w6.cell? ⟨w.heap.size, 0, none⟩ = some (.bool false) ∧ w6.cell? ⟨w.heap.size, 1, none⟩ = some (.slice none 0 0) ∧ w6.cell? ⟨w.heap.size, 2, none⟩ = some (.slice none 0 0) ∧ w6.cell? ⟨w.heap.size, 3, none⟩ = some (.slice none 0 0) := ⟨hZ6.cell 0, hZ6.cell 1, hZ6.cell 2, hZ6.cell 3⟩))
            have hBF : Below w.heap.size w w6 := hB.trans (hb67.mono hB.size)
            obtain ⟨W9, hW9⟩ : ∃ W9, W9 = (((w6.setCell ⟨w.heap.size, 0, none⟩ (.bool false)).setCell ⟨w.heap.size, 1, none⟩ (.slice none 0 0)).setCell ⟨w.heap.size, 2, none⟩ (.slice none 0 0)).setCell ⟨w.heap.size, 3, none⟩ (.slice none 0 0) := ⟨_, rfl⟩
            have hFin : Below w.heap.size w W9 := by rw [hW9]; exact hBF.trans ((chg_four w6 w.heap.size (.bool false) (.slice none 0 0) (.slice none 0 0) (.slice none 0 0)).below hBF.size fun i hi => by omega)
            have hZF : Blk W9 w.heap.size 29 zeroNode := by rw [hW9]; exact hZ6.four (.bool false) (.slice none 0 0) (.slice none 0 0) (.slice none 0 0)
            obtain ⟨j0, j1, j2, j3⟩ : W9.cell? ⟨w.heap.size, 0, none⟩ = some (.bool false) ∧ W9.cell? ⟨w.heap.size, 1, none⟩ = some (.slice none 0 0) ∧ W9.cell? ⟨w.heap.size, 2, none⟩ = some (.slice none 0 0) ∧ W9.cell? ⟨w.heap.size, 3, none⟩ = some (.slice none 0 0) := ⟨hZF.cell 0, hZF.cell 1, hZF.cell 2, hZF.cell 3⟩
            have HW9 := Lib.hid hW9
            rw [← hW9]
            exact bodyPost_ret (v := .tuple #[.agg #[.bool false, .slice none 0 0, .slice none 0 0, .slice none 0 0], .int .i64 11]) (by simp [results, Try.results16, go_sem, j0, j1, j2, j3]) rfl ⟨.inr ⟨HNP.out, rfl⟩, hFin⟩
      · have hkI : ¬ (k : Int) < (C : Int) := by omega
        have HP : Hid (rparse l = (true, ks, vs, is)) := Lib.hid (by rw [HN.out, H.end_ hk (by omega)])
        have hlk := H.lk
        have hlv := H.lv
        have hli := H.li
        have hkb : ks.length ≤ 65535 := by omega
        have hvb : vs.length ≤ 65535 := by omega
        have hib : is.length ≤ 65536 := by omega
        have hkl := H.kl
        have hvl := H.vl
        clear H hlk hlv hli hk hcond
        obtain ⟨Ak, ck, Av, cv, Ai, ci, rfl, rfl, rfl, hAt⟩ := hN.node
        have HWR := Lib.hid (rwrite_any true Ak ks ck Av vs cv Ai is ci wr hAt hkl hvl (by omega) (by omega) (by omega))
        obtain ⟨p0, p1, p2, p3⟩ : wr.cell? ⟨w2.heap.size, 0, none⟩ = some (.bool true) ∧ wr.cell? ⟨w2.heap.size, 1, none⟩ = some (.slice Ak ks.length ck) ∧ wr.cell? ⟨w2.heap.size, 2, none⟩ = some (.slice Av vs.length cv) ∧ wr.cell? ⟨w2.heap.size, 3, none⟩ = some (.slice Ai is.length ci) := ⟨hN.blk.cell 0, hN.blk.cell 1, hN.blk.cell 2, hN.blk.cell 3⟩
        clear hkl hvl hAt
        cases hf : frmB true ks vs is with
        | false =>
          rw [hf] at HWR
          have HNP := Lib.hid (rno_page HP.out (fun h => by rw [hf] at h; cases h.1))
          clear hf
          go_wp2_with fail
          refine HWR.out.mono ?_
          rintro e w6 ⟨⟨v6, rfl, hown6⟩, hb6⟩
          have hBF : Below w.heap.size w w6 := hB.trans (hb6.mono hB.size)
          have hZ6 : Blk w6 w.heap.size 29 zeroNode := hZ.below hb6 hZ.lt
          have z0 := hZ6.free 0
          have z1 := hZ6.free 1
          have z2 := hZ6.free 2
          have z3 := hZ6.free 3
          obtain ⟨k0, k1, k2, k3⟩ : w6.cell? ⟨w.heap.size, 0, none⟩ = some (.bool false) ∧ w6.cell? ⟨w.heap.size, 1, none⟩ = some (.slice none 0 0) ∧ w6.cell? ⟨w.heap.size, 2, none⟩ = some (.slice none 0 0) ∧ w6.cell? ⟨w.heap.size, 3, none⟩ = some (.slice none 0 0) := ⟨hZ6.cell 0, hZ6.cell 1, hZ6.cell 2, hZ6.cell 3⟩
          obtain ⟨W9, hW9⟩ : ∃ W9, W9 = (((w6.setCell ⟨w.heap.size, 0, none⟩ (.bool false)).setCell ⟨w.heap.size, 1, none⟩ (.slice none 0 0)).setCell ⟨w.heap.size, 2, none⟩ (.slice none 0 0)).setCell ⟨w.heap.size, 3, none⟩ (.slice none 0 0) := ⟨_, rfl⟩
          have hFin : Below w.heap.size w W9 := by rw [hW9]; exact hBF.trans ((chg_four w6 w.heap.size (.bool false) (.slice none 0 0) (.slice none 0 0) (.slice none 0 0)).below hBF.size fun i hi => by omega)
          have hZF : Blk W9 w.heap.size 29 zeroNode := by rw [hW9]; exact hZ6.four (.bool false) (.slice none 0 0) (.slice none 0 0) (.slice none 0 0)
          obtain ⟨j0, j1, j2, j3⟩ : W9.cell? ⟨w.heap.size, 0, none⟩ = some (.bool false) ∧ W9.cell? ⟨w.heap.size, 1, none⟩ = some (.slice none 0 0) ∧ W9.cell? ⟨w.heap.size, 2, none⟩ = some (.slice none 0 0) ∧ W9.cell? ⟨w.heap.size, 3, none⟩ = some (.slice none 0 0) := ⟨hZF.cell 0, hZF.cell 1, hZF.cell 2, hZF.cell 3⟩
          have HW9 := Lib.hid hW9
          clear hW9 hown6 p0 p1 p2 p3
          go_wp2
          rw [← HW9.out]
          exact bodyPost_ret (v := .tuple #[.agg #[.bool false, .slice none 0 0, .slice none 0 0, .slice none 0 0], .int .i64 11]) (by simp [results, Try.results16, go_sem, j0, j1, j2, j3]) rfl ⟨.inr ⟨HNP.out, rfl⟩, hFin⟩
        | true =>
          rw [hf] at HWR
          have HIS : Hid (l = pageL true ks vs is → IsPage l true ks vs is) := Lib.hid fun e => ⟨hf, e.symm⟩
          have HNO : Hid (¬ l = pageL true ks vs is → ∀ (lf : Bool) (ks vs : List (List Int)) (is : List Int), ¬ IsPage l lf ks vs is) := Lib.hid fun hne => rno_page HP.out (fun h => hne h.2)
          clear hf
          generalize pageL true ks vs is = PG at *
          go_wp2_with fail
          refine HWR.out.mono ?_
          rintro e w5 ⟨⟨v6, rfl, hown6⟩, hb6⟩
          rw [if_pos rfl] at hown6 ⊢
          obtain ⟨A6, c6, rfl, h61, h62, hcl6⟩ := hown6.parts
          have hB5 : Below w.heap.size w w5 := hB.trans (hb6.mono hB.size)
          have HEQ := Lib.hid (same_b A A6 l PG c c6 w5 (ha.below hB5).whole hcl6 (by omega))
          clear hown6 p0 p1 p2 p3
          by_cases he : l = PG
          · rw [show sameB l PG = true from decide_eq_true he] at HEQ
            have HIP := Lib.hid (HIS.out he)
            clear he
            go_wp2_with (first | (go_at_call 14; refine HEQ.out.mono ?_; rintro e w6 ⟨rfl, hb7⟩; have hb67 := hb6.trans (hb7.mono hb6.size); have hN6 := hN.below hb67; have hZ6 := hZ.below hb67 hZ.lt; have z0 := hZ6.free 0; have z1 := hZ6.free 1; have z2 := hZ6.free 2; have z3 := hZ6.free 3; obtain ⟨k0, k1, k2, k3⟩ : w6.cell? ⟨w.heap.size, 0, none⟩ = some (.bool false) ∧ w6.cell? ⟨w.heap.size, 1, none⟩ = some (.slice none 0 0) ∧ w6.cell? ⟨w.heap.size, 2, none⟩ = some (.slice none 0 0) ∧ w6.cell? ⟨w.heap.size, 3, none⟩ = some (.slice none 0 0) := ⟨hZ6.cell 0, hZ6.cell 1, hZ6.cell 2, hZ6.cell 3⟩; obtain ⟨p0, p1, p2, p3⟩ : w6.cell? ⟨w2.heap.size, 0, none⟩ = some (.bool true) ∧ w6.cell? ⟨w2.heap.size, 1, none⟩ = some (.slice Ak ks.length ck) ∧ w6.cell? ⟨w2.heap.size, 2, none⟩ = some (.slice Av vs.length cv) ∧ w6.cell? ⟨w2.heap.size, 3, none⟩ = some (.slice Ai is.length ci) := ⟨hN6.blk.cell 0, hN6.blk.cell 1, hN6.blk.cell 2, hN6.blk.cell 3⟩))
            have hBF : Below w.heap.size w w6 := hB.trans (hb67.mono hB.size)
            obtain ⟨W9, hW9⟩ : ∃ W9, W9 = (((w6.setCell ⟨w.heap.size, 0, none⟩ (.bool true)).setCell ⟨w.heap.size, 1, none⟩ (.slice Ak ks.length ck)).setCell ⟨w.heap.size, 2, none⟩ (.slice Av vs.length cv)).setCell ⟨w.heap.size, 3, none⟩ (.slice Ai is.length ci) := ⟨_, rfl⟩
            have hCF : Chg w6 W9 (fun k => k = w.heap.size) := by rw [hW9]; exact chg_four w6 w.heap.size _ _ _ _
            have hFin : Below w.heap.size w W9 := hBF.trans (hCF.below hBF.size fun i hi => by omega)
            have hZF : Blk W9 w.heap.size 29 #[.bool true, .slice Ak ks.length ck, .slice Av vs.length cv, .slice Ai is.length ci] := by rw [hW9]; exact hZ6.four _ _ _ _
            have HAt := Lib.hid (hN6.chg hCF hZ6 (by decide) (by omega) (by omega)).at_.2.2.2
            obtain ⟨j0, j1, j2, j3⟩ : W9.cell? ⟨w.heap.size, 0, none⟩ = some (.bool true) ∧ W9.cell? ⟨w.heap.size, 1, none⟩ = some (.slice Ak ks.length ck) ∧ W9.cell? ⟨w.heap.size, 2, none⟩ = some (.slice Av vs.length cv) ∧ W9.cell? ⟨w.heap.size, 3, none⟩ = some (.slice Ai is.length ci) := ⟨hZF.cell 0, hZF.cell 1, hZF.cell 2, hZF.cell 3⟩
            rw [← hW9]
            exact bodyPost_ret (v := .tuple #[nodeV true Ak ks ck Av vs cv Ai is ci, .int .i64 0]) (by simp [results, Try.results16, go_sem, j0, j1, j2, j3]) rfl ⟨.inl ⟨true, Ak, ks, ck, Av, vs, cv, Ai, is, ci, HIP.out, rfl, HAt.out⟩, hFin⟩
          · rw [show sameB l PG = false from decide_eq_false he] at HEQ
            have HNP := Lib.hid (HNO.out he)
            clear he
            go_wp2_with (first | (go_at_call 14; refine HEQ.out.mono ?_; rintro e w6 ⟨rfl, hb7⟩; have hb67 := hb6.trans (hb7.mono hb6.size); have hZ6 := hZ.below hb67 hZ.lt; have z0 := hZ6.free 0; have z1 := hZ6.free 1; have z2 := hZ6.free 2; have z3 := hZ6.free 3; obtain ⟨k0, k1, k2, k3⟩ : w6.cell? ⟨w.heap.size, 0, none⟩ = some (.bool false) ∧ w6.cell? ⟨w.heap.size, 1, none⟩ = some (.slice none 0 0) ∧ w6.cell? ⟨w.heap.size, 2, none⟩ = some (.slice none 0 0) ∧ w6.cell? ⟨w.heap.size, 3, none⟩ = some (.slice none 0 0) := ⟨hZ6.cell 0, hZ6.cell 1, hZ6.cell 2, hZ6.cell 3⟩))
            have hBF : Below w.heap.size w w6 := hB.trans (hb67.mono hB.size)
            obtain ⟨W9, hW9⟩ : ∃ W9, W9 = (((w6.setCell ⟨w.heap.size, 0, none⟩ (.bool false)).setCell ⟨w.heap.size, 1, none⟩ (.slice none 0 0)).setCell ⟨w.heap.size, 2, none⟩ (.slice none 0 0)).setCell ⟨w.heap.size, 3, none⟩ (.slice none 0 0) := ⟨_, rfl⟩
            have hFin : Below w.heap.size w W9 := by rw [hW9]; exact hBF.trans ((chg_four w6 w.heap.size (.bool false) (.slice none 0 0) (.slice none 0 0) (.slice none 0 0)).below hBF.size fun i hi => by omega)
            have hZF : Blk W9 w.heap.size 29 zeroNode := by rw [hW9]; exact hZ6.four (.bool false) (.slice none 0 0) (.slice none 0 0) (.slice none 0 0)
            obtain ⟨j0, j1, j2, j3⟩ : W9.cell? ⟨w.heap.size, 0, none⟩ = some (.bool false) ∧ W9.cell? ⟨w.heap.size, 1, none⟩ = some (.slice none 0 0) ∧ W9.cell? ⟨w.heap.size, 2, none⟩ = some (.slice none 0 0) ∧ W9.cell? ⟨w.heap.size, 3, none⟩ = some (.slice none 0 0) := ⟨hZF.cell 0, hZF.cell 1, hZF.cell 2, hZF.cell 3⟩
            have HW9 := Lib.hid hW9
            rw [← hW9]
            exact bodyPost_ret (v := .tuple #[.agg #[.bool false, .slice none 0 0, .slice none 0 0, .slice none 0 0], .int .i64 11]) (by simp [results, Try.results16, go_sem, j0, j1, j2, j3]) rfl ⟨.inr ⟨HNP.out, rfl⟩, hFin⟩
end Go.Proofs.Ytbngcinhjoigaaa
