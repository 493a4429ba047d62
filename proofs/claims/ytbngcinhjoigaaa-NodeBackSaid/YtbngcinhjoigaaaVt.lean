/-
  The contract of node.Read: inner nodes; all bytes.
-/
import Derived.Test.YtbngcinhjoigaaaVs
import Derived.Deep.Cut
import Derived.Deep.DeepCutAuto
set_option linter.unusedVariables false
namespace Go.Proofs.Ytbngcinhjoigaaa
open Go.RowKit

theorem appG_stepS {P : Program} {t e : TypeId} {z : Value} {size bytes : Nat} {ops : Array Oper} {w : World} {o : Oper} {a : Act} {K : Act → World → Prop} {Q : Exit → Act → World → Prop} {E : Prop} (ht : P.underlying t = some (.slice e)) (hinfo : (P.info? e).map (fun i => (i.zero, i.size, i.bytes)) = some (some z, size, bytes)) (hzs : z.cells.size = size) (hsz : 0 < size)
    (hgd : o.guard = none) (s x : Operand) (ho : o.op = .call { callee := .builtin .append, args := #[s, x], argTypes := #[t, t] })
    (base : Nat) (v : Value) (n : Nat) (xs : List Value) (hs : a.eval s = v) (hown : w.ownsRow base e size v n xs) (B : Nat) (A : Option Addr) (m c : Nat) (news : List Value) (hx : a.eval x = .slice A m c) (hc : Cells w B A news) (hl : news.length = m * size) (h1 : ∀ u ∈ news, u.oneCell' = true)
    (h63 : n + m ≤ maxLen) (hlen : (n + m) * bytes ≤ 140737488355328) (hbase : base ≤ w.heap.size)
    (h : ∀ A' c' w', w'.ownsRow base e size (.slice A' (n + m) c') (n + m) (xs ++ news) → Grew w v w' (.slice A' (n + m) c') → K (a.put o.dst (.slice A' (n + m) c')) w') :
    if Region.wanted o (yielded ops a.tmps) = true then Oper.wp P o a w K Q else E :=
  appG_step ht hinfo hzs hsz hgd s x ho base v n xs hs hown B A m c news hx hc hl h1 h63 hlen hbase fun v' w' h1 h2 => by
    obtain ⟨A', c', e, _⟩ := ownsRow_shape h1
    subst e
    exact h A' c' w' h1 h2
theorem RestAt.drew {w : World} {B g : Nat} {r : List Int} (h : RestAt w B g r) : RestAt w.drew B g r := h
set_option maxRecDepth 8000 in
set_option maxHeartbeats 8000000 in
theorem read_inner (A : Option Addr) (l : List Int) (c : Nat) (w : World) (ha : Cells w w.heap.size A (U8 l)) (ho : Oct l) (hl : l.length ≤ 100000) (hcap : l.length ≤ c ∧ c ≤ 9223372036854775807) (h1 : num l 1 ≠ 1) :
    Calls Try.prog 15 #[.slice A l.length c] w (ReadRes l w) := by
  obtain ⟨q, hq⟩ : ∃ q, num l 1 = q := ⟨_, rfl⟩
  obtain ⟨C, hC, hC'⟩ := num_nat (ho.off 1) 2
  have hC1 : C ≤ 65535 := by omega
  have HN : Hid (parseP l = (parseN false C (off (off (off l 1) 2) 4) [] [] [num (off (off l 1) 2) 4]).map fun x => (false, x)) := Lib.hid (by
    unfold parseP
    simp only [decide_eq_false h1, Bool.false_eq_true, if_false, hC, Int.toNat_natCast])
  obtain ⟨Wa, hWa⟩ : ∃ Wa, Wa = (w.alloc (.cells zeroNode 25)).alloc (.cells #[.slice A l.length c] 26) := ⟨_, rfl⟩
  have hB0 : Below w.heap.size w Wa := by rw [hWa]; exact ((Below.refl _ _).alloc (Nat.le_refl _) _).alloc (by simp) _
  have hZ0 : Blk Wa w.heap.size 25 zeroNode := by rw [hWa]; exact (Blk.new w _ _).alloc _
  have hR0 : RestAt Wa w.heap.size (w.heap.size + 1) l := by rw [hWa]; exact ⟨A, c, Blk.second w _ _ _, (ha.alloc (Nat.le_refl _) _).alloc (by simp) _, hcap⟩
  have hsz : Wa.heap.size = w.heap.size + 2 := by rw [hWa]; simp
  have HN1 : Hid (Calls Try.prog 30 #[.pointer (some ⟨w.heap.size + 1, 0, none⟩), .int .i64 1] Wa fun e w' => e = .returned (.int .i64 q) ∧ RestAt w' w.heap.size (w.heap.size + 1) (off l 1) ∧ Chg Wa w' (fun k => k = w.heap.size + 1)) :=
    Lib.hid ((number_any w.heap.size (w.heap.size + 1) l 1 Wa hR0 (by omega) (by omega) (by omega) ho).mono fun e w' ⟨h, r⟩ => ⟨by rw [h, hq], r⟩)
  have HN2 : Hid (∀ w1, RestAt w1 w.heap.size (w.heap.size + 1) (off l 1) → Calls Try.prog 30 #[.pointer (some ⟨w.heap.size + 1, 0, none⟩), .int .i64 2] w1 fun e w' => e = .returned (.int .i64 C) ∧ RestAt w' w.heap.size (w.heap.size + 1) (off (off l 1) 2) ∧ Chg w1 w' (fun k => k = w.heap.size + 1)) :=
    Lib.hid fun w1 hR1 => (number_any w.heap.size (w.heap.size + 1) (off l 1) 2 w1 hR1 (by omega) (by omega) (by have := off_len l 1; omega) (ho.off 1)).mono fun e w' ⟨h, r⟩ => ⟨by rw [h, hC], r⟩
  have HW := Lib.hid hWa
  have HS := Lib.hid hsz
  have hqb : (q == 1) = false := by rw [← hq]; simpa using h1
  obtain ⟨N4, hN4, hN4'⟩ := num_nat ((ho.off 1).off 2) 4
  have hN4b : N4 ≤ 4294967295 := by omega
  have HN3 : Hid (∀ w1, RestAt w1 w.heap.size (w.heap.size + 1) (off (off l 1) 2) → Calls Try.prog 30 #[.pointer (some ⟨w.heap.size + 1, 0, none⟩), .int .i64 4] w1 fun e w' => e = .returned (.int .i64 N4) ∧ RestAt w' w.heap.size (w.heap.size + 1) (off (off (off l 1) 2) 4) ∧ Chg w1 w' (fun k => k = w.heap.size + 1)) :=
    Lib.hid fun w1 hR1 => (number_any w.heap.size (w.heap.size + 1) (off (off l 1) 2) 4 w1 hR1 (by omega) (by omega) (by have := off_len l 1; have := off_len (off l 1) 2; omega) ((ho.off 1).off 2)).mono fun e w' ⟨h, r⟩ => ⟨by rw [h, hN4], r⟩
  rw [hN4] at HN
  clear hWa hsz h1 hC hC' hq hN4 hN4'
  go_enter Try.func15, Try.ntmps15
  go_wp2_with fail
  rw [← HW.out]
  refine HN1.out.mono ?_
  rintro e w1 ⟨rfl, hR1, hc1⟩
  go_wp2_with fail
  refine (HN2.out w1 hR1).mono ?_
  rintro e w2 ⟨rfl, hR2, hc2⟩
  have hc02 : Chg Wa w2 (fun k => k = w.heap.size + 1) := hc1.trans hc2 fun i hi => .inl hi
  have hs2 : w.heap.size + 2 ≤ w2.heap.size := by have := hc02.size; rw [HS.out] at this; exact this
  obtain ⟨W3, hW3⟩ : ∃ W3, W3 = w2.alloc (.cells #[.bool false, .slice none 0 0, .slice none 0 0, .slice none 0 0] 25) := ⟨_, rfl⟩
  have hb3 : Below w2.heap.size w2 W3 := by rw [hW3]; exact (Below.refl _ _).alloc (Nat.le_refl _) _
  have hN3 : NodeS W3 25 w2.heap.size (w2.heap.size + 1) false (.slice none 0 0) (.slice none 0 0) (.slice none 0 0) [] [] [] := by rw [hW3]; exact NodeS.new (by decide) false
  have hR3 : RestAt W3 w.heap.size (w.heap.size + 1) (off (off l 1) 2) := hR2.below hb3 (by omega) (by omega)
  have hZ2 : Blk w2 w.heap.size 25 zeroNode := (hc02.block _ hZ0.lt (fun e => by omega)).trans hZ0
  have hZ3 : Blk W3 w.heap.size 25 zeroNode := hZ2.below hb3 (by omega)
  have hB3 : Below w.heap.size w W3 := (hB0.trans (hc02.below (by rw [HS.out]; omega) fun i hi => by omega)).trans (hb3.mono (by omega))
  have HW3 := Lib.hid hW3
  have d0 : W3.cell? ⟨w2.heap.size, 0, none⟩ = some (.bool false) := hN3.blk.cell 0
  clear hW3 hb3
  go_upto_region 6 with fail
  rw [← HW3.out]
  obtain ⟨vi, hvi⟩ : ∃ vi : Value, vi = .slice none 0 0 := ⟨_, rfl⟩
  have hN3 : NodeS W3 25 w2.heap.size (w2.heap.size + 1) false (.slice none 0 0) (.slice none 0 0) vi [] [] [] := by rw [hvi]; exact hN3
  clear hvi
  obtain ⟨d3, d4⟩ : W3.cell? ⟨w2.heap.size, 3, none⟩ = some vi ∧ W3.frozen? ⟨w2.heap.size, 3, none⟩ = false := ⟨hN3.blk.cell 3, hN3.blk.free 3⟩
  have hR3d := hR3.drew
  have HO4 := Lib.hid (((ho.off 1).off 2).off 4)
  have hl4 : (off (off (off l 1) 2) 4).length ≤ 100000 := by have := off_len l 1; have := off_len (off l 1) 2; have := off_len (off (off l 1) 2) 4; omega
  have hN3d := hN3.drew
  go_cut [] (fun wx => ∃ (vk vv vi : Value), RL W3 w.heap.size (w.heap.size + 1) w2.heap.size 25 false (parseN false C (off (off (off l 1) 2) 4) [] [] [(N4 : Int)]) C 0 wx (off (off (off l 1) 2) 4) vk vv vi [] [] [(N4 : Int)])
  case first =>
    go_region_law (first
      | (go_simp; go_at_call 30; refine (HN3.out _ hR3d).mono ?_; rintro e w4 ⟨rfl, hR4, hc4⟩; have hN4 := hN3d.rest hR3d hc4 (by omega); obtain ⟨e3, e4⟩ : w4.cell? ⟨w2.heap.size, 3, none⟩ = some vi ∧ w4.frozen? ⟨w2.heap.size, 3, none⟩ = false := ⟨hN4.blk.cell 3, hN4.blk.free 3⟩; have e5 : ∀ o, (w4.alloc o).cell? ⟨w2.heap.size, 3, none⟩ = some vi := fun o => (hN4.alloc o).blk.cell 3)
      | (refine appG_stepS Try.underlying23 info_int rfl (by decide) rfl (.tmp 26) (.tmp 28) rfl (w2.heap.size + 1) vi 0 [] ?_ ?_ (w4.heap.size + 1) (some ⟨w4.heap.size, 0, none⟩) 1 1 [.int .i64 N4] ?_ ?_ ?_ ?_ ?_ ?_ ?_ ?_; (simp [Act.eval]); (exact World.ownsRow.alloc hN4.kids _); (simp [Act.eval]); (exact cells_blk w4 _ _); (simp); (intro u hu; simp at hu; subst hu; rfl); (unfold maxLen; omega); (omega); (exact Nat.le_trans hN4.size (by simp)); intro A5 c5 w5 hr5 hg5; have hb5 := blk_row (hN4.alloc _).blk (World.ownsRow.alloc hN4.kids _) hg5 (Nat.lt_succ_self _); obtain ⟨g3, g4⟩ : w5.cell? ⟨w2.heap.size, 3, none⟩ = some vi ∧ w5.frozen? ⟨w2.heap.size, 3, none⟩ = false := ⟨hb5.cell 3, hb5.free 3⟩))
    all_goals
      go_wp2_with fail
      go_meet
      have hNF := (hN4.alloc (.cells #[.int .i64 N4] 3)).kid (x := (N4 : Int)) (by omega) hr5 hg5
      have hCF := (Chg.alloc w4 (.cells #[.int .i64 N4] 3) _).trans (chg_row (i := 3) (hN4.alloc (.cells #[.int .i64 N4] 3)).blk (World.ownsRow.alloc hN4.kids _) hg5 (Nat.lt_succ_self _) (.slice A5 1 c5)) fun i hi => .inl hi
      exact ⟨_, _, _, rfl, hR4.chg hCF (by omega) (fun i hi => by omega), HO4.out, hl4, hNF, rfl, Nat.zero_le _, Nat.le_refl _, LenLe.nil' rfl, LenLe.nil' rfl, ((Chg.drew W3 _).rs hc4.one).rs hCF.node⟩
  case rest =>
  obtain ⟨vk0, vv0, vi0, H0⟩ := hcut
  clear hN3 hN3d d3 d4 hR3d HO4 hl4
  go_wp2_with fail
  go_loopw [32] (fun i wr => ∃ (k : Nat) (r : List Int) (vk vv vi : Value) (ks vs : List (List Int)) (is : List Int), i = .int .i64 k ∧ k ≤ C ∧ RL W3 w.heap.size (w.heap.size + 1) w2.heap.size 25 false (parseN false C (off (off (off l 1) 2) 4) [] [] [(N4 : Int)]) C k wr r vk vv vi ks vs is)
    (fun i _ => C - (intOf i).toNat)
  case atStart => exact ⟨0, _, _, _, _, _, _, _, rfl, Nat.zero_le _, H0⟩
  case round =>
    obtain ⟨k, r, vk, vv, vi, ks, vs, is, rfl, hk, H⟩ := hrel
    clear H0
    generalize parseN false C (off (off (off l 1) 2) 4) [] [] [(N4 : Int)] = X at *
    clear d0
    have hN := H.node
    have p0 : wr.cell? ⟨w2.heap.size, 0, none⟩ = some (.bool false) := hN.blk.cell 0
    have hZ : Blk wr w.heap.size 25 zeroNode := (H.chg.block _ hZ3.lt (fun e => by rcases e with e | e | e <;> omega)).trans hZ3
    have hB : Below w.heap.size w wr := hB3.trans (H.chg.below hB3.size fun i hi => by rcases hi with e | e | e <;> omega)
    by_cases hlt : k < C
    · have hkI : (k : Int) < (C : Int) := by omega
      have HX := Lib.hid (H.inner hlt)
      obtain ⟨s, hs, hs'⟩ := num_nat H.oct 1
      have hs1 : s ≤ 255 := by omega
      rw [hs, Int.toNat_natCast] at HX
      obtain ⟨m, hm, hm'⟩ := num_nat ((H.oct.off 1).off s) 4
      have hm1 : m ≤ 4294967295 := by omega
      rw [hm] at HX
      have hrl := H.len
      have hl1 := off_len r 1
      have hl2 := off_len (off r 1) s
      have hl3 := off_len (off (off r 1) s) 4
      have HC1 : Hid (Calls Try.prog 30 #[.pointer (some ⟨w.heap.size + 1, 0, none⟩), .int .i64 1] wr fun e w' => e = .returned (.int .i64 s) ∧ RestAt w' w.heap.size (w.heap.size + 1) (off r 1) ∧ Chg wr w' (fun k => k = w.heap.size + 1)) :=
        Lib.hid ((number_any w.heap.size (w.heap.size + 1) r 1 wr H.rest (by omega) (by omega) (by omega) H.oct).mono fun e w' ⟨h, r⟩ => ⟨by rw [h, hs], r⟩)
      have HC3 : Hid (∀ w1, RestAt w1 w.heap.size (w.heap.size + 1) (off r 1) → Calls Try.prog 31 #[.pointer (some ⟨w.heap.size + 1, 0, none⟩), .int .i64 s] w1 (TakeRes w1 w.heap.size (w.heap.size + 1) (off r 1) s (off (off r 1) s))) :=
        Lib.hid fun w1 hR1 => take_any w.heap.size (w.heap.size + 1) (off r 1) s w1 hR1 (by omega) (by omega) (by omega)
      have HC4 : Hid (∀ w1, RestAt w1 w.heap.size (w.heap.size + 1) (off (off r 1) s) → Calls Try.prog 31 #[.pointer (some ⟨w.heap.size + 1, 0, none⟩), .int .i64 0] w1 fun e w' => ∃ v, e = .returned (.tuple #[v, .bool true]) ∧ RestAt w' w.heap.size (w.heap.size + 1) (off (off r 1) s) ∧ Chg w1 w' (fun k => k = w.heap.size + 1)) :=
        Lib.hid fun w1 hR1 => (take_any w.heap.size (w.heap.size + 1) (off (off r 1) s) 0 w1 hR1 (by omega) (by omega) (by omega)).mono fun e w' ⟨v, h1, h2, h3, h4⟩ => ⟨v, by rw [h1, decide_eq_true (Nat.zero_le _)], by rw [off_zero] at h3; exact h3, h4⟩
      have HC5 : Hid (∀ w1, RestAt w1 w.heap.size (w.heap.size + 1) (off (off r 1) s) → Calls Try.prog 30 #[.pointer (some ⟨w.heap.size + 1, 0, none⟩), .int .i64 4] w1 fun e w' => e = .returned (.int .i64 m) ∧ RestAt w' w.heap.size (w.heap.size + 1) (off (off (off r 1) s) 4) ∧ Chg w1 w' (fun k => k = w.heap.size + 1)) :=
        Lib.hid fun w1 hR1 => (number_any w.heap.size (w.heap.size + 1) (off (off r 1) s) 4 w1 hR1 (by omega) (by omega) (by omega) ((H.oct.off 1).off s)).mono fun e w' ⟨h, r⟩ => ⟨by rw [h, hm], r⟩
      have HO2 := Lib.hid (H.oct.off 1)
      have HO4 := Lib.hid (((H.oct.off 1).off s).off 4)
      have hl4 : (off (off (off r 1) s) 4).length ≤ 100000 := by omega
      have hl5 : (off r 1).length ≤ 100000 := by omega
      clear hs hs' hm hm' hl1 hl2 hl3 hrl
      generalize off (off (off r 1) s) 4 = r4 at *
      generalize off (off r 1) s = r3 at *
      generalize off r 1 = r2 at *
      have HH := Lib.hid H
      clear H
      go_wp2_with fail
      refine HC1.out.mono ?_
      rintro e w4 ⟨rfl, hR4, hc4⟩
      have hN4 := hN.rest HH.out.rest hc4 (by omega)
      have q0 : w4.cell? ⟨w2.heap.size, 0, none⟩ = some (.bool false) := hN4.blk.cell 0
      go_wp2_with fail
      refine (HC3.out w4 hR4).mono ?_
      rintro e w5 ⟨v5, rfl, hown5, hR5, hc5⟩
      have hN5 := hN4.rest hR4 hc5 (by omega)
      go_wp2_with fail
      refine (HC4.out w5 hR5).mono ?_
      rintro e w6 ⟨v6, rfl, hR6, hc6⟩
      have hN6 := hN5.rest hR5 hc6 (by omega)
      have hCH : Chg wr w6 (RS (w.heap.size + 1) w2.heap.size) := (hc4.one.rs hc5.one).rs hc6.one
      have hbk56 := hR5.bk hc6
      have hBF : Below w.heap.size w w6 := hB.trans (hCH.below hB.size fun i hi => by rcases hi with e | e | e <;> omega)
      have hZ6 : Blk w6 w.heap.size 25 zeroNode := (hCH.block _ hZ.lt (fun e => by rcases e with e | e | e <;> omega)).trans hZ
      have hs6 := hN6.size
      clear hc4 hc5 hc6 hR4 hR5 hN4 hN5 HC1 HC3 HC4 p0 q0 hN
      have z0 := hZ6.free 0
      have z1 := hZ6.free 1
      have z2 := hZ6.free 2
      have z3 := hZ6.free 3
      obtain ⟨k0, k1, k2, k3⟩ : w6.cell? ⟨w.heap.size, 0, none⟩ = some (.bool false) ∧ w6.cell? ⟨w.heap.size, 1, none⟩ = some (.slice none 0 0) ∧ w6.cell? ⟨w.heap.size, 2, none⟩ = some (.slice none 0 0) ∧ w6.cell? ⟨w.heap.size, 3, none⟩ = some (.slice none 0 0) := ⟨hZ6.cell 0, hZ6.cell 1, hZ6.cell 2, hZ6.cell 3⟩
      by_cases hA : s ≤ r2.length
      · rw [if_pos hA] at hown5
        rw [decide_eq_true hA]
        have HX' : Hid (parseN false (C - (k + 1)) r4 (ks ++ [r2.take s]) vs (is ++ [(m : Int)]) = X) := Lib.hid (by rw [HX.out, if_neg (by omega)])
        have HLS : Hid ((r2.take s).length ≤ 100000 ∧ Oct (r2.take s)) := Lib.hid ⟨by simp; omega, HO2.out.take s⟩
        clear HX hA hZ hB hZ6 z0 z1 z2 z3 k0 k1 k2 k3
        generalize r2.take s = x at *
        obtain ⟨A5, c5, rfl, _⟩ := hown5.parts
        have hv5 := (hown5.rowV HLS.out.2).keep hbk56
        clear hown5
        obtain ⟨kv, hkr, hkv⟩ := hN6.keyRow
        have hlk := HH.out.lk
        have hli := HH.out.li
        have hkb : ks.length ≤ 65535 := by omega
        have hib : is.length ≤ 65536 := by omega
        clear hlk hli
        obtain ⟨p0, p1, p2, p3⟩ : w6.cell? ⟨w2.heap.size, 0, none⟩ = some (.bool false) ∧ w6.cell? ⟨w2.heap.size, 1, none⟩ = some vk ∧ w6.cell? ⟨w2.heap.size, 2, none⟩ = some vv ∧ w6.cell? ⟨w2.heap.size, 3, none⟩ = some vi := ⟨hN6.blk.cell 0, hN6.blk.cell 1, hN6.blk.cell 2, hN6.blk.cell 3⟩
        go_wp2_with (first | (at_builtin; refine appG_anyS Try.underlying22 info_rows rfl (by decide) rfl (.tmp 56) (.tmp 58) rfl (w2.heap.size + 1) vk ks.length kv rfl (World.ownsRow.alloc hkr _) _ _ 1 1 [.slice A5 x.length c5] rfl (cells_blk w6 _ _) (by simp) (by intro u hu; simp at hu; subst hu; rfl) (by unfold maxLen; omega) (by omega) (by simp; omega) ?_; intro A7 c7 w7 hr7 hg7; have hb7 := blk_row (hN6.alloc _).blk (World.ownsRow.alloc hkr _) hg7 (Nat.lt_succ_self _); have f1 := hb7.free 1; obtain ⟨q0, q1⟩ : w7.cell? ⟨w2.heap.size, 0, none⟩ = some (.bool false) ∧ w7.cell? ⟨w2.heap.size, 1, none⟩ = some vk := ⟨hb7.cell 0, hb7.cell 1⟩; have hN7 := (hN6.alloc (.cells #[.slice A5 x.length c5] 26)).key (World.ownsRow.alloc hkr _) (hkv.keep (BK.of_below ((Below.refl _ _).alloc (Nat.le_refl _) _))) (hv5.keep (BK.of_below ((Below.refl _ _).alloc (Nat.le_refl _) _))) hr7 hg7; have hc7 := chg_row (i := 1) (hN6.alloc (.cells #[.slice A5 x.length c5] 26)).blk (World.ownsRow.alloc hkr _) hg7 (Nat.lt_succ_self _) (.slice A7 (ks.length + 1) c7)))
        obtain ⟨W7, hW7⟩ : ∃ W7, W7 = w7.setCell ⟨w2.heap.size, 1, none⟩ (.slice A7 (ks.length + 1) c7) := ⟨_, rfl⟩
        rw [← hW7] at hN7 hc7
        have hCN := (Chg.alloc w6 (.cells #[.slice A5 x.length c5] 26) _).trans hc7 fun i hi => .inl hi
        have hR7 := hR6.chg hCN (by omega) (fun i hi => by omega)
        have hCH7 := hCH.rs hCN.node
        have HW7 := Lib.hid hW7
        clear hW7 p0 p1 p2 p3 q0 q1 f1 hb7 hN6 hc7 hr7 hg7 hkr hkv hv5
        rw [← HW7.out]
        obtain ⟨d3, d4⟩ : W7.cell? ⟨w2.heap.size, 3, none⟩ = some vi ∧ W7.frozen? ⟨w2.heap.size, 3, none⟩ = false := ⟨hN7.blk.cell 3, hN7.blk.free 3⟩
        have hR7d := hR7.drew
        have hN7d := hN7.drew
        go_region_law (first
          | (go_simp; go_at_call 30; refine (HC5.out _ hR7d).mono ?_; rintro e w8 ⟨rfl, hR8, hc8⟩; have hN8 := hN7d.rest hR7d hc8 (by omega); obtain ⟨e3, e4⟩ : w8.cell? ⟨w2.heap.size, 3, none⟩ = some vi ∧ w8.frozen? ⟨w2.heap.size, 3, none⟩ = false := ⟨hN8.blk.cell 3, hN8.blk.free 3⟩; have e5 : ∀ o, (w8.alloc o).cell? ⟨w2.heap.size, 3, none⟩ = some vi := fun o => (hN8.alloc o).blk.cell 3)
          | (refine appG_stepS Try.underlying23 info_int rfl (by decide) rfl (.tmp 70) (.tmp 72) rfl (w2.heap.size + 1) vi is.length (I8 is) ?_ ?_ (w8.heap.size + 1) (some ⟨w8.heap.size, 0, none⟩) 1 1 [.int .i64 m] ?_ ?_ ?_ ?_ ?_ ?_ ?_ ?_; (simp [Act.eval]); (exact World.ownsRow.alloc hN8.kids _); (simp [Act.eval]); (exact cells_blk w8 _ _); (simp); (intro u hu; simp at hu; subst hu; rfl); (unfold maxLen; omega); (omega); (exact Nat.le_trans hN8.size (by simp)); intro A9 c9 w9 hr9 hg9; have hb9 := blk_row (hN8.alloc _).blk (World.ownsRow.alloc hN8.kids _) hg9 (Nat.lt_succ_self _); obtain ⟨g3, g4⟩ : w9.cell? ⟨w2.heap.size, 3, none⟩ = some vi ∧ w9.frozen? ⟨w2.heap.size, 3, none⟩ = false := ⟨hb9.cell 3, hb9.free 3⟩))
        all_goals
          go_wp2
          go_roundw
          case rel =>
            have hNF := (hN8.alloc (.cells #[.int .i64 m] 3)).kid (x := (m : Int)) (by omega) hr9 hg9
            have hCF := (Chg.alloc w8 (.cells #[.int .i64 m] 3) _).trans (chg_row (i := 3) (hN8.alloc (.cells #[.int .i64 m] 3)).blk (World.ownsRow.alloc hN8.kids _) hg9 (Nat.lt_succ_self _) (.slice A9 (is.length + 1) c9)) fun i hi => .inl hi
            exact ⟨k + 1, r4, _, vv, _, _, vs, _, by go_num, by omega, HH.out.next_inner (((hCH7.rs (Chg.drew W7 _)).rs hc8.one).rs hCF.node) (hR8.chg hCF (by omega) (fun i hi => by omega)) HO4.out hl4 HX'.out HLS.out.1 hNF⟩
          case measure => simp [intOf]; omega
      · have HNP := Lib.hid (no_page (by rw [HN.out, HX.out, if_pos (by omega)]; rfl : parseP l = none))
        rw [decide_eq_false hA]
        obtain ⟨W9, hW9⟩ : ∃ W9, W9 = (((w6.setCell ⟨w.heap.size, 0, none⟩ (.bool false)).setCell ⟨w.heap.size, 1, none⟩ (.slice none 0 0)).setCell ⟨w.heap.size, 2, none⟩ (.slice none 0 0)).setCell ⟨w.heap.size, 3, none⟩ (.slice none 0 0) := ⟨_, rfl⟩
        have hFin : Below w.heap.size w W9 := by rw [hW9]; exact hBF.trans ((chg_four w6 w.heap.size (.bool false) (.slice none 0 0) (.slice none 0 0) (.slice none 0 0)).below hBF.size fun i hi => by omega)
        have hZF : Blk W9 w.heap.size 25 zeroNode := by rw [hW9]; exact hZ6.four (.bool false) (.slice none 0 0) (.slice none 0 0) (.slice none 0 0)
        obtain ⟨j0, j1, j2, j3⟩ : W9.cell? ⟨w.heap.size, 0, none⟩ = some (.bool false) ∧ W9.cell? ⟨w.heap.size, 1, none⟩ = some (.slice none 0 0) ∧ W9.cell? ⟨w.heap.size, 2, none⟩ = some (.slice none 0 0) ∧ W9.cell? ⟨w.heap.size, 3, none⟩ = some (.slice none 0 0) := ⟨hZF.cell 0, hZF.cell 1, hZF.cell 2, hZF.cell 3⟩
        have HW9 := Lib.hid hW9
        clear hW9 hA hown5 HX
        go_wp2
        rw [← HW9.out]
        exact bodyPost_ret (v := .tuple #[.agg #[.bool false, .slice none 0 0, .slice none 0 0, .slice none 0 0], .int .i64 11]) (by simp [results, Try.results15, go_sem, j0, j1, j2, j3]) rfl ⟨.inr ⟨HNP.out, rfl⟩, hFin⟩
    · have HP : Hid (parseP l = some (false, ks, vs, is)) := Lib.hid (by
        have h := H.parse
        rw [show C - k = 0 by omega, parseN] at h
        rw [HN.out, ← h]; rfl)
      have hlk := H.lk
      have hlv := H.lv
      have hli := H.li
      have hkb : ks.length ≤ 65535 := by omega
      have hvb : vs.length ≤ 65535 := by omega
      have hib : is.length ≤ 65536 := by omega
      have hkl := H.kl
      have hvl := H.vl
      have hkI : ¬ (k : Int) < (C : Int) := by omega
      clear H hlk hlv hli hlt hk
      obtain ⟨Ak, ck, Av, cv, Ai, ci, rfl, rfl, rfl, hAt⟩ := hN.node
      have HWR := Lib.hid (write_any false Ak ks ck Av vs cv Ai is ci wr hAt hkl hvl (by omega) (by omega) (by omega))
      obtain ⟨p0, p1, p2, p3⟩ : wr.cell? ⟨w2.heap.size, 0, none⟩ = some (.bool false) ∧ wr.cell? ⟨w2.heap.size, 1, none⟩ = some (.slice Ak ks.length ck) ∧ wr.cell? ⟨w2.heap.size, 2, none⟩ = some (.slice Av vs.length cv) ∧ wr.cell? ⟨w2.heap.size, 3, none⟩ = some (.slice Ai is.length ci) := ⟨hN.blk.cell 0, hN.blk.cell 1, hN.blk.cell 2, hN.blk.cell 3⟩
      have HOC := Lib.hid fun hf => page_oct (lf := false) (ks := ks) (vs := vs) (is := is) hf (oct_rows hAt.keys) (oct_rows hAt.vals)
      have hpl := Lib.hid fun hf => (IsPage.len ⟨hf, rfl⟩ : (pageL false ks vs is).length = 1024)
      clear hkl hvl hAt
      cases hf : frmB false ks vs is with
      | false =>
        rw [hf] at HWR
        have HNP := Lib.hid (no_page_some HP.out (fun h => by rw [hf] at h; cases h.1))
        clear hf
        go_wp2_with fail
        refine HWR.out.mono ?_
        rintro e w6 ⟨⟨v6, rfl, hown6⟩, hb6⟩
        have hBF : Below w.heap.size w w6 := hB.trans (hb6.mono hB.size)
        have hZ6 : Blk w6 w.heap.size 25 zeroNode := hZ.below hb6 hZ.lt
        have z0 := hZ6.free 0
        have z1 := hZ6.free 1
        have z2 := hZ6.free 2
        have z3 := hZ6.free 3
        obtain ⟨k0, k1, k2, k3⟩ : w6.cell? ⟨w.heap.size, 0, none⟩ = some (.bool false) ∧ w6.cell? ⟨w.heap.size, 1, none⟩ = some (.slice none 0 0) ∧ w6.cell? ⟨w.heap.size, 2, none⟩ = some (.slice none 0 0) ∧ w6.cell? ⟨w.heap.size, 3, none⟩ = some (.slice none 0 0) := ⟨hZ6.cell 0, hZ6.cell 1, hZ6.cell 2, hZ6.cell 3⟩
        obtain ⟨W9, hW9⟩ : ∃ W9, W9 = (((w6.setCell ⟨w.heap.size, 0, none⟩ (.bool false)).setCell ⟨w.heap.size, 1, none⟩ (.slice none 0 0)).setCell ⟨w.heap.size, 2, none⟩ (.slice none 0 0)).setCell ⟨w.heap.size, 3, none⟩ (.slice none 0 0) := ⟨_, rfl⟩
        have hFin : Below w.heap.size w W9 := by rw [hW9]; exact hBF.trans ((chg_four w6 w.heap.size (.bool false) (.slice none 0 0) (.slice none 0 0) (.slice none 0 0)).below hBF.size fun i hi => by omega)
        have hZF : Blk W9 w.heap.size 25 zeroNode := by rw [hW9]; exact hZ6.four (.bool false) (.slice none 0 0) (.slice none 0 0) (.slice none 0 0)
        obtain ⟨j0, j1, j2, j3⟩ : W9.cell? ⟨w.heap.size, 0, none⟩ = some (.bool false) ∧ W9.cell? ⟨w.heap.size, 1, none⟩ = some (.slice none 0 0) ∧ W9.cell? ⟨w.heap.size, 2, none⟩ = some (.slice none 0 0) ∧ W9.cell? ⟨w.heap.size, 3, none⟩ = some (.slice none 0 0) := ⟨hZF.cell 0, hZF.cell 1, hZF.cell 2, hZF.cell 3⟩
        have HW9 := Lib.hid hW9
        clear hW9 hown6 p0 p1 p2 p3
        go_wp2
        rw [← HW9.out]
        exact bodyPost_ret (v := .tuple #[.agg #[.bool false, .slice none 0 0, .slice none 0 0, .slice none 0 0], .int .i64 11]) (by simp [results, Try.results15, go_sem, j0, j1, j2, j3]) rfl ⟨.inr ⟨HNP.out, rfl⟩, hFin⟩
      | true =>
        rw [hf] at HWR
        have hpo := HOC.out hf
        have hpn := hpl.out hf
        have HIS : Hid (l = pageL false ks vs is → IsPage l false ks vs is) := Lib.hid fun e => ⟨hf, e.symm⟩
        have HNO : Hid (¬ l = pageL false ks vs is → ∀ (lf : Bool) (ks vs : List (List Int)) (is : List Int), ¬ IsPage l lf ks vs is) := Lib.hid fun hne => no_page_some HP.out (fun h => hne h.2)
        clear hf HOC hpl
        generalize pageL false ks vs is = PG at *
        go_wp2_with fail
        refine HWR.out.mono ?_
        rintro e w6 ⟨⟨v6, rfl, hown6⟩, hb6⟩
        rw [if_pos rfl] at hown6 ⊢
        obtain ⟨A6, c6, rfl, h61, h62, hcl6⟩ := hown6.parts
        have hBF : Below w.heap.size w w6 := hB.trans (hb6.mono hB.size)
        have hZ6 : Blk w6 w.heap.size 25 zeroNode := hZ.below hb6 hZ.lt
        have HEQ := Lib.hid (bytes_equal A A6 l PG c c6 w6 (ha.below hBF).whole hcl6 ho hpo)
        have z0 := hZ6.free 0
        have z1 := hZ6.free 1
        have z2 := hZ6.free 2
        have z3 := hZ6.free 3
        obtain ⟨k0, k1, k2, k3⟩ : w6.cell? ⟨w.heap.size, 0, none⟩ = some (.bool false) ∧ w6.cell? ⟨w.heap.size, 1, none⟩ = some (.slice none 0 0) ∧ w6.cell? ⟨w.heap.size, 2, none⟩ = some (.slice none 0 0) ∧ w6.cell? ⟨w.heap.size, 3, none⟩ = some (.slice none 0 0) := ⟨hZ6.cell 0, hZ6.cell 1, hZ6.cell 2, hZ6.cell 3⟩
        have hN6 := hN.below hb6
        clear hown6 hpo hpn
        by_cases he : l = PG
        · rw [show sameB l PG = true from decide_eq_true he] at HEQ
          have HIP := Lib.hid (HIS.out he)
          clear he p0 p1 p2 p3
          obtain ⟨p0, p1, p2, p3⟩ : w6.cell? ⟨w2.heap.size, 0, none⟩ = some (.bool false) ∧ w6.cell? ⟨w2.heap.size, 1, none⟩ = some (.slice Ak ks.length ck) ∧ w6.cell? ⟨w2.heap.size, 2, none⟩ = some (.slice Av vs.length cv) ∧ w6.cell? ⟨w2.heap.size, 3, none⟩ = some (.slice Ai is.length ci) := ⟨hN6.blk.cell 0, hN6.blk.cell 1, hN6.blk.cell 2, hN6.blk.cell 3⟩
          obtain ⟨W9, hW9⟩ : ∃ W9, W9 = (((w6.setCell ⟨w.heap.size, 0, none⟩ (.bool false)).setCell ⟨w.heap.size, 1, none⟩ (.slice Ak ks.length ck)).setCell ⟨w.heap.size, 2, none⟩ (.slice Av vs.length cv)).setCell ⟨w.heap.size, 3, none⟩ (.slice Ai is.length ci) := ⟨_, rfl⟩
          have hCF : Chg w6 W9 (fun k => k = w.heap.size) := by rw [hW9]; exact chg_four w6 w.heap.size _ _ _ _
          have hFin : Below w.heap.size w W9 := hBF.trans (hCF.below hBF.size fun i hi => by omega)
          have hZF : Blk W9 w.heap.size 25 #[.bool false, .slice Ak ks.length ck, .slice Av vs.length cv, .slice Ai is.length ci] := by rw [hW9]; exact hZ6.four _ _ _ _
          have HAt := Lib.hid (hN6.chg hCF hZ6 (by decide) (by omega) (by omega)).at_.2.2.2
          obtain ⟨j0, j1, j2, j3⟩ : W9.cell? ⟨w.heap.size, 0, none⟩ = some (.bool false) ∧ W9.cell? ⟨w.heap.size, 1, none⟩ = some (.slice Ak ks.length ck) ∧ W9.cell? ⟨w.heap.size, 2, none⟩ = some (.slice Av vs.length cv) ∧ W9.cell? ⟨w.heap.size, 3, none⟩ = some (.slice Ai is.length ci) := ⟨hZF.cell 0, hZF.cell 1, hZF.cell 2, hZF.cell 3⟩
          have HW9 := Lib.hid hW9
          clear hW9 hCF hZF
          go_wp2_with (first | (go_at_call 21; refine HEQ.out.mono ?_; rintro e w7 ⟨rfl, rfl⟩))
          rw [← HW9.out]
          exact bodyPost_ret (v := .tuple #[nodeV false Ak ks ck Av vs cv Ai is ci, .int .i64 0]) (by simp [results, Try.results15, go_sem, j0, j1, j2, j3]) rfl ⟨.inl ⟨false, Ak, ks, ck, Av, vs, cv, Ai, is, ci, HIP.out, rfl, HAt.out⟩, hFin⟩
        · rw [show sameB l PG = false from decide_eq_false he] at HEQ
          have HNP := Lib.hid (HNO.out he)
          clear he p0 p1 p2 p3
          obtain ⟨W9, hW9⟩ : ∃ W9, W9 = (((w6.setCell ⟨w.heap.size, 0, none⟩ (.bool false)).setCell ⟨w.heap.size, 1, none⟩ (.slice none 0 0)).setCell ⟨w.heap.size, 2, none⟩ (.slice none 0 0)).setCell ⟨w.heap.size, 3, none⟩ (.slice none 0 0) := ⟨_, rfl⟩
          have hFin : Below w.heap.size w W9 := by rw [hW9]; exact hBF.trans ((chg_four w6 w.heap.size (.bool false) (.slice none 0 0) (.slice none 0 0) (.slice none 0 0)).below hBF.size fun i hi => by omega)
          have hZF : Blk W9 w.heap.size 25 zeroNode := by rw [hW9]; exact hZ6.four (.bool false) (.slice none 0 0) (.slice none 0 0) (.slice none 0 0)
          obtain ⟨j0, j1, j2, j3⟩ : W9.cell? ⟨w.heap.size, 0, none⟩ = some (.bool false) ∧ W9.cell? ⟨w.heap.size, 1, none⟩ = some (.slice none 0 0) ∧ W9.cell? ⟨w.heap.size, 2, none⟩ = some (.slice none 0 0) ∧ W9.cell? ⟨w.heap.size, 3, none⟩ = some (.slice none 0 0) := ⟨hZF.cell 0, hZF.cell 1, hZF.cell 2, hZF.cell 3⟩
          have HW9 := Lib.hid hW9
          clear hW9 
          go_wp2_with (first | (go_at_call 21; refine HEQ.out.mono ?_; rintro e w7 ⟨rfl, rfl⟩))
          rw [← HW9.out]
          exact bodyPost_ret (v := .tuple #[.agg #[.bool false, .slice none 0 0, .slice none 0 0, .slice none 0 0], .int .i64 11]) (by simp [results, Try.results15, go_sem, j0, j1, j2, j3]) rfl ⟨.inr ⟨HNP.out, rfl⟩, hFin⟩

theorem read_any (A : Option Addr) (l : List Int) (c : Nat) (w : World) (ha : Cells w w.heap.size A (U8 l)) (ho : Oct l) (hl : l.length ≤ 100000) (hcap : l.length ≤ c ∧ c ≤ 9223372036854775807) :
    Calls Try.prog 15 #[.slice A l.length c] w (ReadRes l w) := by
  by_cases h1 : num l 1 = 1
  · exact read_leaf A l c w ha ho hl hcap h1
  · exact read_inner A l c w ha ho hl hcap h1
end Go.Proofs.Ytbngcinhjoigaaa
