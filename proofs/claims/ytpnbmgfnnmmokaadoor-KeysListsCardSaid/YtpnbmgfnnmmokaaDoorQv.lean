/-
  The contract of the program's reader's value: leaves, numbers, texts.
-/
import Derived.Test.YtpnbmgfnnmmokaaDoorQu
import Derived.Test.YtpnbmgfnnmmokaaDoorQc
set_option linter.unusedVariables false
namespace Go.Proofs.YtpnbmgfnnmmokaaDoor
open Go.RowKit

set_option maxHeartbeats 1000000 in
theorem get64_any (b off : Nat) (l : List Int) (n c : Nat) (w : World) (hl : l.length = 8) (hc : Cells w w.heap.size (some ⟨b, off, none⟩) (U8 l)) (ho : Oct l) (hn : 8 ≤ n) (hcap : n ≤ c) (hcm : c ≤ 9223372036854775807) :
    Calls Tryd.prog 58 #[.slice (some ⟨b, off, none⟩) n c] w fun e w' => e = .returned (.int .u64 (num l 0)) ∧ w = w' := by
  have HL := Lib.hid hl
  have hl8 : 8 ≤ l.length := by omega
  have hl8' : l.length ≤ 8 := by omega
  clear hl
  go_enter Tryd.func58, Tryd.ntmps58
  go_wp2
  go_loop [3, 9] (fun x i => ∃ k : Nat, k ≤ 8 ∧ i = .int .i64 k ∧ x = .int .u64 (num (l.take k) 0)) (fun _ i => 8 - (intOf i).toNat)
  case atStart => exact ⟨0, Nat.zero_le _, rfl, rfl⟩
  case round =>
    obtain ⟨k, hk, rfl, rfl⟩ := hrel
    by_cases hlt : k < 8
    · have hlt' : k < l.length := by omega
      have hbd := num_take_bd l ho HL.out k hlt
      have hcell : w.cell? ⟨b, off + k, none⟩ = some (.int .u8 (l[k]'hlt')) := by
        obtain ⟨b', off', e, _, h⟩ := hc.u8 hlt'
        injection e with e
        injection e with e1 e2
        subst e1 e2
        exact h
      have hoct := ho.at_ (List.getElem?_eq_getElem hlt')
      have hs : num (l.take (k + 1)) 0 = num (l.take k) 0 * 256 + l[k] := by rw [take_snoc l k hlt', num_snoc]
      have HS := Lib.hid hs
      clear hs
      have hor := shl_or (num (l.take k) 0) l[k] hbd.1 hbd.2 hoct.1 hoct.2
      have HR := Lib.hid hor
      clear hor
      go_wp2
      go_round
      case rel => exact ⟨k + 1, by omega, by go_num, by rw [HR.out, HS.out]⟩
      case measure => simp [intOf]; omega
    · have h8 : k = 8 := by omega
      subst h8
      go_wp2
      go_ret
      exact ⟨ret_int (by rw [List.take_of_length_le hl8']), rfl⟩

theorem ret_int' {k : IntKind} {a b : Int} (h : a = b) : Ending.returned (.int k a) = .returned (.int k b) := by rw [h]
theorem xor_back (m : Int) (h0 : 0 ≤ m) (h1 : m ≤ 18446744073709551615) : IntKind.i64.wrap (bits .xor .u64 m 9223372036854775808) = m - 9223372036854775808 := by
  rw [u64_xor _ _ (by omega) (by omega) (by omega) (by omega)]
  obtain ⟨x, rfl⟩ : ∃ x : Nat, m = (x : Int) := ⟨m.toNat, by omega⟩
  rw [Int.toNat_natCast, show (9223372036854775808 : Int).toNat = 9223372036854775808 from rfl]
  by_cases hx : x < 9223372036854775808
  · rw [xor_low x hx, IntKind.wrap_i64]; omega
  · obtain ⟨y, hy⟩ : ∃ y, x = y + 9223372036854775808 := ⟨x - 9223372036854775808, by omega⟩
    rw [hy, ← xor_low y (by omega), Nat.xor_assoc, Nat.xor_self, Nat.xor_zero, IntKind.wrap_i64, xor_low y (by omega)]; omega
/-- What value answers: where the reader stands, what was read. -/
def ValIs (b : List Int) (left p p' : Nat) (no' : Bool) (j : JV) : Prop := (no' = false → valG true left (b.drop p) = some (j, b.drop p')) ∧ (no' = true → valG true left (b.drop p) = none)
def ValRes (w0 : World) (r : Nat) (A : Option Addr) (c : Nat) (b : List Int) (left p : Nat) (e : Ending) (w' : World) : Prop :=
  ∃ (z : LV) (p' : Nat) (no' : Bool), e = .returned z.val ∧ z.At w' ∧ z.On (fun k => w0.heap.size ≤ k) ∧ RdAt w' r A c b p' no' ∧ Chg w0 w' (fun k => k = r) ∧ p' ≤ b.length ∧ ValIs b left p p' no' z.j
theorem valG_zero (A : Bool) (b : List Int) : valG A 0 b = none := rfl
theorem valG_leaf {A : Bool} {l : Nat} {c : Int} {r : List Int} (h : c = 1 ∨ c = 2 ∨ c = 3) : valG A (l + 1) (c :: r) = some (.mk (c - 1) 0 ⟨#[]⟩ [] [], r) := by
  rw [valG, if_neg (by omega), if_neg (by omega), if_neg (by omega), if_neg (by omega)]
theorem valG_bad {A : Bool} {l : Nat} {c : Int} {r : List Int} (h : c < 1 ∨ 7 < c) : valG A l (c :: r) = none := by
  cases l with
  | zero => rfl
  | succ l => rw [valG, if_pos h]
theorem valG_nil {A : Bool} {l : Nat} : valG A l [] = none := by cases l <;> rfl
theorem valG_int {A : Bool} {l : Nat} {r : List Int} : valG A (l + 1) (4 :: r) = if r.length < 8 then none else some (.mk 3 (num (r.take 8) 0 - 9223372036854775808) ⟨#[]⟩ [] [], r.drop 8) := by
  rw [valG, if_neg (by omega), if_pos rfl]
theorem valG_str {A : Bool} {l : Nat} {r : List Int} : valG A (l + 1) (5 :: r) = match getG A r with
      | none => none
      | some (s, t) => some (.mk 4 0 (strOfNums s) [] [], t) := by
  rw [valG, if_neg (by omega), if_neg (by omega), if_pos rfl]
  cases getG A r <;> rfl
theorem valG_rows {A : Bool} {l : Nat} {c : Int} {r : List Int} (h : c = 6 ∨ c = 7) : valG A (l + 1) (c :: r) = match memG A (valG A l) (decide (c = 7)) 25 r with
      | none => none
      | some (ns, is, t) => some (.mk (c - 1) 0 ⟨#[]⟩ ns is, t) := by
  rw [valG, if_neg (by omega), if_neg (by omega), if_neg (by omega), if_pos h]
  cases memG A (valG A l) (decide (c = 7)) 25 r <;> rfl
theorem ValIs.no0 {b : List Int} {p p' : Nat} {j : JV} : ValIs b 0 p p' true j := ⟨(fun h => by cases h), fun _ => rfl⟩
theorem ValIs.no {b : List Int} {left p p' : Nat} {j : JV} (h : valG true left (b.drop p) = none) : ValIs b left p p' true j := ⟨(fun h => by cases h), fun _ => h⟩
theorem ValIs.yes {b : List Int} {left p p' : Nat} {j : JV} (h : valG true left (b.drop p) = some (j, b.drop p')) : ValIs b left p p' false j := ⟨fun _ => h, fun h => by cases h⟩
theorem drop_at {b : List Int} {p : Nat} {x : Int} (h : p < b.length) (hx : b[p] = x) : b.drop p = x :: b.drop (p + 1) := by rw [List.drop_eq_getElem_cons h, hx]
theorem leaf_j (k n : Int) (s : ByteArray) : (LV.mk k n s none [] 0 none [] 0).j = .mk k n s [] [] := by rw [LV.j, LV.js]

set_option maxHeartbeats 4000000 in
theorem value_end (r : Nat) (A : Option Addr) (c : Nat) (b : List Int) (p left : Nat) (w : World) (hR : RdAt w r A c b p false) (hc : Cells w r A (U8 b)) (hp : p = b.length) (hl : b.length ≤ 10000000000000) (hleft : left ≤ 100) : Calls Tryd.prog 47 #[.pointer (some ⟨r, 0, none⟩), .int .i64 left] w (ValRes w r A c b left p) := by
  have hrl : r < w.heap.size := Blk.lt hR
  obtain ⟨gr, hgr⟩ : ∃ g, w.heap.size = g := ⟨_, rfl⟩
  obtain ⟨W, hW⟩ : ∃ W, W = w.alloc (.cells zeroBlk 25) := ⟨_, rfl⟩
  have hZ : Blk W gr 25 zeroBlk := by rw [hW, ← hgr]; exact Blk.new w _ _
  have hCW : Chg w W (fun k => k = r) := by rw [hW]; exact Chg.alloc w _ _
  have hRW : RdAt W r A c b p false := by rw [hW]; exact Blk.alloc hR _
  have hcW : Cells W r A (U8 b) := hc.chgR hrl hCW
  have hWs : gr < W.heap.size := by rw [hW, World.size_alloc]; omega
  have HC1 := Lib.hid (next_ge r A c b p false W hRW hcW hp hl)
  have HW := Lib.hid hW
  have HGR := Lib.hid hgr
  clear hW hR hc hRW
  go_enter Tryd.func47, Tryd.ntmps47
  go_upto_region 1 with fail
  first | rw [← HW.out, hgr] | rw [← HW.out]
  go_wp2_with fail
  refine HC1.out.mono ?_
  rintro e w1 ⟨rfl, hR1, hC1⟩
  have hC01 := hCW.thenC hC1
  have hs1 := hC1.size
  have hc1 := hcW.chgR (by omega) hC1
  obtain ⟨go, hgo⟩ : ∃ g, w1.heap.size = g := ⟨_, rfl⟩
  obtain ⟨W2, hW2⟩ : ∃ W2, W2 = w1.alloc (.cells #[.int .i64 (-1), .int .i64 0, .string ⟨#[]⟩, .slice none 0 0, .slice none 0 0] 25) := ⟨_, rfl⟩
  have hK2 : KvS w W2 gr r go A c b p true (-1) 0 ⟨#[]⟩ (.slice none 0 0) (.slice none 0 0) [] [] := by rw [hW2]; exact KvS.fresh (Blk.alloc hR1 _) hrl ((hZ.chg hC1 (by omega)).alloc _) (by omega) (hC01.thenC (Chg.alloc w1 _ _)) (by rw [← hgo]; exact Blk.new w1 _ _) (by omega)
  have hc2 : Cells W2 r A (U8 b) := by rw [hW2]; exact hc1.alloc (by omega) _
  have HW2 := Lib.hid hW2
  have HGO := Lib.hid hgo
  have hs2 : r < W2.heap.size := by rw [hW2, World.size_alloc]; omega
  clear hW2 hZ hR1 HC1 hcW
  go_upto_region 2 with fail
  first | rw [← HW2.out, hgo] | rw [← HW2.out]
  clear hgo hgr
  have d0 : W2.cell? ⟨go, 0, none⟩ = some (.int .i64 (-1)) := hK2.v.cell 0
  have HV : Hid (∀ j, ValIs b left p p true j) := Lib.hid fun j => ValIs.no (by rw [List.drop_of_length_le (by omega)]; exact valG_nil)
  by_cases h0 : left = 0
  · have hlI : ((left : Int) == 0) = true := by rw [beq_iff_eq]; omega
    clear h0
    have fr2 : W2.frozen? ⟨r, 2, none⟩ = false := Blk.free hK2.rd 2
    obtain ⟨q0, q1, q2⟩ : W2.cell? ⟨r, 0, none⟩ = some (.slice A b.length c) ∧ W2.cell? ⟨r, 1, none⟩ = some (.int .i64 (p : Nat)) ∧ W2.cell? ⟨r, 2, none⟩ = some (.bool true) := ⟨Blk.cell hK2.rd 0, Blk.cell hK2.rd 1, Blk.cell hK2.rd 2⟩
    obtain ⟨W3, hW3⟩ : ∃ W3, W3 = W2.setCell ⟨r, 2, none⟩ (.bool true) := ⟨_, rfl⟩
    have hC23 : Chg W2 W3 (fun k => k = r) := by rw [hW3]; exact Chg.setCell W2 ⟨r, 2, none⟩ _
    have hR3 : RdAt W3 r A c b (p) true := by unfold RdAt; rw [hW3]; have := (show Blk W2 r 54 #[.slice A b.length c, .int .i64 (p : Nat), .bool true] from hK2.rd).set_ 2 (.bool true); simpa using this
    have hK3 := hK2.read hC23 hR3
    have hc3 := hc2.chgR hs2 hC23
    have hs3 := hC23.size
    have HW3 := Lib.hid hW3
    clear hW3 hR3
    go_upto_region 4 with fail
    rw [← HW3.out]
    clear d0 q0 q1 q2 fr2
    have d0 : W3.cell? ⟨go, 0, none⟩ = some (.int .i64 (-1)) := hK3.v.cell 0
    obtain ⟨e0, e1, e2, e3, e4⟩ : W3.cell? ⟨go, 0, none⟩ = some (.int .i64 (-1)) ∧ W3.cell? ⟨go, 1, none⟩ = some (.int .i64 (0)) ∧ W3.cell? ⟨go, 2, none⟩ = some (.string ⟨#[]⟩) ∧ W3.cell? ⟨go, 3, none⟩ = some (.slice none 0 0) ∧ W3.cell? ⟨go, 4, none⟩ = some (.slice none 0 0) := ⟨hK3.v.cell 0, hK3.v.cell 1, hK3.v.cell 2, hK3.v.cell 3, hK3.v.cell 4⟩
    obtain ⟨x0, x1, x2, x3, x4⟩ : W3.cell? ⟨gr, 0, none⟩ = some (.int .i64 0) ∧ W3.cell? ⟨gr, 1, none⟩ = some (.int .i64 0) ∧ W3.cell? ⟨gr, 2, none⟩ = some (.string ⟨#[]⟩) ∧ W3.cell? ⟨gr, 3, none⟩ = some (.slice none 0 0) ∧ W3.cell? ⟨gr, 4, none⟩ = some (.slice none 0 0) := ⟨hK3.res.cell 0, hK3.res.cell 1, hK3.res.cell 2, hK3.res.cell 3, hK3.res.cell 4⟩
    obtain ⟨y0, y1, y2, y3, y4⟩ : W3.frozen? ⟨gr, 0, none⟩ = false ∧ W3.frozen? ⟨gr, 1, none⟩ = false ∧ W3.frozen? ⟨gr, 2, none⟩ = false ∧ W3.frozen? ⟨gr, 3, none⟩ = false ∧ W3.frozen? ⟨gr, 4, none⟩ = false := ⟨hK3.res.free 0, hK3.res.free 1, hK3.res.free 2, hK3.res.free 3, hK3.res.free 4⟩
    obtain ⟨W9, hW9⟩ : ∃ W9, W9 = (((((W3.setCell ⟨gr, 0, none⟩ (.int .i64 (-1))).setCell ⟨gr, 1, none⟩ (.int .i64 (0))).setCell ⟨gr, 2, none⟩ (.string ⟨#[]⟩)).setCell ⟨gr, 3, none⟩ (.slice none 0 0)).setCell ⟨gr, 4, none⟩ (.slice none 0 0)) := ⟨_, rfl⟩
    have hC9 : Chg W3 W9 (fun k => k = gr) := by rw [hW9]; exact chg_five W3 gr (.int .i64 (-1)) (.int .i64 (0)) (.string ⟨#[]⟩) (.slice none 0 0) (.slice none 0 0)
    have hZ9 : Blk W9 gr 25 #[.int .i64 (-1), .int .i64 (0), .string ⟨#[]⟩, .slice none 0 0, .slice none 0 0] := by rw [hW9]; exact hK3.res.five (.int .i64 (-1)) (.int .i64 (0)) (.string ⟨#[]⟩) (.slice none 0 0) (.slice none 0 0)
    obtain ⟨j0, j1, j2, j3, j4⟩ : W9.cell? ⟨gr, 0, none⟩ = some (.int .i64 (-1)) ∧ W9.cell? ⟨gr, 1, none⟩ = some (.int .i64 (0)) ∧ W9.cell? ⟨gr, 2, none⟩ = some (.string ⟨#[]⟩) ∧ W9.cell? ⟨gr, 3, none⟩ = some (.slice none 0 0) ∧ W9.cell? ⟨gr, 4, none⟩ = some (.slice none 0 0) := ⟨hZ9.cell 0, hZ9.cell 1, hZ9.cell 2, hZ9.cell 3, hZ9.cell 4⟩
    have hD := KvS.done (k := (-1)) (n := (0)) (s := ⟨#[]⟩) (An := none) (ns := []) (cn := 0) (Ai := none) (is := []) (ci := 0) hK3 hC9 (by omega) (by omega) (by decide) (by simp)
    have HD := Lib.hid hD
    have HW9 := Lib.hid hW9
    clear hW9 hD
    go_wp2
    rw [← HW9.out]
    exact bodyPost_ret (v := .agg #[.int .i64 (-1), .int .i64 (0), .string ⟨#[]⟩, .slice none 0 0, .slice none 0 0]) (by simp [results, Tryd.results47, go_sem, j0, j1, j2, j3, j4]) rfl ⟨LV.mk (-1) (0) ⟨#[]⟩ none [] 0 none [] 0, p, true, rfl, HD.out.1, HD.out.2.1, HD.out.2.2.1, HD.out.2.2.2, by omega, HV.out _⟩
  · have hlI : ((left : Int) == 0) = false := by rw [beq_eq_false_iff_ne]; omega
    clear h0
    have fr2 : W2.frozen? ⟨r, 2, none⟩ = false := Blk.free hK2.rd 2
    obtain ⟨q0, q1, q2⟩ : W2.cell? ⟨r, 0, none⟩ = some (.slice A b.length c) ∧ W2.cell? ⟨r, 1, none⟩ = some (.int .i64 (p : Nat)) ∧ W2.cell? ⟨r, 2, none⟩ = some (.bool true) := ⟨Blk.cell hK2.rd 0, Blk.cell hK2.rd 1, Blk.cell hK2.rd 2⟩
    obtain ⟨W3, hW3⟩ : ∃ W3, W3 = W2.setCell ⟨r, 2, none⟩ (.bool true) := ⟨_, rfl⟩
    have hC23 : Chg W2 W3 (fun k => k = r) := by rw [hW3]; exact Chg.setCell W2 ⟨r, 2, none⟩ _
    have hR3 : RdAt W3 r A c b (p) true := by unfold RdAt; rw [hW3]; have := (show Blk W2 r 54 #[.slice A b.length c, .int .i64 (p : Nat), .bool true] from hK2.rd).set_ 2 (.bool true); simpa using this
    have hK3 := hK2.read hC23 hR3
    have hc3 := hc2.chgR hs2 hC23
    have hs3 := hC23.size
    have HW3 := Lib.hid hW3
    clear hW3 hR3
    go_upto_region 4 with fail
    rw [← HW3.out]
    clear d0 q0 q1 q2 fr2
    have d0 : W3.cell? ⟨go, 0, none⟩ = some (.int .i64 (-1)) := hK3.v.cell 0
    obtain ⟨e0, e1, e2, e3, e4⟩ : W3.cell? ⟨go, 0, none⟩ = some (.int .i64 (-1)) ∧ W3.cell? ⟨go, 1, none⟩ = some (.int .i64 (0)) ∧ W3.cell? ⟨go, 2, none⟩ = some (.string ⟨#[]⟩) ∧ W3.cell? ⟨go, 3, none⟩ = some (.slice none 0 0) ∧ W3.cell? ⟨go, 4, none⟩ = some (.slice none 0 0) := ⟨hK3.v.cell 0, hK3.v.cell 1, hK3.v.cell 2, hK3.v.cell 3, hK3.v.cell 4⟩
    obtain ⟨x0, x1, x2, x3, x4⟩ : W3.cell? ⟨gr, 0, none⟩ = some (.int .i64 0) ∧ W3.cell? ⟨gr, 1, none⟩ = some (.int .i64 0) ∧ W3.cell? ⟨gr, 2, none⟩ = some (.string ⟨#[]⟩) ∧ W3.cell? ⟨gr, 3, none⟩ = some (.slice none 0 0) ∧ W3.cell? ⟨gr, 4, none⟩ = some (.slice none 0 0) := ⟨hK3.res.cell 0, hK3.res.cell 1, hK3.res.cell 2, hK3.res.cell 3, hK3.res.cell 4⟩
    obtain ⟨y0, y1, y2, y3, y4⟩ : W3.frozen? ⟨gr, 0, none⟩ = false ∧ W3.frozen? ⟨gr, 1, none⟩ = false ∧ W3.frozen? ⟨gr, 2, none⟩ = false ∧ W3.frozen? ⟨gr, 3, none⟩ = false ∧ W3.frozen? ⟨gr, 4, none⟩ = false := ⟨hK3.res.free 0, hK3.res.free 1, hK3.res.free 2, hK3.res.free 3, hK3.res.free 4⟩
    obtain ⟨W9, hW9⟩ : ∃ W9, W9 = (((((W3.setCell ⟨gr, 0, none⟩ (.int .i64 (-1))).setCell ⟨gr, 1, none⟩ (.int .i64 (0))).setCell ⟨gr, 2, none⟩ (.string ⟨#[]⟩)).setCell ⟨gr, 3, none⟩ (.slice none 0 0)).setCell ⟨gr, 4, none⟩ (.slice none 0 0)) := ⟨_, rfl⟩
    have hC9 : Chg W3 W9 (fun k => k = gr) := by rw [hW9]; exact chg_five W3 gr (.int .i64 (-1)) (.int .i64 (0)) (.string ⟨#[]⟩) (.slice none 0 0) (.slice none 0 0)
    have hZ9 : Blk W9 gr 25 #[.int .i64 (-1), .int .i64 (0), .string ⟨#[]⟩, .slice none 0 0, .slice none 0 0] := by rw [hW9]; exact hK3.res.five (.int .i64 (-1)) (.int .i64 (0)) (.string ⟨#[]⟩) (.slice none 0 0) (.slice none 0 0)
    obtain ⟨j0, j1, j2, j3, j4⟩ : W9.cell? ⟨gr, 0, none⟩ = some (.int .i64 (-1)) ∧ W9.cell? ⟨gr, 1, none⟩ = some (.int .i64 (0)) ∧ W9.cell? ⟨gr, 2, none⟩ = some (.string ⟨#[]⟩) ∧ W9.cell? ⟨gr, 3, none⟩ = some (.slice none 0 0) ∧ W9.cell? ⟨gr, 4, none⟩ = some (.slice none 0 0) := ⟨hZ9.cell 0, hZ9.cell 1, hZ9.cell 2, hZ9.cell 3, hZ9.cell 4⟩
    have hD := KvS.done (k := (-1)) (n := (0)) (s := ⟨#[]⟩) (An := none) (ns := []) (cn := 0) (Ai := none) (is := []) (ci := 0) hK3 hC9 (by omega) (by omega) (by decide) (by simp)
    have HD := Lib.hid hD
    have HW9 := Lib.hid hW9
    clear hW9 hD
    go_wp2
    rw [← HW9.out]
    exact bodyPost_ret (v := .agg #[.int .i64 (-1), .int .i64 (0), .string ⟨#[]⟩, .slice none 0 0, .slice none 0 0]) (by simp [results, Tryd.results47, go_sem, j0, j1, j2, j3, j4]) rfl ⟨LV.mk (-1) (0) ⟨#[]⟩ none [] 0 none [] 0, p, true, rfl, HD.out.1, HD.out.2.1, HD.out.2.2.1, HD.out.2.2.2, by omega, HV.out _⟩

set_option maxHeartbeats 4000000 in
theorem value_leaf1 (r : Nat) (A : Option Addr) (c : Nat) (b : List Int) (p left : Nat) (w : World) (hR : RdAt w r A c b p false) (hc : Cells w r A (U8 b)) (hp : p < b.length) (hl : b.length ≤ 10000000000000) (hleft : left ≤ 100) (hx : b[p] = 1) : Calls Tryd.prog 47 #[.pointer (some ⟨r, 0, none⟩), .int .i64 left] w (ValRes w r A c b left p) := by
  have hrl : r < w.heap.size := Blk.lt hR
  obtain ⟨gr, hgr⟩ : ∃ g, w.heap.size = g := ⟨_, rfl⟩
  obtain ⟨W, hW⟩ : ∃ W, W = w.alloc (.cells zeroBlk 25) := ⟨_, rfl⟩
  have hZ : Blk W gr 25 zeroBlk := by rw [hW, ← hgr]; exact Blk.new w _ _
  have hCW : Chg w W (fun k => k = r) := by rw [hW]; exact Chg.alloc w _ _
  have hRW : RdAt W r A c b p false := by rw [hW]; exact Blk.alloc hR _
  have hcW : Cells W r A (U8 b) := hc.chgR hrl hCW
  have hWs : gr < W.heap.size := by rw [hW, World.size_alloc]; omega
  have HC1 := Lib.hid (next_lt r A c b p false W 1 hRW hcW hp hl hx)
  have HW := Lib.hid hW
  have HGR := Lib.hid hgr
  clear hW hR hc hRW
  go_enter Tryd.func47, Tryd.ntmps47
  go_upto_region 1 with fail
  first | rw [← HW.out, hgr] | rw [← HW.out]
  go_wp2_with fail
  refine HC1.out.mono ?_
  rintro e w1 ⟨rfl, hR1, hC1⟩
  have hC01 := hCW.thenC hC1
  have hs1 := hC1.size
  have hc1 := hcW.chgR (by omega) hC1
  obtain ⟨go, hgo⟩ : ∃ g, w1.heap.size = g := ⟨_, rfl⟩
  obtain ⟨W2, hW2⟩ : ∃ W2, W2 = w1.alloc (.cells #[.int .i64 (0), .int .i64 0, .string ⟨#[]⟩, .slice none 0 0, .slice none 0 0] 25) := ⟨_, rfl⟩
  have hK2 : KvS w W2 gr r go A c b (p + 1) false (0) 0 ⟨#[]⟩ (.slice none 0 0) (.slice none 0 0) [] [] := by rw [hW2]; exact KvS.fresh (Blk.alloc hR1 _) hrl ((hZ.chg hC1 (by omega)).alloc _) (by omega) (hC01.thenC (Chg.alloc w1 _ _)) (by rw [← hgo]; exact Blk.new w1 _ _) (by omega)
  have hc2 : Cells W2 r A (U8 b) := by rw [hW2]; exact hc1.alloc (by omega) _
  have HW2 := Lib.hid hW2
  have HGO := Lib.hid hgo
  have hs2 : r < W2.heap.size := by rw [hW2, World.size_alloc]; omega
  clear hW2 hZ hR1 HC1 hcW
  go_upto_region 2 with fail
  first | rw [← HW2.out, hgo] | rw [← HW2.out]
  clear hgo hgr
  have d0 : W2.cell? ⟨go, 0, none⟩ = some (.int .i64 (0)) := hK2.v.cell 0
  by_cases h0 : left = 0
  · have hlI : ((left : Int) == 0) = true := by rw [beq_iff_eq]; omega
    have HV : Hid (∀ j, ValIs b left p (p + 1) true j) := Lib.hid fun j => by rw [h0]; exact ValIs.no0
    clear h0
    have fr2 : W2.frozen? ⟨r, 2, none⟩ = false := Blk.free hK2.rd 2
    obtain ⟨q0, q1, q2⟩ : W2.cell? ⟨r, 0, none⟩ = some (.slice A b.length c) ∧ W2.cell? ⟨r, 1, none⟩ = some (.int .i64 ((p + 1) : Nat)) ∧ W2.cell? ⟨r, 2, none⟩ = some (.bool false) := ⟨Blk.cell hK2.rd 0, Blk.cell hK2.rd 1, Blk.cell hK2.rd 2⟩
    obtain ⟨W3, hW3⟩ : ∃ W3, W3 = W2.setCell ⟨r, 2, none⟩ (.bool true) := ⟨_, rfl⟩
    have hC23 : Chg W2 W3 (fun k => k = r) := by rw [hW3]; exact Chg.setCell W2 ⟨r, 2, none⟩ _
    have hR3 : RdAt W3 r A c b ((p + 1)) true := by unfold RdAt; rw [hW3]; have := (show Blk W2 r 54 #[.slice A b.length c, .int .i64 ((p + 1) : Nat), .bool false] from hK2.rd).set_ 2 (.bool true); simpa using this
    have hK3 := hK2.read hC23 hR3
    have hc3 := hc2.chgR hs2 hC23
    have hs3 := hC23.size
    have HW3 := Lib.hid hW3
    clear hW3 hR3
    go_upto_region 4 with fail
    rw [← HW3.out]
    clear d0 q0 q1 q2 fr2
    have d0 : W3.cell? ⟨go, 0, none⟩ = some (.int .i64 (0)) := hK3.v.cell 0
    obtain ⟨e0, e1, e2, e3, e4⟩ : W3.cell? ⟨go, 0, none⟩ = some (.int .i64 (0)) ∧ W3.cell? ⟨go, 1, none⟩ = some (.int .i64 (0)) ∧ W3.cell? ⟨go, 2, none⟩ = some (.string ⟨#[]⟩) ∧ W3.cell? ⟨go, 3, none⟩ = some (.slice none 0 0) ∧ W3.cell? ⟨go, 4, none⟩ = some (.slice none 0 0) := ⟨hK3.v.cell 0, hK3.v.cell 1, hK3.v.cell 2, hK3.v.cell 3, hK3.v.cell 4⟩
    obtain ⟨x0, x1, x2, x3, x4⟩ : W3.cell? ⟨gr, 0, none⟩ = some (.int .i64 0) ∧ W3.cell? ⟨gr, 1, none⟩ = some (.int .i64 0) ∧ W3.cell? ⟨gr, 2, none⟩ = some (.string ⟨#[]⟩) ∧ W3.cell? ⟨gr, 3, none⟩ = some (.slice none 0 0) ∧ W3.cell? ⟨gr, 4, none⟩ = some (.slice none 0 0) := ⟨hK3.res.cell 0, hK3.res.cell 1, hK3.res.cell 2, hK3.res.cell 3, hK3.res.cell 4⟩
    obtain ⟨y0, y1, y2, y3, y4⟩ : W3.frozen? ⟨gr, 0, none⟩ = false ∧ W3.frozen? ⟨gr, 1, none⟩ = false ∧ W3.frozen? ⟨gr, 2, none⟩ = false ∧ W3.frozen? ⟨gr, 3, none⟩ = false ∧ W3.frozen? ⟨gr, 4, none⟩ = false := ⟨hK3.res.free 0, hK3.res.free 1, hK3.res.free 2, hK3.res.free 3, hK3.res.free 4⟩
    obtain ⟨W9, hW9⟩ : ∃ W9, W9 = (((((W3.setCell ⟨gr, 0, none⟩ (.int .i64 (0))).setCell ⟨gr, 1, none⟩ (.int .i64 (0))).setCell ⟨gr, 2, none⟩ (.string ⟨#[]⟩)).setCell ⟨gr, 3, none⟩ (.slice none 0 0)).setCell ⟨gr, 4, none⟩ (.slice none 0 0)) := ⟨_, rfl⟩
    have hC9 : Chg W3 W9 (fun k => k = gr) := by rw [hW9]; exact chg_five W3 gr (.int .i64 (0)) (.int .i64 (0)) (.string ⟨#[]⟩) (.slice none 0 0) (.slice none 0 0)
    have hZ9 : Blk W9 gr 25 #[.int .i64 (0), .int .i64 (0), .string ⟨#[]⟩, .slice none 0 0, .slice none 0 0] := by rw [hW9]; exact hK3.res.five (.int .i64 (0)) (.int .i64 (0)) (.string ⟨#[]⟩) (.slice none 0 0) (.slice none 0 0)
    obtain ⟨j0, j1, j2, j3, j4⟩ : W9.cell? ⟨gr, 0, none⟩ = some (.int .i64 (0)) ∧ W9.cell? ⟨gr, 1, none⟩ = some (.int .i64 (0)) ∧ W9.cell? ⟨gr, 2, none⟩ = some (.string ⟨#[]⟩) ∧ W9.cell? ⟨gr, 3, none⟩ = some (.slice none 0 0) ∧ W9.cell? ⟨gr, 4, none⟩ = some (.slice none 0 0) := ⟨hZ9.cell 0, hZ9.cell 1, hZ9.cell 2, hZ9.cell 3, hZ9.cell 4⟩
    have hD := KvS.done (k := (0)) (n := (0)) (s := ⟨#[]⟩) (An := none) (ns := []) (cn := 0) (Ai := none) (is := []) (ci := 0) hK3 hC9 (by omega) (by omega) (by decide) (by simp)
    have HD := Lib.hid hD
    have HW9 := Lib.hid hW9
    clear hW9 hD
    go_wp2
    rw [← HW9.out]
    exact bodyPost_ret (v := .agg #[.int .i64 (0), .int .i64 (0), .string ⟨#[]⟩, .slice none 0 0, .slice none 0 0]) (by simp [results, Tryd.results47, go_sem, j0, j1, j2, j3, j4]) rfl ⟨LV.mk (0) (0) ⟨#[]⟩ none [] 0 none [] 0, p + 1, true, rfl, HD.out.1, HD.out.2.1, HD.out.2.2.1, HD.out.2.2.2, by omega, HV.out _⟩
  · have hlI : ((left : Int) == 0) = false := by rw [beq_eq_false_iff_ne]; omega
    have HV : Hid (ValIs b left p (p + 1) false (LV.mk (0) (0) ⟨#[]⟩ none [] 0 none [] 0).j) := Lib.hid (by rw [leaf_j]; obtain ⟨l, rfl⟩ : ∃ l, left = l + 1 := ⟨left - 1, by omega⟩; exact ValIs.yes (by rw [drop_at hp hx]; exact valG_leaf (by omega)))
    clear h0
    go_upto_region 4 with fail
    obtain ⟨e0, e1, e2, e3, e4⟩ : W2.cell? ⟨go, 0, none⟩ = some (.int .i64 (0)) ∧ W2.cell? ⟨go, 1, none⟩ = some (.int .i64 (0)) ∧ W2.cell? ⟨go, 2, none⟩ = some (.string ⟨#[]⟩) ∧ W2.cell? ⟨go, 3, none⟩ = some (.slice none 0 0) ∧ W2.cell? ⟨go, 4, none⟩ = some (.slice none 0 0) := ⟨hK2.v.cell 0, hK2.v.cell 1, hK2.v.cell 2, hK2.v.cell 3, hK2.v.cell 4⟩
    obtain ⟨x0, x1, x2, x3, x4⟩ : W2.cell? ⟨gr, 0, none⟩ = some (.int .i64 0) ∧ W2.cell? ⟨gr, 1, none⟩ = some (.int .i64 0) ∧ W2.cell? ⟨gr, 2, none⟩ = some (.string ⟨#[]⟩) ∧ W2.cell? ⟨gr, 3, none⟩ = some (.slice none 0 0) ∧ W2.cell? ⟨gr, 4, none⟩ = some (.slice none 0 0) := ⟨hK2.res.cell 0, hK2.res.cell 1, hK2.res.cell 2, hK2.res.cell 3, hK2.res.cell 4⟩
    obtain ⟨y0, y1, y2, y3, y4⟩ : W2.frozen? ⟨gr, 0, none⟩ = false ∧ W2.frozen? ⟨gr, 1, none⟩ = false ∧ W2.frozen? ⟨gr, 2, none⟩ = false ∧ W2.frozen? ⟨gr, 3, none⟩ = false ∧ W2.frozen? ⟨gr, 4, none⟩ = false := ⟨hK2.res.free 0, hK2.res.free 1, hK2.res.free 2, hK2.res.free 3, hK2.res.free 4⟩
    obtain ⟨W9, hW9⟩ : ∃ W9, W9 = (((((W2.setCell ⟨gr, 0, none⟩ (.int .i64 (0))).setCell ⟨gr, 1, none⟩ (.int .i64 (0))).setCell ⟨gr, 2, none⟩ (.string ⟨#[]⟩)).setCell ⟨gr, 3, none⟩ (.slice none 0 0)).setCell ⟨gr, 4, none⟩ (.slice none 0 0)) := ⟨_, rfl⟩
    have hC9 : Chg W2 W9 (fun k => k = gr) := by rw [hW9]; exact chg_five W2 gr (.int .i64 (0)) (.int .i64 (0)) (.string ⟨#[]⟩) (.slice none 0 0) (.slice none 0 0)
    have hZ9 : Blk W9 gr 25 #[.int .i64 (0), .int .i64 (0), .string ⟨#[]⟩, .slice none 0 0, .slice none 0 0] := by rw [hW9]; exact hK2.res.five (.int .i64 (0)) (.int .i64 (0)) (.string ⟨#[]⟩) (.slice none 0 0) (.slice none 0 0)
    obtain ⟨j0, j1, j2, j3, j4⟩ : W9.cell? ⟨gr, 0, none⟩ = some (.int .i64 (0)) ∧ W9.cell? ⟨gr, 1, none⟩ = some (.int .i64 (0)) ∧ W9.cell? ⟨gr, 2, none⟩ = some (.string ⟨#[]⟩) ∧ W9.cell? ⟨gr, 3, none⟩ = some (.slice none 0 0) ∧ W9.cell? ⟨gr, 4, none⟩ = some (.slice none 0 0) := ⟨hZ9.cell 0, hZ9.cell 1, hZ9.cell 2, hZ9.cell 3, hZ9.cell 4⟩
    have hD := KvS.done (k := (0)) (n := (0)) (s := ⟨#[]⟩) (An := none) (ns := []) (cn := 0) (Ai := none) (is := []) (ci := 0) hK2 hC9 (by omega) (by omega) (by decide) (by simp)
    have HD := Lib.hid hD
    have HW9 := Lib.hid hW9
    clear hW9 hD
    go_wp2
    rw [← HW9.out]
    exact bodyPost_ret (v := .agg #[.int .i64 (0), .int .i64 (0), .string ⟨#[]⟩, .slice none 0 0, .slice none 0 0]) (by simp [results, Tryd.results47, go_sem, j0, j1, j2, j3, j4]) rfl ⟨LV.mk (0) (0) ⟨#[]⟩ none [] 0 none [] 0, p + 1, false, rfl, HD.out.1, HD.out.2.1, HD.out.2.2.1, HD.out.2.2.2, by omega, HV.out⟩

set_option maxHeartbeats 4000000 in
theorem value_leaf2 (r : Nat) (A : Option Addr) (c : Nat) (b : List Int) (p left : Nat) (w : World) (hR : RdAt w r A c b p false) (hc : Cells w r A (U8 b)) (hp : p < b.length) (hl : b.length ≤ 10000000000000) (hleft : left ≤ 100) (hx : b[p] = 2) : Calls Tryd.prog 47 #[.pointer (some ⟨r, 0, none⟩), .int .i64 left] w (ValRes w r A c b left p) := by
  have hrl : r < w.heap.size := Blk.lt hR
  obtain ⟨gr, hgr⟩ : ∃ g, w.heap.size = g := ⟨_, rfl⟩
  obtain ⟨W, hW⟩ : ∃ W, W = w.alloc (.cells zeroBlk 25) := ⟨_, rfl⟩
  have hZ : Blk W gr 25 zeroBlk := by rw [hW, ← hgr]; exact Blk.new w _ _
  have hCW : Chg w W (fun k => k = r) := by rw [hW]; exact Chg.alloc w _ _
  have hRW : RdAt W r A c b p false := by rw [hW]; exact Blk.alloc hR _
  have hcW : Cells W r A (U8 b) := hc.chgR hrl hCW
  have hWs : gr < W.heap.size := by rw [hW, World.size_alloc]; omega
  have HC1 := Lib.hid (next_lt r A c b p false W 2 hRW hcW hp hl hx)
  have HW := Lib.hid hW
  have HGR := Lib.hid hgr
  clear hW hR hc hRW
  go_enter Tryd.func47, Tryd.ntmps47
  go_upto_region 1 with fail
  first | rw [← HW.out, hgr] | rw [← HW.out]
  go_wp2_with fail
  refine HC1.out.mono ?_
  rintro e w1 ⟨rfl, hR1, hC1⟩
  have hC01 := hCW.thenC hC1
  have hs1 := hC1.size
  have hc1 := hcW.chgR (by omega) hC1
  obtain ⟨go, hgo⟩ : ∃ g, w1.heap.size = g := ⟨_, rfl⟩
  obtain ⟨W2, hW2⟩ : ∃ W2, W2 = w1.alloc (.cells #[.int .i64 (1), .int .i64 0, .string ⟨#[]⟩, .slice none 0 0, .slice none 0 0] 25) := ⟨_, rfl⟩
  have hK2 : KvS w W2 gr r go A c b (p + 1) false (1) 0 ⟨#[]⟩ (.slice none 0 0) (.slice none 0 0) [] [] := by rw [hW2]; exact KvS.fresh (Blk.alloc hR1 _) hrl ((hZ.chg hC1 (by omega)).alloc _) (by omega) (hC01.thenC (Chg.alloc w1 _ _)) (by rw [← hgo]; exact Blk.new w1 _ _) (by omega)
  have hc2 : Cells W2 r A (U8 b) := by rw [hW2]; exact hc1.alloc (by omega) _
  have HW2 := Lib.hid hW2
  have HGO := Lib.hid hgo
  have hs2 : r < W2.heap.size := by rw [hW2, World.size_alloc]; omega
  clear hW2 hZ hR1 HC1 hcW
  go_upto_region 2 with fail
  first | rw [← HW2.out, hgo] | rw [← HW2.out]
  clear hgo hgr
  have d0 : W2.cell? ⟨go, 0, none⟩ = some (.int .i64 (1)) := hK2.v.cell 0
  by_cases h0 : left = 0
  · have hlI : ((left : Int) == 0) = true := by rw [beq_iff_eq]; omega
    have HV : Hid (∀ j, ValIs b left p (p + 1) true j) := Lib.hid fun j => by rw [h0]; exact ValIs.no0
    clear h0
    have fr2 : W2.frozen? ⟨r, 2, none⟩ = false := Blk.free hK2.rd 2
    obtain ⟨q0, q1, q2⟩ : W2.cell? ⟨r, 0, none⟩ = some (.slice A b.length c) ∧ W2.cell? ⟨r, 1, none⟩ = some (.int .i64 ((p + 1) : Nat)) ∧ W2.cell? ⟨r, 2, none⟩ = some (.bool false) := ⟨Blk.cell hK2.rd 0, Blk.cell hK2.rd 1, Blk.cell hK2.rd 2⟩
    obtain ⟨W3, hW3⟩ : ∃ W3, W3 = W2.setCell ⟨r, 2, none⟩ (.bool true) := ⟨_, rfl⟩
    have hC23 : Chg W2 W3 (fun k => k = r) := by rw [hW3]; exact Chg.setCell W2 ⟨r, 2, none⟩ _
    have hR3 : RdAt W3 r A c b ((p + 1)) true := by unfold RdAt; rw [hW3]; have := (show Blk W2 r 54 #[.slice A b.length c, .int .i64 ((p + 1) : Nat), .bool false] from hK2.rd).set_ 2 (.bool true); simpa using this
    have hK3 := hK2.read hC23 hR3
    have hc3 := hc2.chgR hs2 hC23
    have hs3 := hC23.size
    have HW3 := Lib.hid hW3
    clear hW3 hR3
    go_upto_region 4 with fail
    rw [← HW3.out]
    clear d0 q0 q1 q2 fr2
    have d0 : W3.cell? ⟨go, 0, none⟩ = some (.int .i64 (1)) := hK3.v.cell 0
    obtain ⟨e0, e1, e2, e3, e4⟩ : W3.cell? ⟨go, 0, none⟩ = some (.int .i64 (1)) ∧ W3.cell? ⟨go, 1, none⟩ = some (.int .i64 (0)) ∧ W3.cell? ⟨go, 2, none⟩ = some (.string ⟨#[]⟩) ∧ W3.cell? ⟨go, 3, none⟩ = some (.slice none 0 0) ∧ W3.cell? ⟨go, 4, none⟩ = some (.slice none 0 0) := ⟨hK3.v.cell 0, hK3.v.cell 1, hK3.v.cell 2, hK3.v.cell 3, hK3.v.cell 4⟩
    obtain ⟨x0, x1, x2, x3, x4⟩ : W3.cell? ⟨gr, 0, none⟩ = some (.int .i64 0) ∧ W3.cell? ⟨gr, 1, none⟩ = some (.int .i64 0) ∧ W3.cell? ⟨gr, 2, none⟩ = some (.string ⟨#[]⟩) ∧ W3.cell? ⟨gr, 3, none⟩ = some (.slice none 0 0) ∧ W3.cell? ⟨gr, 4, none⟩ = some (.slice none 0 0) := ⟨hK3.res.cell 0, hK3.res.cell 1, hK3.res.cell 2, hK3.res.cell 3, hK3.res.cell 4⟩
    obtain ⟨y0, y1, y2, y3, y4⟩ : W3.frozen? ⟨gr, 0, none⟩ = false ∧ W3.frozen? ⟨gr, 1, none⟩ = false ∧ W3.frozen? ⟨gr, 2, none⟩ = false ∧ W3.frozen? ⟨gr, 3, none⟩ = false ∧ W3.frozen? ⟨gr, 4, none⟩ = false := ⟨hK3.res.free 0, hK3.res.free 1, hK3.res.free 2, hK3.res.free 3, hK3.res.free 4⟩
    obtain ⟨W9, hW9⟩ : ∃ W9, W9 = (((((W3.setCell ⟨gr, 0, none⟩ (.int .i64 (1))).setCell ⟨gr, 1, none⟩ (.int .i64 (0))).setCell ⟨gr, 2, none⟩ (.string ⟨#[]⟩)).setCell ⟨gr, 3, none⟩ (.slice none 0 0)).setCell ⟨gr, 4, none⟩ (.slice none 0 0)) := ⟨_, rfl⟩
    have hC9 : Chg W3 W9 (fun k => k = gr) := by rw [hW9]; exact chg_five W3 gr (.int .i64 (1)) (.int .i64 (0)) (.string ⟨#[]⟩) (.slice none 0 0) (.slice none 0 0)
    have hZ9 : Blk W9 gr 25 #[.int .i64 (1), .int .i64 (0), .string ⟨#[]⟩, .slice none 0 0, .slice none 0 0] := by rw [hW9]; exact hK3.res.five (.int .i64 (1)) (.int .i64 (0)) (.string ⟨#[]⟩) (.slice none 0 0) (.slice none 0 0)
    obtain ⟨j0, j1, j2, j3, j4⟩ : W9.cell? ⟨gr, 0, none⟩ = some (.int .i64 (1)) ∧ W9.cell? ⟨gr, 1, none⟩ = some (.int .i64 (0)) ∧ W9.cell? ⟨gr, 2, none⟩ = some (.string ⟨#[]⟩) ∧ W9.cell? ⟨gr, 3, none⟩ = some (.slice none 0 0) ∧ W9.cell? ⟨gr, 4, none⟩ = some (.slice none 0 0) := ⟨hZ9.cell 0, hZ9.cell 1, hZ9.cell 2, hZ9.cell 3, hZ9.cell 4⟩
    have hD := KvS.done (k := (1)) (n := (0)) (s := ⟨#[]⟩) (An := none) (ns := []) (cn := 0) (Ai := none) (is := []) (ci := 0) hK3 hC9 (by omega) (by omega) (by decide) (by simp)
    have HD := Lib.hid hD
    have HW9 := Lib.hid hW9
    clear hW9 hD
    go_wp2
    rw [← HW9.out]
    exact bodyPost_ret (v := .agg #[.int .i64 (1), .int .i64 (0), .string ⟨#[]⟩, .slice none 0 0, .slice none 0 0]) (by simp [results, Tryd.results47, go_sem, j0, j1, j2, j3, j4]) rfl ⟨LV.mk (1) (0) ⟨#[]⟩ none [] 0 none [] 0, p + 1, true, rfl, HD.out.1, HD.out.2.1, HD.out.2.2.1, HD.out.2.2.2, by omega, HV.out _⟩
  · have hlI : ((left : Int) == 0) = false := by rw [beq_eq_false_iff_ne]; omega
    have HV : Hid (ValIs b left p (p + 1) false (LV.mk (1) (0) ⟨#[]⟩ none [] 0 none [] 0).j) := Lib.hid (by rw [leaf_j]; obtain ⟨l, rfl⟩ : ∃ l, left = l + 1 := ⟨left - 1, by omega⟩; exact ValIs.yes (by rw [drop_at hp hx]; exact valG_leaf (by omega)))
    clear h0
    go_upto_region 4 with fail
    obtain ⟨e0, e1, e2, e3, e4⟩ : W2.cell? ⟨go, 0, none⟩ = some (.int .i64 (1)) ∧ W2.cell? ⟨go, 1, none⟩ = some (.int .i64 (0)) ∧ W2.cell? ⟨go, 2, none⟩ = some (.string ⟨#[]⟩) ∧ W2.cell? ⟨go, 3, none⟩ = some (.slice none 0 0) ∧ W2.cell? ⟨go, 4, none⟩ = some (.slice none 0 0) := ⟨hK2.v.cell 0, hK2.v.cell 1, hK2.v.cell 2, hK2.v.cell 3, hK2.v.cell 4⟩
    obtain ⟨x0, x1, x2, x3, x4⟩ : W2.cell? ⟨gr, 0, none⟩ = some (.int .i64 0) ∧ W2.cell? ⟨gr, 1, none⟩ = some (.int .i64 0) ∧ W2.cell? ⟨gr, 2, none⟩ = some (.string ⟨#[]⟩) ∧ W2.cell? ⟨gr, 3, none⟩ = some (.slice none 0 0) ∧ W2.cell? ⟨gr, 4, none⟩ = some (.slice none 0 0) := ⟨hK2.res.cell 0, hK2.res.cell 1, hK2.res.cell 2, hK2.res.cell 3, hK2.res.cell 4⟩
    obtain ⟨y0, y1, y2, y3, y4⟩ : W2.frozen? ⟨gr, 0, none⟩ = false ∧ W2.frozen? ⟨gr, 1, none⟩ = false ∧ W2.frozen? ⟨gr, 2, none⟩ = false ∧ W2.frozen? ⟨gr, 3, none⟩ = false ∧ W2.frozen? ⟨gr, 4, none⟩ = false := ⟨hK2.res.free 0, hK2.res.free 1, hK2.res.free 2, hK2.res.free 3, hK2.res.free 4⟩
    obtain ⟨W9, hW9⟩ : ∃ W9, W9 = (((((W2.setCell ⟨gr, 0, none⟩ (.int .i64 (1))).setCell ⟨gr, 1, none⟩ (.int .i64 (0))).setCell ⟨gr, 2, none⟩ (.string ⟨#[]⟩)).setCell ⟨gr, 3, none⟩ (.slice none 0 0)).setCell ⟨gr, 4, none⟩ (.slice none 0 0)) := ⟨_, rfl⟩
    have hC9 : Chg W2 W9 (fun k => k = gr) := by rw [hW9]; exact chg_five W2 gr (.int .i64 (1)) (.int .i64 (0)) (.string ⟨#[]⟩) (.slice none 0 0) (.slice none 0 0)
    have hZ9 : Blk W9 gr 25 #[.int .i64 (1), .int .i64 (0), .string ⟨#[]⟩, .slice none 0 0, .slice none 0 0] := by rw [hW9]; exact hK2.res.five (.int .i64 (1)) (.int .i64 (0)) (.string ⟨#[]⟩) (.slice none 0 0) (.slice none 0 0)
    obtain ⟨j0, j1, j2, j3, j4⟩ : W9.cell? ⟨gr, 0, none⟩ = some (.int .i64 (1)) ∧ W9.cell? ⟨gr, 1, none⟩ = some (.int .i64 (0)) ∧ W9.cell? ⟨gr, 2, none⟩ = some (.string ⟨#[]⟩) ∧ W9.cell? ⟨gr, 3, none⟩ = some (.slice none 0 0) ∧ W9.cell? ⟨gr, 4, none⟩ = some (.slice none 0 0) := ⟨hZ9.cell 0, hZ9.cell 1, hZ9.cell 2, hZ9.cell 3, hZ9.cell 4⟩
    have hD := KvS.done (k := (1)) (n := (0)) (s := ⟨#[]⟩) (An := none) (ns := []) (cn := 0) (Ai := none) (is := []) (ci := 0) hK2 hC9 (by omega) (by omega) (by decide) (by simp)
    have HD := Lib.hid hD
    have HW9 := Lib.hid hW9
    clear hW9 hD
    go_wp2
    rw [← HW9.out]
    exact bodyPost_ret (v := .agg #[.int .i64 (1), .int .i64 (0), .string ⟨#[]⟩, .slice none 0 0, .slice none 0 0]) (by simp [results, Tryd.results47, go_sem, j0, j1, j2, j3, j4]) rfl ⟨LV.mk (1) (0) ⟨#[]⟩ none [] 0 none [] 0, p + 1, false, rfl, HD.out.1, HD.out.2.1, HD.out.2.2.1, HD.out.2.2.2, by omega, HV.out⟩

set_option maxHeartbeats 4000000 in
theorem value_leaf3 (r : Nat) (A : Option Addr) (c : Nat) (b : List Int) (p left : Nat) (w : World) (hR : RdAt w r A c b p false) (hc : Cells w r A (U8 b)) (hp : p < b.length) (hl : b.length ≤ 10000000000000) (hleft : left ≤ 100) (hx : b[p] = 3) : Calls Tryd.prog 47 #[.pointer (some ⟨r, 0, none⟩), .int .i64 left] w (ValRes w r A c b left p) := by
  have hrl : r < w.heap.size := Blk.lt hR
  obtain ⟨gr, hgr⟩ : ∃ g, w.heap.size = g := ⟨_, rfl⟩
  obtain ⟨W, hW⟩ : ∃ W, W = w.alloc (.cells zeroBlk 25) := ⟨_, rfl⟩
  have hZ : Blk W gr 25 zeroBlk := by rw [hW, ← hgr]; exact Blk.new w _ _
  have hCW : Chg w W (fun k => k = r) := by rw [hW]; exact Chg.alloc w _ _
  have hRW : RdAt W r A c b p false := by rw [hW]; exact Blk.alloc hR _
  have hcW : Cells W r A (U8 b) := hc.chgR hrl hCW
  have hWs : gr < W.heap.size := by rw [hW, World.size_alloc]; omega
  have HC1 := Lib.hid (next_lt r A c b p false W 3 hRW hcW hp hl hx)
  have HW := Lib.hid hW
  have HGR := Lib.hid hgr
  clear hW hR hc hRW
  go_enter Tryd.func47, Tryd.ntmps47
  go_upto_region 1 with fail
  first | rw [← HW.out, hgr] | rw [← HW.out]
  go_wp2_with fail
  refine HC1.out.mono ?_
  rintro e w1 ⟨rfl, hR1, hC1⟩
  have hC01 := hCW.thenC hC1
  have hs1 := hC1.size
  have hc1 := hcW.chgR (by omega) hC1
  obtain ⟨go, hgo⟩ : ∃ g, w1.heap.size = g := ⟨_, rfl⟩
  obtain ⟨W2, hW2⟩ : ∃ W2, W2 = w1.alloc (.cells #[.int .i64 (2), .int .i64 0, .string ⟨#[]⟩, .slice none 0 0, .slice none 0 0] 25) := ⟨_, rfl⟩
  have hK2 : KvS w W2 gr r go A c b (p + 1) false (2) 0 ⟨#[]⟩ (.slice none 0 0) (.slice none 0 0) [] [] := by rw [hW2]; exact KvS.fresh (Blk.alloc hR1 _) hrl ((hZ.chg hC1 (by omega)).alloc _) (by omega) (hC01.thenC (Chg.alloc w1 _ _)) (by rw [← hgo]; exact Blk.new w1 _ _) (by omega)
  have hc2 : Cells W2 r A (U8 b) := by rw [hW2]; exact hc1.alloc (by omega) _
  have HW2 := Lib.hid hW2
  have HGO := Lib.hid hgo
  have hs2 : r < W2.heap.size := by rw [hW2, World.size_alloc]; omega
  clear hW2 hZ hR1 HC1 hcW
  go_upto_region 2 with fail
  first | rw [← HW2.out, hgo] | rw [← HW2.out]
  clear hgo hgr
  have d0 : W2.cell? ⟨go, 0, none⟩ = some (.int .i64 (2)) := hK2.v.cell 0
  by_cases h0 : left = 0
  · have hlI : ((left : Int) == 0) = true := by rw [beq_iff_eq]; omega
    have HV : Hid (∀ j, ValIs b left p (p + 1) true j) := Lib.hid fun j => by rw [h0]; exact ValIs.no0
    clear h0
    have fr2 : W2.frozen? ⟨r, 2, none⟩ = false := Blk.free hK2.rd 2
    obtain ⟨q0, q1, q2⟩ : W2.cell? ⟨r, 0, none⟩ = some (.slice A b.length c) ∧ W2.cell? ⟨r, 1, none⟩ = some (.int .i64 ((p + 1) : Nat)) ∧ W2.cell? ⟨r, 2, none⟩ = some (.bool false) := ⟨Blk.cell hK2.rd 0, Blk.cell hK2.rd 1, Blk.cell hK2.rd 2⟩
    obtain ⟨W3, hW3⟩ : ∃ W3, W3 = W2.setCell ⟨r, 2, none⟩ (.bool true) := ⟨_, rfl⟩
    have hC23 : Chg W2 W3 (fun k => k = r) := by rw [hW3]; exact Chg.setCell W2 ⟨r, 2, none⟩ _
    have hR3 : RdAt W3 r A c b ((p + 1)) true := by unfold RdAt; rw [hW3]; have := (show Blk W2 r 54 #[.slice A b.length c, .int .i64 ((p + 1) : Nat), .bool false] from hK2.rd).set_ 2 (.bool true); simpa using this
    have hK3 := hK2.read hC23 hR3
    have hc3 := hc2.chgR hs2 hC23
    have hs3 := hC23.size
    have HW3 := Lib.hid hW3
    clear hW3 hR3
    go_upto_region 4 with fail
    rw [← HW3.out]
    clear d0 q0 q1 q2 fr2
    have d0 : W3.cell? ⟨go, 0, none⟩ = some (.int .i64 (2)) := hK3.v.cell 0
    obtain ⟨e0, e1, e2, e3, e4⟩ : W3.cell? ⟨go, 0, none⟩ = some (.int .i64 (2)) ∧ W3.cell? ⟨go, 1, none⟩ = some (.int .i64 (0)) ∧ W3.cell? ⟨go, 2, none⟩ = some (.string ⟨#[]⟩) ∧ W3.cell? ⟨go, 3, none⟩ = some (.slice none 0 0) ∧ W3.cell? ⟨go, 4, none⟩ = some (.slice none 0 0) := ⟨hK3.v.cell 0, hK3.v.cell 1, hK3.v.cell 2, hK3.v.cell 3, hK3.v.cell 4⟩
    obtain ⟨x0, x1, x2, x3, x4⟩ : W3.cell? ⟨gr, 0, none⟩ = some (.int .i64 0) ∧ W3.cell? ⟨gr, 1, none⟩ = some (.int .i64 0) ∧ W3.cell? ⟨gr, 2, none⟩ = some (.string ⟨#[]⟩) ∧ W3.cell? ⟨gr, 3, none⟩ = some (.slice none 0 0) ∧ W3.cell? ⟨gr, 4, none⟩ = some (.slice none 0 0) := ⟨hK3.res.cell 0, hK3.res.cell 1, hK3.res.cell 2, hK3.res.cell 3, hK3.res.cell 4⟩
    obtain ⟨y0, y1, y2, y3, y4⟩ : W3.frozen? ⟨gr, 0, none⟩ = false ∧ W3.frozen? ⟨gr, 1, none⟩ = false ∧ W3.frozen? ⟨gr, 2, none⟩ = false ∧ W3.frozen? ⟨gr, 3, none⟩ = false ∧ W3.frozen? ⟨gr, 4, none⟩ = false := ⟨hK3.res.free 0, hK3.res.free 1, hK3.res.free 2, hK3.res.free 3, hK3.res.free 4⟩
    obtain ⟨W9, hW9⟩ : ∃ W9, W9 = (((((W3.setCell ⟨gr, 0, none⟩ (.int .i64 (2))).setCell ⟨gr, 1, none⟩ (.int .i64 (0))).setCell ⟨gr, 2, none⟩ (.string ⟨#[]⟩)).setCell ⟨gr, 3, none⟩ (.slice none 0 0)).setCell ⟨gr, 4, none⟩ (.slice none 0 0)) := ⟨_, rfl⟩
    have hC9 : Chg W3 W9 (fun k => k = gr) := by rw [hW9]; exact chg_five W3 gr (.int .i64 (2)) (.int .i64 (0)) (.string ⟨#[]⟩) (.slice none 0 0) (.slice none 0 0)
    have hZ9 : Blk W9 gr 25 #[.int .i64 (2), .int .i64 (0), .string ⟨#[]⟩, .slice none 0 0, .slice none 0 0] := by rw [hW9]; exact hK3.res.five (.int .i64 (2)) (.int .i64 (0)) (.string ⟨#[]⟩) (.slice none 0 0) (.slice none 0 0)
    obtain ⟨j0, j1, j2, j3, j4⟩ : W9.cell? ⟨gr, 0, none⟩ = some (.int .i64 (2)) ∧ W9.cell? ⟨gr, 1, none⟩ = some (.int .i64 (0)) ∧ W9.cell? ⟨gr, 2, none⟩ = some (.string ⟨#[]⟩) ∧ W9.cell? ⟨gr, 3, none⟩ = some (.slice none 0 0) ∧ W9.cell? ⟨gr, 4, none⟩ = some (.slice none 0 0) := ⟨hZ9.cell 0, hZ9.cell 1, hZ9.cell 2, hZ9.cell 3, hZ9.cell 4⟩
    have hD := KvS.done (k := (2)) (n := (0)) (s := ⟨#[]⟩) (An := none) (ns := []) (cn := 0) (Ai := none) (is := []) (ci := 0) hK3 hC9 (by omega) (by omega) (by decide) (by simp)
    have HD := Lib.hid hD
    have HW9 := Lib.hid hW9
    clear hW9 hD
    go_wp2
    rw [← HW9.out]
    exact bodyPost_ret (v := .agg #[.int .i64 (2), .int .i64 (0), .string ⟨#[]⟩, .slice none 0 0, .slice none 0 0]) (by simp [results, Tryd.results47, go_sem, j0, j1, j2, j3, j4]) rfl ⟨LV.mk (2) (0) ⟨#[]⟩ none [] 0 none [] 0, p + 1, true, rfl, HD.out.1, HD.out.2.1, HD.out.2.2.1, HD.out.2.2.2, by omega, HV.out _⟩
  · have hlI : ((left : Int) == 0) = false := by rw [beq_eq_false_iff_ne]; omega
    have HV : Hid (ValIs b left p (p + 1) false (LV.mk (2) (0) ⟨#[]⟩ none [] 0 none [] 0).j) := Lib.hid (by rw [leaf_j]; obtain ⟨l, rfl⟩ : ∃ l, left = l + 1 := ⟨left - 1, by omega⟩; exact ValIs.yes (by rw [drop_at hp hx]; exact valG_leaf (by omega)))
    clear h0
    go_upto_region 4 with fail
    obtain ⟨e0, e1, e2, e3, e4⟩ : W2.cell? ⟨go, 0, none⟩ = some (.int .i64 (2)) ∧ W2.cell? ⟨go, 1, none⟩ = some (.int .i64 (0)) ∧ W2.cell? ⟨go, 2, none⟩ = some (.string ⟨#[]⟩) ∧ W2.cell? ⟨go, 3, none⟩ = some (.slice none 0 0) ∧ W2.cell? ⟨go, 4, none⟩ = some (.slice none 0 0) := ⟨hK2.v.cell 0, hK2.v.cell 1, hK2.v.cell 2, hK2.v.cell 3, hK2.v.cell 4⟩
    obtain ⟨x0, x1, x2, x3, x4⟩ : W2.cell? ⟨gr, 0, none⟩ = some (.int .i64 0) ∧ W2.cell? ⟨gr, 1, none⟩ = some (.int .i64 0) ∧ W2.cell? ⟨gr, 2, none⟩ = some (.string ⟨#[]⟩) ∧ W2.cell? ⟨gr, 3, none⟩ = some (.slice none 0 0) ∧ W2.cell? ⟨gr, 4, none⟩ = some (.slice none 0 0) := ⟨hK2.res.cell 0, hK2.res.cell 1, hK2.res.cell 2, hK2.res.cell 3, hK2.res.cell 4⟩
    obtain ⟨y0, y1, y2, y3, y4⟩ : W2.frozen? ⟨gr, 0, none⟩ = false ∧ W2.frozen? ⟨gr, 1, none⟩ = false ∧ W2.frozen? ⟨gr, 2, none⟩ = false ∧ W2.frozen? ⟨gr, 3, none⟩ = false ∧ W2.frozen? ⟨gr, 4, none⟩ = false := ⟨hK2.res.free 0, hK2.res.free 1, hK2.res.free 2, hK2.res.free 3, hK2.res.free 4⟩
    obtain ⟨W9, hW9⟩ : ∃ W9, W9 = (((((W2.setCell ⟨gr, 0, none⟩ (.int .i64 (2))).setCell ⟨gr, 1, none⟩ (.int .i64 (0))).setCell ⟨gr, 2, none⟩ (.string ⟨#[]⟩)).setCell ⟨gr, 3, none⟩ (.slice none 0 0)).setCell ⟨gr, 4, none⟩ (.slice none 0 0)) := ⟨_, rfl⟩
    have hC9 : Chg W2 W9 (fun k => k = gr) := by rw [hW9]; exact chg_five W2 gr (.int .i64 (2)) (.int .i64 (0)) (.string ⟨#[]⟩) (.slice none 0 0) (.slice none 0 0)
    have hZ9 : Blk W9 gr 25 #[.int .i64 (2), .int .i64 (0), .string ⟨#[]⟩, .slice none 0 0, .slice none 0 0] := by rw [hW9]; exact hK2.res.five (.int .i64 (2)) (.int .i64 (0)) (.string ⟨#[]⟩) (.slice none 0 0) (.slice none 0 0)
    obtain ⟨j0, j1, j2, j3, j4⟩ : W9.cell? ⟨gr, 0, none⟩ = some (.int .i64 (2)) ∧ W9.cell? ⟨gr, 1, none⟩ = some (.int .i64 (0)) ∧ W9.cell? ⟨gr, 2, none⟩ = some (.string ⟨#[]⟩) ∧ W9.cell? ⟨gr, 3, none⟩ = some (.slice none 0 0) ∧ W9.cell? ⟨gr, 4, none⟩ = some (.slice none 0 0) := ⟨hZ9.cell 0, hZ9.cell 1, hZ9.cell 2, hZ9.cell 3, hZ9.cell 4⟩
    have hD := KvS.done (k := (2)) (n := (0)) (s := ⟨#[]⟩) (An := none) (ns := []) (cn := 0) (Ai := none) (is := []) (ci := 0) hK2 hC9 (by omega) (by omega) (by decide) (by simp)
    have HD := Lib.hid hD
    have HW9 := Lib.hid hW9
    clear hW9 hD
    go_wp2
    rw [← HW9.out]
    exact bodyPost_ret (v := .agg #[.int .i64 (2), .int .i64 (0), .string ⟨#[]⟩, .slice none 0 0, .slice none 0 0]) (by simp [results, Tryd.results47, go_sem, j0, j1, j2, j3, j4]) rfl ⟨LV.mk (2) (0) ⟨#[]⟩ none [] 0 none [] 0, p + 1, false, rfl, HD.out.1, HD.out.2.1, HD.out.2.2.1, HD.out.2.2.2, by omega, HV.out⟩

set_option maxHeartbeats 4000000 in
theorem value_bad0 (r : Nat) (A : Option Addr) (c : Nat) (b : List Int) (p left : Nat) (w : World) (hR : RdAt w r A c b p false) (hc : Cells w r A (U8 b)) (hp : p < b.length) (hl : b.length ≤ 10000000000000) (hleft : left ≤ 100) (hx : b[p] = 0) : Calls Tryd.prog 47 #[.pointer (some ⟨r, 0, none⟩), .int .i64 left] w (ValRes w r A c b left p) := by
  have hrl : r < w.heap.size := Blk.lt hR
  obtain ⟨gr, hgr⟩ : ∃ g, w.heap.size = g := ⟨_, rfl⟩
  obtain ⟨W, hW⟩ : ∃ W, W = w.alloc (.cells zeroBlk 25) := ⟨_, rfl⟩
  have hZ : Blk W gr 25 zeroBlk := by rw [hW, ← hgr]; exact Blk.new w _ _
  have hCW : Chg w W (fun k => k = r) := by rw [hW]; exact Chg.alloc w _ _
  have hRW : RdAt W r A c b p false := by rw [hW]; exact Blk.alloc hR _
  have hcW : Cells W r A (U8 b) := hc.chgR hrl hCW
  have hWs : gr < W.heap.size := by rw [hW, World.size_alloc]; omega
  have HC1 := Lib.hid (next_lt r A c b p false W 0 hRW hcW hp hl hx)
  have HW := Lib.hid hW
  have HGR := Lib.hid hgr
  clear hW hR hc hRW
  go_enter Tryd.func47, Tryd.ntmps47
  go_upto_region 1 with fail
  first | rw [← HW.out, hgr] | rw [← HW.out]
  go_wp2_with fail
  refine HC1.out.mono ?_
  rintro e w1 ⟨rfl, hR1, hC1⟩
  have hC01 := hCW.thenC hC1
  have hs1 := hC1.size
  have hc1 := hcW.chgR (by omega) hC1
  obtain ⟨go, hgo⟩ : ∃ g, w1.heap.size = g := ⟨_, rfl⟩
  obtain ⟨W2, hW2⟩ : ∃ W2, W2 = w1.alloc (.cells #[.int .i64 (-1), .int .i64 0, .string ⟨#[]⟩, .slice none 0 0, .slice none 0 0] 25) := ⟨_, rfl⟩
  have hK2 : KvS w W2 gr r go A c b (p + 1) false (-1) 0 ⟨#[]⟩ (.slice none 0 0) (.slice none 0 0) [] [] := by rw [hW2]; exact KvS.fresh (Blk.alloc hR1 _) hrl ((hZ.chg hC1 (by omega)).alloc _) (by omega) (hC01.thenC (Chg.alloc w1 _ _)) (by rw [← hgo]; exact Blk.new w1 _ _) (by omega)
  have hc2 : Cells W2 r A (U8 b) := by rw [hW2]; exact hc1.alloc (by omega) _
  have HW2 := Lib.hid hW2
  have HGO := Lib.hid hgo
  have hs2 : r < W2.heap.size := by rw [hW2, World.size_alloc]; omega
  clear hW2 hZ hR1 HC1 hcW
  go_upto_region 2 with fail
  first | rw [← HW2.out, hgo] | rw [← HW2.out]
  clear hgo hgr
  have d0 : W2.cell? ⟨go, 0, none⟩ = some (.int .i64 (-1)) := hK2.v.cell 0
  have HV : Hid (∀ j, ValIs b left p (p + 1) true j) := Lib.hid fun j => ValIs.no (by rw [drop_at hp hx]; exact valG_bad (by omega))
  by_cases h0 : left = 0
  · have hlI : ((left : Int) == 0) = true := by rw [beq_iff_eq]; omega
    have HL0 := Lib.hid h0
    clear h0
    have fr2 : W2.frozen? ⟨r, 2, none⟩ = false := Blk.free hK2.rd 2
    obtain ⟨q0, q1, q2⟩ : W2.cell? ⟨r, 0, none⟩ = some (.slice A b.length c) ∧ W2.cell? ⟨r, 1, none⟩ = some (.int .i64 ((p + 1) : Nat)) ∧ W2.cell? ⟨r, 2, none⟩ = some (.bool false) := ⟨Blk.cell hK2.rd 0, Blk.cell hK2.rd 1, Blk.cell hK2.rd 2⟩
    obtain ⟨W3, hW3⟩ : ∃ W3, W3 = W2.setCell ⟨r, 2, none⟩ (.bool true) := ⟨_, rfl⟩
    have hC23 : Chg W2 W3 (fun k => k = r) := by rw [hW3]; exact Chg.setCell W2 ⟨r, 2, none⟩ _
    have hR3 : RdAt W3 r A c b ((p + 1)) true := by unfold RdAt; rw [hW3]; have := (show Blk W2 r 54 #[.slice A b.length c, .int .i64 ((p + 1) : Nat), .bool false] from hK2.rd).set_ 2 (.bool true); simpa using this
    have hK3 := hK2.read hC23 hR3
    have hc3 := hc2.chgR hs2 hC23
    have hs3 := hC23.size
    have HW3 := Lib.hid hW3
    clear hW3 hR3
    go_upto_region 4 with fail
    rw [← HW3.out]
    clear d0 q0 q1 q2 fr2
    have d0 : W3.cell? ⟨go, 0, none⟩ = some (.int .i64 (-1)) := hK3.v.cell 0
    obtain ⟨e0, e1, e2, e3, e4⟩ : W3.cell? ⟨go, 0, none⟩ = some (.int .i64 (-1)) ∧ W3.cell? ⟨go, 1, none⟩ = some (.int .i64 (0)) ∧ W3.cell? ⟨go, 2, none⟩ = some (.string ⟨#[]⟩) ∧ W3.cell? ⟨go, 3, none⟩ = some (.slice none 0 0) ∧ W3.cell? ⟨go, 4, none⟩ = some (.slice none 0 0) := ⟨hK3.v.cell 0, hK3.v.cell 1, hK3.v.cell 2, hK3.v.cell 3, hK3.v.cell 4⟩
    obtain ⟨x0, x1, x2, x3, x4⟩ : W3.cell? ⟨gr, 0, none⟩ = some (.int .i64 0) ∧ W3.cell? ⟨gr, 1, none⟩ = some (.int .i64 0) ∧ W3.cell? ⟨gr, 2, none⟩ = some (.string ⟨#[]⟩) ∧ W3.cell? ⟨gr, 3, none⟩ = some (.slice none 0 0) ∧ W3.cell? ⟨gr, 4, none⟩ = some (.slice none 0 0) := ⟨hK3.res.cell 0, hK3.res.cell 1, hK3.res.cell 2, hK3.res.cell 3, hK3.res.cell 4⟩
    obtain ⟨y0, y1, y2, y3, y4⟩ : W3.frozen? ⟨gr, 0, none⟩ = false ∧ W3.frozen? ⟨gr, 1, none⟩ = false ∧ W3.frozen? ⟨gr, 2, none⟩ = false ∧ W3.frozen? ⟨gr, 3, none⟩ = false ∧ W3.frozen? ⟨gr, 4, none⟩ = false := ⟨hK3.res.free 0, hK3.res.free 1, hK3.res.free 2, hK3.res.free 3, hK3.res.free 4⟩
    obtain ⟨W9, hW9⟩ : ∃ W9, W9 = (((((W3.setCell ⟨gr, 0, none⟩ (.int .i64 (-1))).setCell ⟨gr, 1, none⟩ (.int .i64 (0))).setCell ⟨gr, 2, none⟩ (.string ⟨#[]⟩)).setCell ⟨gr, 3, none⟩ (.slice none 0 0)).setCell ⟨gr, 4, none⟩ (.slice none 0 0)) := ⟨_, rfl⟩
    have hC9 : Chg W3 W9 (fun k => k = gr) := by rw [hW9]; exact chg_five W3 gr (.int .i64 (-1)) (.int .i64 (0)) (.string ⟨#[]⟩) (.slice none 0 0) (.slice none 0 0)
    have hZ9 : Blk W9 gr 25 #[.int .i64 (-1), .int .i64 (0), .string ⟨#[]⟩, .slice none 0 0, .slice none 0 0] := by rw [hW9]; exact hK3.res.five (.int .i64 (-1)) (.int .i64 (0)) (.string ⟨#[]⟩) (.slice none 0 0) (.slice none 0 0)
    obtain ⟨j0, j1, j2, j3, j4⟩ : W9.cell? ⟨gr, 0, none⟩ = some (.int .i64 (-1)) ∧ W9.cell? ⟨gr, 1, none⟩ = some (.int .i64 (0)) ∧ W9.cell? ⟨gr, 2, none⟩ = some (.string ⟨#[]⟩) ∧ W9.cell? ⟨gr, 3, none⟩ = some (.slice none 0 0) ∧ W9.cell? ⟨gr, 4, none⟩ = some (.slice none 0 0) := ⟨hZ9.cell 0, hZ9.cell 1, hZ9.cell 2, hZ9.cell 3, hZ9.cell 4⟩
    have hD := KvS.done (k := (-1)) (n := (0)) (s := ⟨#[]⟩) (An := none) (ns := []) (cn := 0) (Ai := none) (is := []) (ci := 0) hK3 hC9 (by omega) (by omega) (by decide) (by simp)
    have HD := Lib.hid hD
    have HW9 := Lib.hid hW9
    clear hW9 hD
    go_wp2
    rw [← HW9.out]
    exact bodyPost_ret (v := .agg #[.int .i64 (-1), .int .i64 (0), .string ⟨#[]⟩, .slice none 0 0, .slice none 0 0]) (by simp [results, Tryd.results47, go_sem, j0, j1, j2, j3, j4]) rfl ⟨LV.mk (-1) (0) ⟨#[]⟩ none [] 0 none [] 0, p + 1, true, rfl, HD.out.1, HD.out.2.1, HD.out.2.2.1, HD.out.2.2.2, by omega, HV.out _⟩
  · have hlI : ((left : Int) == 0) = false := by rw [beq_eq_false_iff_ne]; omega
    have HL0 := Lib.hid h0
    clear h0
    have fr2 : W2.frozen? ⟨r, 2, none⟩ = false := Blk.free hK2.rd 2
    obtain ⟨q0, q1, q2⟩ : W2.cell? ⟨r, 0, none⟩ = some (.slice A b.length c) ∧ W2.cell? ⟨r, 1, none⟩ = some (.int .i64 ((p + 1) : Nat)) ∧ W2.cell? ⟨r, 2, none⟩ = some (.bool false) := ⟨Blk.cell hK2.rd 0, Blk.cell hK2.rd 1, Blk.cell hK2.rd 2⟩
    obtain ⟨W3, hW3⟩ : ∃ W3, W3 = W2.setCell ⟨r, 2, none⟩ (.bool true) := ⟨_, rfl⟩
    have hC23 : Chg W2 W3 (fun k => k = r) := by rw [hW3]; exact Chg.setCell W2 ⟨r, 2, none⟩ _
    have hR3 : RdAt W3 r A c b ((p + 1)) true := by unfold RdAt; rw [hW3]; have := (show Blk W2 r 54 #[.slice A b.length c, .int .i64 ((p + 1) : Nat), .bool false] from hK2.rd).set_ 2 (.bool true); simpa using this
    have hK3 := hK2.read hC23 hR3
    have hc3 := hc2.chgR hs2 hC23
    have hs3 := hC23.size
    have HW3 := Lib.hid hW3
    clear hW3 hR3
    go_upto_region 4 with fail
    rw [← HW3.out]
    clear d0 q0 q1 q2 fr2
    have d0 : W3.cell? ⟨go, 0, none⟩ = some (.int .i64 (-1)) := hK3.v.cell 0
    obtain ⟨e0, e1, e2, e3, e4⟩ : W3.cell? ⟨go, 0, none⟩ = some (.int .i64 (-1)) ∧ W3.cell? ⟨go, 1, none⟩ = some (.int .i64 (0)) ∧ W3.cell? ⟨go, 2, none⟩ = some (.string ⟨#[]⟩) ∧ W3.cell? ⟨go, 3, none⟩ = some (.slice none 0 0) ∧ W3.cell? ⟨go, 4, none⟩ = some (.slice none 0 0) := ⟨hK3.v.cell 0, hK3.v.cell 1, hK3.v.cell 2, hK3.v.cell 3, hK3.v.cell 4⟩
    obtain ⟨x0, x1, x2, x3, x4⟩ : W3.cell? ⟨gr, 0, none⟩ = some (.int .i64 0) ∧ W3.cell? ⟨gr, 1, none⟩ = some (.int .i64 0) ∧ W3.cell? ⟨gr, 2, none⟩ = some (.string ⟨#[]⟩) ∧ W3.cell? ⟨gr, 3, none⟩ = some (.slice none 0 0) ∧ W3.cell? ⟨gr, 4, none⟩ = some (.slice none 0 0) := ⟨hK3.res.cell 0, hK3.res.cell 1, hK3.res.cell 2, hK3.res.cell 3, hK3.res.cell 4⟩
    obtain ⟨y0, y1, y2, y3, y4⟩ : W3.frozen? ⟨gr, 0, none⟩ = false ∧ W3.frozen? ⟨gr, 1, none⟩ = false ∧ W3.frozen? ⟨gr, 2, none⟩ = false ∧ W3.frozen? ⟨gr, 3, none⟩ = false ∧ W3.frozen? ⟨gr, 4, none⟩ = false := ⟨hK3.res.free 0, hK3.res.free 1, hK3.res.free 2, hK3.res.free 3, hK3.res.free 4⟩
    obtain ⟨W9, hW9⟩ : ∃ W9, W9 = (((((W3.setCell ⟨gr, 0, none⟩ (.int .i64 (-1))).setCell ⟨gr, 1, none⟩ (.int .i64 (0))).setCell ⟨gr, 2, none⟩ (.string ⟨#[]⟩)).setCell ⟨gr, 3, none⟩ (.slice none 0 0)).setCell ⟨gr, 4, none⟩ (.slice none 0 0)) := ⟨_, rfl⟩
    have hC9 : Chg W3 W9 (fun k => k = gr) := by rw [hW9]; exact chg_five W3 gr (.int .i64 (-1)) (.int .i64 (0)) (.string ⟨#[]⟩) (.slice none 0 0) (.slice none 0 0)
    have hZ9 : Blk W9 gr 25 #[.int .i64 (-1), .int .i64 (0), .string ⟨#[]⟩, .slice none 0 0, .slice none 0 0] := by rw [hW9]; exact hK3.res.five (.int .i64 (-1)) (.int .i64 (0)) (.string ⟨#[]⟩) (.slice none 0 0) (.slice none 0 0)
    obtain ⟨j0, j1, j2, j3, j4⟩ : W9.cell? ⟨gr, 0, none⟩ = some (.int .i64 (-1)) ∧ W9.cell? ⟨gr, 1, none⟩ = some (.int .i64 (0)) ∧ W9.cell? ⟨gr, 2, none⟩ = some (.string ⟨#[]⟩) ∧ W9.cell? ⟨gr, 3, none⟩ = some (.slice none 0 0) ∧ W9.cell? ⟨gr, 4, none⟩ = some (.slice none 0 0) := ⟨hZ9.cell 0, hZ9.cell 1, hZ9.cell 2, hZ9.cell 3, hZ9.cell 4⟩
    have hD := KvS.done (k := (-1)) (n := (0)) (s := ⟨#[]⟩) (An := none) (ns := []) (cn := 0) (Ai := none) (is := []) (ci := 0) hK3 hC9 (by omega) (by omega) (by decide) (by simp)
    have HD := Lib.hid hD
    have HW9 := Lib.hid hW9
    clear hW9 hD
    go_wp2
    rw [← HW9.out]
    exact bodyPost_ret (v := .agg #[.int .i64 (-1), .int .i64 (0), .string ⟨#[]⟩, .slice none 0 0, .slice none 0 0]) (by simp [results, Tryd.results47, go_sem, j0, j1, j2, j3, j4]) rfl ⟨LV.mk (-1) (0) ⟨#[]⟩ none [] 0 none [] 0, p + 1, true, rfl, HD.out.1, HD.out.2.1, HD.out.2.2.1, HD.out.2.2.2, by omega, HV.out _⟩

set_option maxHeartbeats 4000000 in
theorem value_bad8 (r : Nat) (A : Option Addr) (c : Nat) (b : List Int) (p left : Nat) (w : World) (hR : RdAt w r A c b p false) (hc : Cells w r A (U8 b)) (hp : p < b.length) (hl : b.length ≤ 10000000000000) (hleft : left ≤ 100) (C : Int) (h7 : 7 < C) (h255 : C ≤ 255) (hx : b[p] = C) : Calls Tryd.prog 47 #[.pointer (some ⟨r, 0, none⟩), .int .i64 left] w (ValRes w r A c b left p) := by
  have HV : Hid (∀ j, ValIs b left p (p + 1) true j) := Lib.hid fun j => ValIs.no (by rw [drop_at hp hx]; exact valG_bad (by omega))
  have hwr : IntKind.i64.wrap C = C := by rw [IntKind.wrap_i64]; omega
  have hwr1 : IntKind.i64.wrap (C - 1) = C - 1 := by rw [IntKind.wrap_i64]; omega
  have hk0 : ¬ C - 1 < 0 := by omega
  have hk6 : 6 < C - 1 := by omega
  have hk3' : (C - 1 == 3) = false := by rw [beq_eq_false_iff_ne]; omega
  have hk4' : (C - 1 == 4) = false := by rw [beq_eq_false_iff_ne]; omega
  have hk5' : (C - 1 == 5) = false := by rw [beq_eq_false_iff_ne]; omega
  have hk6' : (C - 1 == 6) = false := by rw [beq_eq_false_iff_ne]; omega
  have hrl : r < w.heap.size := Blk.lt hR
  obtain ⟨gr, hgr⟩ : ∃ g, w.heap.size = g := ⟨_, rfl⟩
  obtain ⟨W, hW⟩ : ∃ W, W = w.alloc (.cells zeroBlk 25) := ⟨_, rfl⟩
  have hZ : Blk W gr 25 zeroBlk := by rw [hW, ← hgr]; exact Blk.new w _ _
  have hCW : Chg w W (fun k => k = r) := by rw [hW]; exact Chg.alloc w _ _
  have hRW : RdAt W r A c b p false := by rw [hW]; exact Blk.alloc hR _
  have hcW : Cells W r A (U8 b) := hc.chgR hrl hCW
  have hWs : gr < W.heap.size := by rw [hW, World.size_alloc]; omega
  have HC1 := Lib.hid (next_lt r A c b p false W C hRW hcW hp hl hx)
  have HW := Lib.hid hW
  have HGR := Lib.hid hgr
  clear hW hR hc hRW
  go_enter Tryd.func47, Tryd.ntmps47
  go_upto_region 1 with fail
  first | rw [← HW.out, hgr] | rw [← HW.out]
  go_wp2_with fail
  refine HC1.out.mono ?_
  rintro e w1 ⟨rfl, hR1, hC1⟩
  have hC01 := hCW.thenC hC1
  have hs1 := hC1.size
  have hc1 := hcW.chgR (by omega) hC1
  obtain ⟨go, hgo⟩ : ∃ g, w1.heap.size = g := ⟨_, rfl⟩
  obtain ⟨W2, hW2⟩ : ∃ W2, W2 = w1.alloc (.cells #[.int .i64 (C - 1), .int .i64 0, .string ⟨#[]⟩, .slice none 0 0, .slice none 0 0] 25) := ⟨_, rfl⟩
  have hK2 : KvS w W2 gr r go A c b (p + 1) false (C - 1) 0 ⟨#[]⟩ (.slice none 0 0) (.slice none 0 0) [] [] := by rw [hW2]; exact KvS.fresh (Blk.alloc hR1 _) hrl ((hZ.chg hC1 (by omega)).alloc _) (by omega) (hC01.thenC (Chg.alloc w1 _ _)) (by rw [← hgo]; exact Blk.new w1 _ _) (by omega)
  have hc2 : Cells W2 r A (U8 b) := by rw [hW2]; exact hc1.alloc (by omega) _
  have HW2 := Lib.hid hW2
  have HGO := Lib.hid hgo
  have hs2 : r < W2.heap.size := by rw [hW2, World.size_alloc]; omega
  clear hW2 hZ hR1 HC1 hcW
  go_upto_region 2 with fail
  first | rw [← HW2.out, hgo] | rw [← HW2.out]
  clear hgo hgr
  have d0 : W2.cell? ⟨go, 0, none⟩ = some (.int .i64 (C - 1)) := hK2.v.cell 0
  by_cases h0 : left = 0
  · have hlI : ((left : Int) == 0) = true := by rw [beq_iff_eq]; omega
    have HL0 := Lib.hid h0
    clear h0
    have fr2 : W2.frozen? ⟨r, 2, none⟩ = false := Blk.free hK2.rd 2
    obtain ⟨q0, q1, q2⟩ : W2.cell? ⟨r, 0, none⟩ = some (.slice A b.length c) ∧ W2.cell? ⟨r, 1, none⟩ = some (.int .i64 ((p + 1) : Nat)) ∧ W2.cell? ⟨r, 2, none⟩ = some (.bool false) := ⟨Blk.cell hK2.rd 0, Blk.cell hK2.rd 1, Blk.cell hK2.rd 2⟩
    obtain ⟨W3, hW3⟩ : ∃ W3, W3 = W2.setCell ⟨r, 2, none⟩ (.bool true) := ⟨_, rfl⟩
    have hC23 : Chg W2 W3 (fun k => k = r) := by rw [hW3]; exact Chg.setCell W2 ⟨r, 2, none⟩ _
    have hR3 : RdAt W3 r A c b ((p + 1)) true := by unfold RdAt; rw [hW3]; have := (show Blk W2 r 54 #[.slice A b.length c, .int .i64 ((p + 1) : Nat), .bool false] from hK2.rd).set_ 2 (.bool true); simpa using this
    have hK3 := hK2.read hC23 hR3
    have hc3 := hc2.chgR hs2 hC23
    have hs3 := hC23.size
    have HW3 := Lib.hid hW3
    clear hW3 hR3
    go_upto_region 4 with fail
    rw [← HW3.out]
    clear d0 q0 q1 q2 fr2
    have d0 : W3.cell? ⟨go, 0, none⟩ = some (.int .i64 (C - 1)) := hK3.v.cell 0
    obtain ⟨e0, e1, e2, e3, e4⟩ : W3.cell? ⟨go, 0, none⟩ = some (.int .i64 (C - 1)) ∧ W3.cell? ⟨go, 1, none⟩ = some (.int .i64 (0)) ∧ W3.cell? ⟨go, 2, none⟩ = some (.string ⟨#[]⟩) ∧ W3.cell? ⟨go, 3, none⟩ = some (.slice none 0 0) ∧ W3.cell? ⟨go, 4, none⟩ = some (.slice none 0 0) := ⟨hK3.v.cell 0, hK3.v.cell 1, hK3.v.cell 2, hK3.v.cell 3, hK3.v.cell 4⟩
    obtain ⟨x0, x1, x2, x3, x4⟩ : W3.cell? ⟨gr, 0, none⟩ = some (.int .i64 0) ∧ W3.cell? ⟨gr, 1, none⟩ = some (.int .i64 0) ∧ W3.cell? ⟨gr, 2, none⟩ = some (.string ⟨#[]⟩) ∧ W3.cell? ⟨gr, 3, none⟩ = some (.slice none 0 0) ∧ W3.cell? ⟨gr, 4, none⟩ = some (.slice none 0 0) := ⟨hK3.res.cell 0, hK3.res.cell 1, hK3.res.cell 2, hK3.res.cell 3, hK3.res.cell 4⟩
    obtain ⟨y0, y1, y2, y3, y4⟩ : W3.frozen? ⟨gr, 0, none⟩ = false ∧ W3.frozen? ⟨gr, 1, none⟩ = false ∧ W3.frozen? ⟨gr, 2, none⟩ = false ∧ W3.frozen? ⟨gr, 3, none⟩ = false ∧ W3.frozen? ⟨gr, 4, none⟩ = false := ⟨hK3.res.free 0, hK3.res.free 1, hK3.res.free 2, hK3.res.free 3, hK3.res.free 4⟩
    obtain ⟨W9, hW9⟩ : ∃ W9, W9 = (((((W3.setCell ⟨gr, 0, none⟩ (.int .i64 (C - 1))).setCell ⟨gr, 1, none⟩ (.int .i64 (0))).setCell ⟨gr, 2, none⟩ (.string ⟨#[]⟩)).setCell ⟨gr, 3, none⟩ (.slice none 0 0)).setCell ⟨gr, 4, none⟩ (.slice none 0 0)) := ⟨_, rfl⟩
    have hC9 : Chg W3 W9 (fun k => k = gr) := by rw [hW9]; exact chg_five W3 gr (.int .i64 (C - 1)) (.int .i64 (0)) (.string ⟨#[]⟩) (.slice none 0 0) (.slice none 0 0)
    have hZ9 : Blk W9 gr 25 #[.int .i64 (C - 1), .int .i64 (0), .string ⟨#[]⟩, .slice none 0 0, .slice none 0 0] := by rw [hW9]; exact hK3.res.five (.int .i64 (C - 1)) (.int .i64 (0)) (.string ⟨#[]⟩) (.slice none 0 0) (.slice none 0 0)
    obtain ⟨j0, j1, j2, j3, j4⟩ : W9.cell? ⟨gr, 0, none⟩ = some (.int .i64 (C - 1)) ∧ W9.cell? ⟨gr, 1, none⟩ = some (.int .i64 (0)) ∧ W9.cell? ⟨gr, 2, none⟩ = some (.string ⟨#[]⟩) ∧ W9.cell? ⟨gr, 3, none⟩ = some (.slice none 0 0) ∧ W9.cell? ⟨gr, 4, none⟩ = some (.slice none 0 0) := ⟨hZ9.cell 0, hZ9.cell 1, hZ9.cell 2, hZ9.cell 3, hZ9.cell 4⟩
    have hD := KvS.done (k := (C - 1)) (n := (0)) (s := ⟨#[]⟩) (An := none) (ns := []) (cn := 0) (Ai := none) (is := []) (ci := 0) hK3 hC9 (by omega) (by omega) (by decide) (by simp)
    have HD := Lib.hid hD
    have HW9 := Lib.hid hW9
    clear hW9 hD
    go_wp2
    rw [← HW9.out]
    exact bodyPost_ret (v := .agg #[.int .i64 (C - 1), .int .i64 (0), .string ⟨#[]⟩, .slice none 0 0, .slice none 0 0]) (by simp [results, Tryd.results47, go_sem, j0, j1, j2, j3, j4]) rfl ⟨LV.mk (C - 1) (0) ⟨#[]⟩ none [] 0 none [] 0, p + 1, true, rfl, HD.out.1, HD.out.2.1, HD.out.2.2.1, HD.out.2.2.2, by omega, HV.out _⟩
  · have hlI : ((left : Int) == 0) = false := by rw [beq_eq_false_iff_ne]; omega
    have HL0 := Lib.hid h0
    clear h0
    have fr2 : W2.frozen? ⟨r, 2, none⟩ = false := Blk.free hK2.rd 2
    obtain ⟨q0, q1, q2⟩ : W2.cell? ⟨r, 0, none⟩ = some (.slice A b.length c) ∧ W2.cell? ⟨r, 1, none⟩ = some (.int .i64 ((p + 1) : Nat)) ∧ W2.cell? ⟨r, 2, none⟩ = some (.bool false) := ⟨Blk.cell hK2.rd 0, Blk.cell hK2.rd 1, Blk.cell hK2.rd 2⟩
    obtain ⟨W3, hW3⟩ : ∃ W3, W3 = W2.setCell ⟨r, 2, none⟩ (.bool true) := ⟨_, rfl⟩
    have hC23 : Chg W2 W3 (fun k => k = r) := by rw [hW3]; exact Chg.setCell W2 ⟨r, 2, none⟩ _
    have hR3 : RdAt W3 r A c b ((p + 1)) true := by unfold RdAt; rw [hW3]; have := (show Blk W2 r 54 #[.slice A b.length c, .int .i64 ((p + 1) : Nat), .bool false] from hK2.rd).set_ 2 (.bool true); simpa using this
    have hK3 := hK2.read hC23 hR3
    have hc3 := hc2.chgR hs2 hC23
    have hs3 := hC23.size
    have HW3 := Lib.hid hW3
    clear hW3 hR3
    go_upto_region 4 with fail
    rw [← HW3.out]
    clear d0 q0 q1 q2 fr2
    have d0 : W3.cell? ⟨go, 0, none⟩ = some (.int .i64 (C - 1)) := hK3.v.cell 0
    obtain ⟨e0, e1, e2, e3, e4⟩ : W3.cell? ⟨go, 0, none⟩ = some (.int .i64 (C - 1)) ∧ W3.cell? ⟨go, 1, none⟩ = some (.int .i64 (0)) ∧ W3.cell? ⟨go, 2, none⟩ = some (.string ⟨#[]⟩) ∧ W3.cell? ⟨go, 3, none⟩ = some (.slice none 0 0) ∧ W3.cell? ⟨go, 4, none⟩ = some (.slice none 0 0) := ⟨hK3.v.cell 0, hK3.v.cell 1, hK3.v.cell 2, hK3.v.cell 3, hK3.v.cell 4⟩
    obtain ⟨x0, x1, x2, x3, x4⟩ : W3.cell? ⟨gr, 0, none⟩ = some (.int .i64 0) ∧ W3.cell? ⟨gr, 1, none⟩ = some (.int .i64 0) ∧ W3.cell? ⟨gr, 2, none⟩ = some (.string ⟨#[]⟩) ∧ W3.cell? ⟨gr, 3, none⟩ = some (.slice none 0 0) ∧ W3.cell? ⟨gr, 4, none⟩ = some (.slice none 0 0) := ⟨hK3.res.cell 0, hK3.res.cell 1, hK3.res.cell 2, hK3.res.cell 3, hK3.res.cell 4⟩
    obtain ⟨y0, y1, y2, y3, y4⟩ : W3.frozen? ⟨gr, 0, none⟩ = false ∧ W3.frozen? ⟨gr, 1, none⟩ = false ∧ W3.frozen? ⟨gr, 2, none⟩ = false ∧ W3.frozen? ⟨gr, 3, none⟩ = false ∧ W3.frozen? ⟨gr, 4, none⟩ = false := ⟨hK3.res.free 0, hK3.res.free 1, hK3.res.free 2, hK3.res.free 3, hK3.res.free 4⟩
    obtain ⟨W9, hW9⟩ : ∃ W9, W9 = (((((W3.setCell ⟨gr, 0, none⟩ (.int .i64 (C - 1))).setCell ⟨gr, 1, none⟩ (.int .i64 (0))).setCell ⟨gr, 2, none⟩ (.string ⟨#[]⟩)).setCell ⟨gr, 3, none⟩ (.slice none 0 0)).setCell ⟨gr, 4, none⟩ (.slice none 0 0)) := ⟨_, rfl⟩
    have hC9 : Chg W3 W9 (fun k => k = gr) := by rw [hW9]; exact chg_five W3 gr (.int .i64 (C - 1)) (.int .i64 (0)) (.string ⟨#[]⟩) (.slice none 0 0) (.slice none 0 0)
    have hZ9 : Blk W9 gr 25 #[.int .i64 (C - 1), .int .i64 (0), .string ⟨#[]⟩, .slice none 0 0, .slice none 0 0] := by rw [hW9]; exact hK3.res.five (.int .i64 (C - 1)) (.int .i64 (0)) (.string ⟨#[]⟩) (.slice none 0 0) (.slice none 0 0)
    obtain ⟨j0, j1, j2, j3, j4⟩ : W9.cell? ⟨gr, 0, none⟩ = some (.int .i64 (C - 1)) ∧ W9.cell? ⟨gr, 1, none⟩ = some (.int .i64 (0)) ∧ W9.cell? ⟨gr, 2, none⟩ = some (.string ⟨#[]⟩) ∧ W9.cell? ⟨gr, 3, none⟩ = some (.slice none 0 0) ∧ W9.cell? ⟨gr, 4, none⟩ = some (.slice none 0 0) := ⟨hZ9.cell 0, hZ9.cell 1, hZ9.cell 2, hZ9.cell 3, hZ9.cell 4⟩
    have hD := KvS.done (k := (C - 1)) (n := (0)) (s := ⟨#[]⟩) (An := none) (ns := []) (cn := 0) (Ai := none) (is := []) (ci := 0) hK3 hC9 (by omega) (by omega) (by decide) (by simp)
    have HD := Lib.hid hD
    have HW9 := Lib.hid hW9
    clear hW9 hD
    go_wp2
    rw [← HW9.out]
    exact bodyPost_ret (v := .agg #[.int .i64 (C - 1), .int .i64 (0), .string ⟨#[]⟩, .slice none 0 0, .slice none 0 0]) (by simp [results, Tryd.results47, go_sem, j0, j1, j2, j3, j4]) rfl ⟨LV.mk (C - 1) (0) ⟨#[]⟩ none [] 0 none [] 0, p + 1, true, rfl, HD.out.1, HD.out.2.1, HD.out.2.2.1, HD.out.2.2.2, by omega, HV.out _⟩

set_option maxHeartbeats 8000000 in
theorem value_str (r : Nat) (A : Option Addr) (c : Nat) (b : List Int) (p left : Nat) (w : World) (hR : RdAt w r A c b p false) (hc : Cells w r A (U8 b)) (hp : p < b.length) (hl : b.length ≤ 10000000000000) (hleft : left ≤ 100) (hx : b[p] = 5) : Calls Tryd.prog 47 #[.pointer (some ⟨r, 0, none⟩), .int .i64 left] w (ValRes w r A c b left p) := by
  have hrl : r < w.heap.size := Blk.lt hR
  obtain ⟨gr, hgr⟩ : ∃ g, w.heap.size = g := ⟨_, rfl⟩
  obtain ⟨W, hW⟩ : ∃ W, W = w.alloc (.cells zeroBlk 25) := ⟨_, rfl⟩
  have hZ : Blk W gr 25 zeroBlk := by rw [hW, ← hgr]; exact Blk.new w _ _
  have hCW : Chg w W (fun k => k = r) := by rw [hW]; exact Chg.alloc w _ _
  have hRW : RdAt W r A c b p false := by rw [hW]; exact Blk.alloc hR _
  have hcW : Cells W r A (U8 b) := hc.chgR hrl hCW
  have hWs : gr < W.heap.size := by rw [hW, World.size_alloc]; omega
  have HC1 := Lib.hid (next_lt r A c b p false W 5 hRW hcW hp hl hx)
  have HW := Lib.hid hW
  have HGR := Lib.hid hgr
  clear hW hR hc hRW
  go_enter Tryd.func47, Tryd.ntmps47
  go_upto_region 1 with fail
  first | rw [← HW.out, hgr] | rw [← HW.out]
  go_wp2_with fail
  refine HC1.out.mono ?_
  rintro e w1 ⟨rfl, hR1, hC1⟩
  have hC01 := hCW.thenC hC1
  have hs1 := hC1.size
  have hc1 := hcW.chgR (by omega) hC1
  obtain ⟨go, hgo⟩ : ∃ g, w1.heap.size = g := ⟨_, rfl⟩
  obtain ⟨W2, hW2⟩ : ∃ W2, W2 = w1.alloc (.cells #[.int .i64 (4), .int .i64 0, .string ⟨#[]⟩, .slice none 0 0, .slice none 0 0] 25) := ⟨_, rfl⟩
  have hK2 : KvS w W2 gr r go A c b (p + 1) false (4) 0 ⟨#[]⟩ (.slice none 0 0) (.slice none 0 0) [] [] := by rw [hW2]; exact KvS.fresh (Blk.alloc hR1 _) hrl ((hZ.chg hC1 (by omega)).alloc _) (by omega) (hC01.thenC (Chg.alloc w1 _ _)) (by rw [← hgo]; exact Blk.new w1 _ _) (by omega)
  have hc2 : Cells W2 r A (U8 b) := by rw [hW2]; exact hc1.alloc (by omega) _
  have HW2 := Lib.hid hW2
  have HGO := Lib.hid hgo
  have hs2 : r < W2.heap.size := by rw [hW2, World.size_alloc]; omega
  clear hW2 hZ hR1 HC1 hcW
  go_upto_region 2 with fail
  first | rw [← HW2.out, hgo] | rw [← HW2.out]
  clear hgo hgr
  have d0 : W2.cell? ⟨go, 0, none⟩ = some (.int .i64 (4)) := hK2.v.cell 0
  by_cases h0 : left = 0
  · have hlI : ((left : Int) == 0) = true := by rw [beq_iff_eq]; omega
    have HL0 := Lib.hid h0
    clear h0
    have fr2 : W2.frozen? ⟨r, 2, none⟩ = false := Blk.free hK2.rd 2
    obtain ⟨q0, q1, q2⟩ : W2.cell? ⟨r, 0, none⟩ = some (.slice A b.length c) ∧ W2.cell? ⟨r, 1, none⟩ = some (.int .i64 ((p + 1) : Nat)) ∧ W2.cell? ⟨r, 2, none⟩ = some (.bool false) := ⟨Blk.cell hK2.rd 0, Blk.cell hK2.rd 1, Blk.cell hK2.rd 2⟩
    obtain ⟨W3, hW3⟩ : ∃ W3, W3 = W2.setCell ⟨r, 2, none⟩ (.bool true) := ⟨_, rfl⟩
    have hC23 : Chg W2 W3 (fun k => k = r) := by rw [hW3]; exact Chg.setCell W2 ⟨r, 2, none⟩ _
    have hR3 : RdAt W3 r A c b ((p + 1)) true := by unfold RdAt; rw [hW3]; have := (show Blk W2 r 54 #[.slice A b.length c, .int .i64 ((p + 1) : Nat), .bool false] from hK2.rd).set_ 2 (.bool true); simpa using this
    have hK3 := hK2.read hC23 hR3
    have hc3 := hc2.chgR hs2 hC23
    have hs3 := hC23.size
    have HW3 := Lib.hid hW3
    clear hW3 hR3
    go_upto_region 4 with fail
    rw [← HW3.out]
    clear d0 q0 q1 q2 fr2
    have d0 : W3.cell? ⟨go, 0, none⟩ = some (.int .i64 (4)) := hK3.v.cell 0
    have HT := Lib.hid (text_read r A c b (p + 1) true W3 hK3.rd hc3 (by omega) hl)
    go_wp2_with fail
    refine HT.out.mono ?_
    rintro e w4 ⟨s, p', no', rfl, hti, hR4, hC4⟩
    have hK4 := hK3.read hC4 hR4
    have hK5 := hK4.txt s
    have HTI := Lib.hid hti
    have hss : s.size ≤ 9223372036854775807 := by have := hti.2.1; omega
    have hpp := hti.1
    clear hti HT
    obtain ⟨w5, hw5⟩ : ∃ w5, w5 = w4.setCell ⟨go, 2, none⟩ (.string s) := ⟨_, rfl⟩
    rw [← hw5] at hK5
    have HW5 := Lib.hid hw5
    clear hw5
    have g0 : w4.cell? ⟨go, 0, none⟩ = some (.int .i64 4) := hK4.v.cell 0
    have g2 : w4.cell? ⟨go, 2, none⟩ = some (.string ⟨#[]⟩) := hK4.v.cell 2
    have g2' := hK4.v.free 2
    go_upto_region 26 with fail
    rw [← HW5.out]
    clear g0 g2 g2'
    have HV : Hid (ValIs b left p p' no' (LV.mk (4) (0) s none [] 0 none [] 0).j) := Lib.hid (by
      rw [leaf_j]
      cases no' with
      | true => rw [HL0.out]; exact ValIs.no0
      | false => have := HTI.out.2.2.1 rfl; cases this)
    obtain ⟨e0, e1, e2, e3, e4⟩ : w5.cell? ⟨go, 0, none⟩ = some (.int .i64 (4)) ∧ w5.cell? ⟨go, 1, none⟩ = some (.int .i64 (0)) ∧ w5.cell? ⟨go, 2, none⟩ = some (.string s) ∧ w5.cell? ⟨go, 3, none⟩ = some (.slice none 0 0) ∧ w5.cell? ⟨go, 4, none⟩ = some (.slice none 0 0) := ⟨hK5.v.cell 0, hK5.v.cell 1, hK5.v.cell 2, hK5.v.cell 3, hK5.v.cell 4⟩
    obtain ⟨x0, x1, x2, x3, x4⟩ : w5.cell? ⟨gr, 0, none⟩ = some (.int .i64 0) ∧ w5.cell? ⟨gr, 1, none⟩ = some (.int .i64 0) ∧ w5.cell? ⟨gr, 2, none⟩ = some (.string ⟨#[]⟩) ∧ w5.cell? ⟨gr, 3, none⟩ = some (.slice none 0 0) ∧ w5.cell? ⟨gr, 4, none⟩ = some (.slice none 0 0) := ⟨hK5.res.cell 0, hK5.res.cell 1, hK5.res.cell 2, hK5.res.cell 3, hK5.res.cell 4⟩
    obtain ⟨y0, y1, y2, y3, y4⟩ : w5.frozen? ⟨gr, 0, none⟩ = false ∧ w5.frozen? ⟨gr, 1, none⟩ = false ∧ w5.frozen? ⟨gr, 2, none⟩ = false ∧ w5.frozen? ⟨gr, 3, none⟩ = false ∧ w5.frozen? ⟨gr, 4, none⟩ = false := ⟨hK5.res.free 0, hK5.res.free 1, hK5.res.free 2, hK5.res.free 3, hK5.res.free 4⟩
    obtain ⟨W9, hW9⟩ : ∃ W9, W9 = (((((w5.setCell ⟨gr, 0, none⟩ (.int .i64 (4))).setCell ⟨gr, 1, none⟩ (.int .i64 (0))).setCell ⟨gr, 2, none⟩ (.string s)).setCell ⟨gr, 3, none⟩ (.slice none 0 0)).setCell ⟨gr, 4, none⟩ (.slice none 0 0)) := ⟨_, rfl⟩
    have hC9 : Chg w5 W9 (fun k => k = gr) := by rw [hW9]; exact chg_five w5 gr (.int .i64 (4)) (.int .i64 (0)) (.string s) (.slice none 0 0) (.slice none 0 0)
    have hZ9 : Blk W9 gr 25 #[.int .i64 (4), .int .i64 (0), .string s, .slice none 0 0, .slice none 0 0] := by rw [hW9]; exact hK5.res.five (.int .i64 (4)) (.int .i64 (0)) (.string s) (.slice none 0 0) (.slice none 0 0)
    obtain ⟨j0, j1, j2, j3, j4⟩ : W9.cell? ⟨gr, 0, none⟩ = some (.int .i64 (4)) ∧ W9.cell? ⟨gr, 1, none⟩ = some (.int .i64 (0)) ∧ W9.cell? ⟨gr, 2, none⟩ = some (.string s) ∧ W9.cell? ⟨gr, 3, none⟩ = some (.slice none 0 0) ∧ W9.cell? ⟨gr, 4, none⟩ = some (.slice none 0 0) := ⟨hZ9.cell 0, hZ9.cell 1, hZ9.cell 2, hZ9.cell 3, hZ9.cell 4⟩
    have hD := KvS.done (k := (4)) (n := (0)) (s := s) (An := none) (ns := []) (cn := 0) (Ai := none) (is := []) (ci := 0) hK5 hC9 (by omega) (by omega) hss (by simp)
    have HD := Lib.hid hD
    have HW9 := Lib.hid hW9
    clear hW9 hD
    go_wp2
    rw [← HW9.out]
    exact bodyPost_ret (v := .agg #[.int .i64 (4), .int .i64 (0), .string s, .slice none 0 0, .slice none 0 0]) (by simp [results, Tryd.results47, go_sem, j0, j1, j2, j3, j4]) rfl ⟨LV.mk (4) (0) s none [] 0 none [] 0, p', no', rfl, HD.out.1, HD.out.2.1, HD.out.2.2.1, HD.out.2.2.2, hpp, HV.out⟩
  · have hlI : ((left : Int) == 0) = false := by rw [beq_eq_false_iff_ne]; omega
    have HL0 := Lib.hid h0
    clear h0
    have HT := Lib.hid (text_read r A c b (p + 1) false W2 hK2.rd hc2 (by omega) hl)
    go_upto_region 4 with fail
    go_wp2_with fail
    refine HT.out.mono ?_
    rintro e w4 ⟨s, p', no', rfl, hti, hR4, hC4⟩
    have hK4 := hK2.read hC4 hR4
    have hK5 := hK4.txt s
    have HTI := Lib.hid hti
    have hss : s.size ≤ 9223372036854775807 := by have := hti.2.1; omega
    have hpp := hti.1
    clear hti HT
    obtain ⟨w5, hw5⟩ : ∃ w5, w5 = w4.setCell ⟨go, 2, none⟩ (.string s) := ⟨_, rfl⟩
    rw [← hw5] at hK5
    have HW5 := Lib.hid hw5
    clear hw5
    have g0 : w4.cell? ⟨go, 0, none⟩ = some (.int .i64 4) := hK4.v.cell 0
    have g2 : w4.cell? ⟨go, 2, none⟩ = some (.string ⟨#[]⟩) := hK4.v.cell 2
    have g2' := hK4.v.free 2
    go_upto_region 26 with fail
    rw [← HW5.out]
    clear g0 g2 g2'
    have HV : Hid (ValIs b left p p' no' (LV.mk (4) (0) s none [] 0 none [] 0).j) := Lib.hid (by
      rw [leaf_j]
      obtain ⟨l, rfl⟩ : ∃ l, left = l + 1 := ⟨left - 1, by have := HL0.out; omega⟩
      cases no' with
      | true => exact ValIs.no (by rw [drop_at hp hx, valG_str, HTI.out.2.2.2.2 rfl rfl])
      | false =>
        obtain ⟨x, h1, h2⟩ := HTI.out.2.2.2.1 rfl rfl
        exact ValIs.yes (by rw [drop_at hp hx, valG_str, h1, h2]))
    obtain ⟨e0, e1, e2, e3, e4⟩ : w5.cell? ⟨go, 0, none⟩ = some (.int .i64 (4)) ∧ w5.cell? ⟨go, 1, none⟩ = some (.int .i64 (0)) ∧ w5.cell? ⟨go, 2, none⟩ = some (.string s) ∧ w5.cell? ⟨go, 3, none⟩ = some (.slice none 0 0) ∧ w5.cell? ⟨go, 4, none⟩ = some (.slice none 0 0) := ⟨hK5.v.cell 0, hK5.v.cell 1, hK5.v.cell 2, hK5.v.cell 3, hK5.v.cell 4⟩
    obtain ⟨x0, x1, x2, x3, x4⟩ : w5.cell? ⟨gr, 0, none⟩ = some (.int .i64 0) ∧ w5.cell? ⟨gr, 1, none⟩ = some (.int .i64 0) ∧ w5.cell? ⟨gr, 2, none⟩ = some (.string ⟨#[]⟩) ∧ w5.cell? ⟨gr, 3, none⟩ = some (.slice none 0 0) ∧ w5.cell? ⟨gr, 4, none⟩ = some (.slice none 0 0) := ⟨hK5.res.cell 0, hK5.res.cell 1, hK5.res.cell 2, hK5.res.cell 3, hK5.res.cell 4⟩
    obtain ⟨y0, y1, y2, y3, y4⟩ : w5.frozen? ⟨gr, 0, none⟩ = false ∧ w5.frozen? ⟨gr, 1, none⟩ = false ∧ w5.frozen? ⟨gr, 2, none⟩ = false ∧ w5.frozen? ⟨gr, 3, none⟩ = false ∧ w5.frozen? ⟨gr, 4, none⟩ = false := ⟨hK5.res.free 0, hK5.res.free 1, hK5.res.free 2, hK5.res.free 3, hK5.res.free 4⟩
    obtain ⟨W9, hW9⟩ : ∃ W9, W9 = (((((w5.setCell ⟨gr, 0, none⟩ (.int .i64 (4))).setCell ⟨gr, 1, none⟩ (.int .i64 (0))).setCell ⟨gr, 2, none⟩ (.string s)).setCell ⟨gr, 3, none⟩ (.slice none 0 0)).setCell ⟨gr, 4, none⟩ (.slice none 0 0)) := ⟨_, rfl⟩
    have hC9 : Chg w5 W9 (fun k => k = gr) := by rw [hW9]; exact chg_five w5 gr (.int .i64 (4)) (.int .i64 (0)) (.string s) (.slice none 0 0) (.slice none 0 0)
    have hZ9 : Blk W9 gr 25 #[.int .i64 (4), .int .i64 (0), .string s, .slice none 0 0, .slice none 0 0] := by rw [hW9]; exact hK5.res.five (.int .i64 (4)) (.int .i64 (0)) (.string s) (.slice none 0 0) (.slice none 0 0)
    obtain ⟨j0, j1, j2, j3, j4⟩ : W9.cell? ⟨gr, 0, none⟩ = some (.int .i64 (4)) ∧ W9.cell? ⟨gr, 1, none⟩ = some (.int .i64 (0)) ∧ W9.cell? ⟨gr, 2, none⟩ = some (.string s) ∧ W9.cell? ⟨gr, 3, none⟩ = some (.slice none 0 0) ∧ W9.cell? ⟨gr, 4, none⟩ = some (.slice none 0 0) := ⟨hZ9.cell 0, hZ9.cell 1, hZ9.cell 2, hZ9.cell 3, hZ9.cell 4⟩
    have hD := KvS.done (k := (4)) (n := (0)) (s := s) (An := none) (ns := []) (cn := 0) (Ai := none) (is := []) (ci := 0) hK5 hC9 (by omega) (by omega) hss (by simp)
    have HD := Lib.hid hD
    have HW9 := Lib.hid hW9
    clear hW9 hD
    go_wp2
    rw [← HW9.out]
    exact bodyPost_ret (v := .agg #[.int .i64 (4), .int .i64 (0), .string s, .slice none 0 0, .slice none 0 0]) (by simp [results, Tryd.results47, go_sem, j0, j1, j2, j3, j4]) rfl ⟨LV.mk (4) (0) s none [] 0 none [] 0, p', no', rfl, HD.out.1, HD.out.2.1, HD.out.2.2.1, HD.out.2.2.2, hpp, HV.out⟩

set_option maxHeartbeats 8000000 in
theorem value_int (r : Nat) (A : Option Addr) (c : Nat) (b : List Int) (p left : Nat) (w : World) (hR : RdAt w r A c b p false) (hc : Cells w r A (U8 b)) (hp : p < b.length) (hl : b.length ≤ 10000000000000) (hleft : left ≤ 100) (hob : Oct b) (hx : b[p] = 4) : Calls Tryd.prog 47 #[.pointer (some ⟨r, 0, none⟩), .int .i64 left] w (ValRes w r A c b left p) := by
  have hrl : r < w.heap.size := Blk.lt hR
  obtain ⟨gr, hgr⟩ : ∃ g, w.heap.size = g := ⟨_, rfl⟩
  obtain ⟨W, hW⟩ : ∃ W, W = w.alloc (.cells zeroBlk 25) := ⟨_, rfl⟩
  have hZ : Blk W gr 25 zeroBlk := by rw [hW, ← hgr]; exact Blk.new w _ _
  have hCW : Chg w W (fun k => k = r) := by rw [hW]; exact Chg.alloc w _ _
  have hRW : RdAt W r A c b p false := by rw [hW]; exact Blk.alloc hR _
  have hcW : Cells W r A (U8 b) := hc.chgR hrl hCW
  have hWs : gr < W.heap.size := by rw [hW, World.size_alloc]; omega
  have HC1 := Lib.hid (next_lt r A c b p false W 4 hRW hcW hp hl hx)
  have HW := Lib.hid hW
  have HGR := Lib.hid hgr
  clear hW hR hc hRW
  go_enter Tryd.func47, Tryd.ntmps47
  go_upto_region 1 with fail
  first | rw [← HW.out, hgr] | rw [← HW.out]
  go_wp2_with fail
  refine HC1.out.mono ?_
  rintro e w1 ⟨rfl, hR1, hC1⟩
  have hC01 := hCW.thenC hC1
  have hs1 := hC1.size
  have hc1 := hcW.chgR (by omega) hC1
  obtain ⟨go, hgo⟩ : ∃ g, w1.heap.size = g := ⟨_, rfl⟩
  obtain ⟨W2, hW2⟩ : ∃ W2, W2 = w1.alloc (.cells #[.int .i64 (3), .int .i64 0, .string ⟨#[]⟩, .slice none 0 0, .slice none 0 0] 25) := ⟨_, rfl⟩
  have hK2 : KvS w W2 gr r go A c b (p + 1) false (3) 0 ⟨#[]⟩ (.slice none 0 0) (.slice none 0 0) [] [] := by rw [hW2]; exact KvS.fresh (Blk.alloc hR1 _) hrl ((hZ.chg hC1 (by omega)).alloc _) (by omega) (hC01.thenC (Chg.alloc w1 _ _)) (by rw [← hgo]; exact Blk.new w1 _ _) (by omega)
  have hc2 : Cells W2 r A (U8 b) := by rw [hW2]; exact hc1.alloc (by omega) _
  have HW2 := Lib.hid hW2
  have HGO := Lib.hid hgo
  have hs2 : r < W2.heap.size := by rw [hW2, World.size_alloc]; omega
  clear hW2 hZ hR1 HC1 hcW
  go_upto_region 2 with fail
  first | rw [← HW2.out, hgo] | rw [← HW2.out]
  clear hgo hgr
  have d0 : W2.cell? ⟨go, 0, none⟩ = some (.int .i64 (3)) := hK2.v.cell 0
  by_cases h0 : left = 0
  · have hlI : ((left : Int) == 0) = true := by rw [beq_iff_eq]; omega
    have HL0 := Lib.hid h0
    clear h0
    have fr2 : W2.frozen? ⟨r, 2, none⟩ = false := Blk.free hK2.rd 2
    obtain ⟨q0, q1, q2⟩ : W2.cell? ⟨r, 0, none⟩ = some (.slice A b.length c) ∧ W2.cell? ⟨r, 1, none⟩ = some (.int .i64 ((p + 1) : Nat)) ∧ W2.cell? ⟨r, 2, none⟩ = some (.bool false) := ⟨Blk.cell hK2.rd 0, Blk.cell hK2.rd 1, Blk.cell hK2.rd 2⟩
    obtain ⟨W3, hW3⟩ : ∃ W3, W3 = W2.setCell ⟨r, 2, none⟩ (.bool true) := ⟨_, rfl⟩
    have hC23 : Chg W2 W3 (fun k => k = r) := by rw [hW3]; exact Chg.setCell W2 ⟨r, 2, none⟩ _
    have hR3 : RdAt W3 r A c b ((p + 1)) true := by unfold RdAt; rw [hW3]; have := (show Blk W2 r 54 #[.slice A b.length c, .int .i64 ((p + 1) : Nat), .bool false] from hK2.rd).set_ 2 (.bool true); simpa using this
    have hK3 := hK2.read hC23 hR3
    have hc3 := hc2.chgR hs2 hC23
    have hs3 := hC23.size
    have HW3 := Lib.hid hW3
    clear hW3 hR3
    go_upto_region 4 with fail
    rw [← HW3.out]
    clear d0 q0 q1 q2 fr2
    have d0 : W3.cell? ⟨go, 0, none⟩ = some (.int .i64 (3)) := hK3.v.cell 0
    obtain ⟨gn, hgn⟩ : ∃ g, W3.heap.size = g := ⟨_, rfl⟩
    obtain ⟨w4, hw4⟩ : ∃ w4, w4 = W3.alloc (.cells #[.int .u8 0, .int .u8 0, .int .u8 0, .int .u8 0, .int .u8 0, .int .u8 0, .int .u8 0, .int .u8 0] 81) := ⟨_, rfl⟩
    have hN4 : Blk w4 gn 81 (U8 [0, 0, 0, 0, 0, 0, 0, 0]).toArray := by rw [hw4, ← hgn]; exact Blk.new W3 _ _
    have hv4 : Blk w4 go 25 #[.int .i64 3, .int .i64 0, .string ⟨#[]⟩, .slice none 0 0, .slice none 0 0] := by rw [hw4]; exact hK3.v.alloc _
    have hz4 : Blk w4 gr 25 zeroBlk := by rw [hw4]; exact hK3.res.alloc _
    have hR4 : RdAt w4 r A c b (p + 1) true := by rw [hw4]; exact Blk.alloc hK3.rd _
    have hC4 : Chg w w4 (fun k => k = r) := by rw [hw4]; exact hK3.chg.thenC (Chg.alloc W3 _ _)
    have hcb4 : Cells w4 r A (U8 b) := by rw [hw4]; exact hc3.alloc (by omega) _
    have hgg : gr < go ∧ go < gn ∧ r < gr := by have := hK3.lo; have := hK3.glo; have := hK3.lt; omega
    obtain ⟨hg1, hg2, hg3⟩ := hgg
    have g0 : w4.cell? ⟨go, 0, none⟩ = some (.int .i64 3) := hv4.cell 0
    have HW4 := Lib.hid hw4
    clear hw4
    go_upto_region 7 with fail
    first | rw [← HW4.out, hgn] | rw [← HW4.out]
    have HGN := Lib.hid hgn
    clear hgn d0
    have hs4 : r < w4.heap.size := Blk.lt hR4
    go_wp2
    go_loopw [7, 33] (fun s7 i wr => ∃ (q : Nat) (p' : Nat) (no' : Bool) (l8 : List Int), i = .int .i64 q ∧ q ≤ 8 ∧ l8.length = 8 ∧ p' ≤ b.length ∧ RdAt wr r A c b p' no' ∧ Blk wr gn 81 (U8 l8).toArray ∧ Chg w4 wr (fun k => k = r ∨ k = gn) ∧ Hid (Oct l8 ∧ (p + 1 + q ≤ b.length → p' = p + 1 + q ∧ no' = true ∧ ∀ j, j < q → l8[j]? = b[p + 1 + j]?) ∧ (b.length < p + 1 + q → no' = true ∧ p' = b.length)))
      (fun _ i _ => 8 - (RowKit.intOf i).toNat)
    case atStart => exact ⟨0, p + 1, true, _, rfl, Nat.zero_le _, rfl, by omega, hR4, hN4, Chg.refl _ _, Lib.hid ⟨by intro x hx; simp at hx; omega, fun _ => ⟨rfl, rfl, fun j hj => by omega⟩, fun h => by omega⟩⟩
    case round =>
      obtain ⟨q, p', no', l8, rfl, hq, hl8, hp', hRr, hNr, hCr, HQ⟩ := hrel
      clear g0 hR4 hN4
      have hcr : Cells wr r A (U8 b) := hcb4.keep fun a ha => World.cell?_of_block (hCr.block a.block (by omega) (by omega))
      by_cases hlt : q < 8
      · have hqI : (q : Int) < 8 := by omega
        have hq0 : (0 : Int) ≤ (q : Int) := by omega
        have HC := Lib.hid (next_any r A c b p' no' wr hRr hcr hp' hl)
        have hq8 : q < l8.length := by omega
        have hxb : 0 ≤ byteAt b p' ∧ byteAt b p' ≤ 255 := by
          by_cases h : p' < b.length
          · rw [byteAt_lt h]; exact hob.at_ (List.getElem?_eq_getElem h)
          · rw [byteAt_ge (by omega)]; omega
        obtain ⟨x, hx'⟩ : ∃ x, byteAt b p' = x := ⟨_, rfl⟩
        rw [hx'] at HC hxb
        have HXX := Lib.hid hx'
        have HXB := Lib.hid hxb
        obtain ⟨p2, hp2⟩ : ∃ p2, stepP b p' = p2 := ⟨_, rfl⟩
        obtain ⟨n2, hn2⟩ : ∃ n2, stepN b p' no' = n2 := ⟨_, rfl⟩
        rw [hp2, hn2] at HC
        have HP2 := Lib.hid hp2
        have HN2 := Lib.hid hn2
        clear hx' hxb hp2 hn2
        go_wp2_with fail
        refine HC.out.mono ?_
        rintro e w5 ⟨rfl, hR5, hC5⟩
        have hN5 := hNr.chg hC5 (by omega)
        have u5 : w5.cell? ⟨gn, q, none⟩ = some (.int .u8 l8[q]) := by rw [hN5.cell q]; simp [List.getElem?_eq_getElem hq8]
        have u5' := hN5.free q
        generalize l8[q] = oldq at *
        have hN6 : Blk (w5.setCell ⟨gn, q, none⟩ (.int .u8 x)) gn 81 (U8 (l8.set q x)).toArray := by have := hN5.set_ q (.int .u8 x); simpa [List.map_set] using this
        have hR6 : RdAt (w5.setCell ⟨gn, q, none⟩ (.int .u8 x)) r A c b p2 n2 := Blk.far hR5 (by show r ≠ gn; omega) _
        have hC6 : Chg w4 (w5.setCell ⟨gn, q, none⟩ (.int .u8 x)) (fun k => k = r ∨ k = gn) := (hCr.trans hC5 fun i hi => .inl (.inl hi)).trans (Chg.setCell w5 ⟨gn, q, none⟩ _) fun i hi => .inl (.inr hi)
        clear HC
        go_wp2
        go_roundw
        case rel =>
          refine ⟨q + 1, p2, n2, l8.set q x, by go_num, by omega, by simpa using hl8, ?_, hR6, hN6, hC6, Lib.hid ⟨?_, ?_, ?_⟩⟩
          · rw [← HP2.out]; unfold stepP; split <;> omega
          · intro y hy
            rcases List.mem_or_eq_of_mem_set hy with h | h
            · exact HQ.out.1 y h
            · rw [h]; exact HXB.out
          · intro hle
            obtain ⟨e1, e2, e3⟩ := HQ.out.2.1 (by omega)
            have hlt' : p' < b.length := by omega
            refine ⟨by rw [← HP2.out, stepP, if_pos hlt']; omega, by rw [← HN2.out, stepN, if_pos hlt']; exact e2, fun j hj => ?_⟩
            by_cases hjq : j = q
            · subst hjq
              rw [List.getElem?_set_self (by omega), ← HXX.out, byteAt_lt hlt', ← e1, List.getElem?_eq_getElem hlt']
            · rw [List.getElem?_set_ne (by omega)]; exact e3 j (by omega)
          · intro hle
            by_cases hle2 : b.length < p + 1 + q
            · obtain ⟨e1, e2⟩ := HQ.out.2.2 hle2
              exact ⟨by rw [← HN2.out, stepN, if_neg (by omega)], by rw [← HP2.out, stepP, if_neg (by omega)]; exact e2⟩
            · obtain ⟨e1, e2, e3⟩ := HQ.out.2.1 (by omega)
              exact ⟨by rw [← HN2.out, stepN, if_neg (by omega)], by rw [← HP2.out, stepP, if_neg (by omega)]; omega⟩
        case measure => simp [RowKit.intOf]; omega
      · have hq8 : q = 8 := by omega
        subst hq8
        have hv5 := hv4.chg hCr (by omega)
        have hz5 := hz4.chg hCr (by omega)
        have hCw : Chg w wr (fun k => k = r) := ⟨hCr.os.trans hC4.os, hCr.tape.trans hC4.tape, hCr.output.trans hC4.output, Nat.le_trans hC4.size hCr.size, fun k hk hne => (hCr.block k (Nat.lt_of_lt_of_le hk hC4.size) (by have := HGR.out; omega)).trans (hC4.block k hk hne)⟩
        have hK5 : KvS w wr gr r go A c b p' no' 3 0 ⟨#[]⟩ (.slice none 0 0) (.slice none 0 0) [] [] := KvS.fresh hRr hrl hz5 (by have := HGR.out; omega) hCw hv5 hg1
        have hcn : Cells wr wr.heap.size (some ⟨gn, 0, none⟩) (U8 l8) := fun k u hu => ⟨gn, 0, rfl, hNr.lt, by rw [Nat.zero_add, hNr.cell k]; simpa using hu⟩
        have hnb := num_eight l8 HQ.out.1 hl8
        have HG := Lib.hid (get64_any gn 0 l8 8 8 wr hl8 hcn HQ.out.1 (by omega) (by omega) (by omega))
        have hxo := xor_back (num l8 0) hnb.1 hnb.2
        obtain ⟨M, hM⟩ : ∃ M, num l8 0 - 9223372036854775808 = M := ⟨_, rfl⟩
        rw [hM] at hxo
        have hMb : -9223372036854775808 ≤ M ∧ M ≤ 9223372036854775807 := by omega
        have HMB := Lib.hid hMb
        have HV : Hid (ValIs b left p p' no' (LV.mk (3) (M) ⟨#[]⟩ none [] 0 none [] 0).j) := Lib.hid (by
          rw [leaf_j]
          rw [HL0.out]
          have hn : no' = true := by
            by_cases hle : p + 1 + 8 ≤ b.length
            · exact (HQ.out.2.1 hle).2.1
            · exact (HQ.out.2.2 (by omega)).1
          rw [hn]; exact ValIs.no0)
        have HM := Lib.hid hM
        clear hM hMb hnb HQ
        generalize num l8 0 = NN at *
        have hK6 := hK5.num M
        obtain ⟨w6, hw6⟩ : ∃ w6, w6 = wr.setCell ⟨go, 1, none⟩ (.int .i64 M) := ⟨_, rfl⟩
        rw [← hw6] at hK6
        have HW6 := Lib.hid hw6
        clear hw6
        have g1 : wr.cell? ⟨go, 1, none⟩ = some (.int .i64 0) := hK5.v.cell 1
        have g1' := hK5.v.free 1
        go_wp2_with fail
        refine HG.out.mono ?_
        rintro e w7 ⟨rfl, rfl⟩
        go_upto_region 26 with fail
        rw [← HW6.out]
        clear g1 g1' HG
        obtain ⟨e0, e1, e2, e3, e4⟩ : w6.cell? ⟨go, 0, none⟩ = some (.int .i64 (3)) ∧ w6.cell? ⟨go, 1, none⟩ = some (.int .i64 (M)) ∧ w6.cell? ⟨go, 2, none⟩ = some (.string ⟨#[]⟩) ∧ w6.cell? ⟨go, 3, none⟩ = some (.slice none 0 0) ∧ w6.cell? ⟨go, 4, none⟩ = some (.slice none 0 0) := ⟨hK6.v.cell 0, hK6.v.cell 1, hK6.v.cell 2, hK6.v.cell 3, hK6.v.cell 4⟩
        obtain ⟨x0, x1, x2, x3, x4⟩ : w6.cell? ⟨gr, 0, none⟩ = some (.int .i64 0) ∧ w6.cell? ⟨gr, 1, none⟩ = some (.int .i64 0) ∧ w6.cell? ⟨gr, 2, none⟩ = some (.string ⟨#[]⟩) ∧ w6.cell? ⟨gr, 3, none⟩ = some (.slice none 0 0) ∧ w6.cell? ⟨gr, 4, none⟩ = some (.slice none 0 0) := ⟨hK6.res.cell 0, hK6.res.cell 1, hK6.res.cell 2, hK6.res.cell 3, hK6.res.cell 4⟩
        obtain ⟨y0, y1, y2, y3, y4⟩ : w6.frozen? ⟨gr, 0, none⟩ = false ∧ w6.frozen? ⟨gr, 1, none⟩ = false ∧ w6.frozen? ⟨gr, 2, none⟩ = false ∧ w6.frozen? ⟨gr, 3, none⟩ = false ∧ w6.frozen? ⟨gr, 4, none⟩ = false := ⟨hK6.res.free 0, hK6.res.free 1, hK6.res.free 2, hK6.res.free 3, hK6.res.free 4⟩
        obtain ⟨W9, hW9⟩ : ∃ W9, W9 = (((((w6.setCell ⟨gr, 0, none⟩ (.int .i64 (3))).setCell ⟨gr, 1, none⟩ (.int .i64 (M))).setCell ⟨gr, 2, none⟩ (.string ⟨#[]⟩)).setCell ⟨gr, 3, none⟩ (.slice none 0 0)).setCell ⟨gr, 4, none⟩ (.slice none 0 0)) := ⟨_, rfl⟩
        have hC9 : Chg w6 W9 (fun k => k = gr) := by rw [hW9]; exact chg_five w6 gr (.int .i64 (3)) (.int .i64 (M)) (.string ⟨#[]⟩) (.slice none 0 0) (.slice none 0 0)
        have hZ9 : Blk W9 gr 25 #[.int .i64 (3), .int .i64 (M), .string ⟨#[]⟩, .slice none 0 0, .slice none 0 0] := by rw [hW9]; exact hK6.res.five (.int .i64 (3)) (.int .i64 (M)) (.string ⟨#[]⟩) (.slice none 0 0) (.slice none 0 0)
        obtain ⟨j0, j1, j2, j3, j4⟩ : W9.cell? ⟨gr, 0, none⟩ = some (.int .i64 (3)) ∧ W9.cell? ⟨gr, 1, none⟩ = some (.int .i64 (M)) ∧ W9.cell? ⟨gr, 2, none⟩ = some (.string ⟨#[]⟩) ∧ W9.cell? ⟨gr, 3, none⟩ = some (.slice none 0 0) ∧ W9.cell? ⟨gr, 4, none⟩ = some (.slice none 0 0) := ⟨hZ9.cell 0, hZ9.cell 1, hZ9.cell 2, hZ9.cell 3, hZ9.cell 4⟩
        have hD := KvS.done (k := (3)) (n := (M)) (s := ⟨#[]⟩) (An := none) (ns := []) (cn := 0) (Ai := none) (is := []) (ci := 0) hK6 hC9 (by omega) HMB.out (by decide) (by simp)
        have HD := Lib.hid hD
        have HW9 := Lib.hid hW9
        clear hW9 hD
        go_wp2
        rw [← HW9.out]
        exact bodyPost_ret (v := .agg #[.int .i64 (3), .int .i64 (M), .string ⟨#[]⟩, .slice none 0 0, .slice none 0 0]) (by simp [results, Tryd.results47, go_sem, j0, j1, j2, j3, j4]) rfl ⟨LV.mk (3) (M) ⟨#[]⟩ none [] 0 none [] 0, p', no', rfl, HD.out.1, HD.out.2.1, HD.out.2.2.1, HD.out.2.2.2, hp', HV.out⟩
  · have hlI : ((left : Int) == 0) = false := by rw [beq_eq_false_iff_ne]; omega
    have HL0 := Lib.hid h0
    clear h0
    go_upto_region 4 with fail
    obtain ⟨gn, hgn⟩ : ∃ g, W2.heap.size = g := ⟨_, rfl⟩
    obtain ⟨w4, hw4⟩ : ∃ w4, w4 = W2.alloc (.cells #[.int .u8 0, .int .u8 0, .int .u8 0, .int .u8 0, .int .u8 0, .int .u8 0, .int .u8 0, .int .u8 0] 81) := ⟨_, rfl⟩
    have hN4 : Blk w4 gn 81 (U8 [0, 0, 0, 0, 0, 0, 0, 0]).toArray := by rw [hw4, ← hgn]; exact Blk.new W2 _ _
    have hv4 : Blk w4 go 25 #[.int .i64 3, .int .i64 0, .string ⟨#[]⟩, .slice none 0 0, .slice none 0 0] := by rw [hw4]; exact hK2.v.alloc _
    have hz4 : Blk w4 gr 25 zeroBlk := by rw [hw4]; exact hK2.res.alloc _
    have hR4 : RdAt w4 r A c b (p + 1) false := by rw [hw4]; exact Blk.alloc hK2.rd _
    have hC4 : Chg w w4 (fun k => k = r) := by rw [hw4]; exact hK2.chg.thenC (Chg.alloc W2 _ _)
    have hcb4 : Cells w4 r A (U8 b) := by rw [hw4]; exact hc2.alloc (by omega) _
    have hgg : gr < go ∧ go < gn ∧ r < gr := by have := hK2.lo; have := hK2.glo; have := hK2.lt; omega
    obtain ⟨hg1, hg2, hg3⟩ := hgg
    have g0 : w4.cell? ⟨go, 0, none⟩ = some (.int .i64 3) := hv4.cell 0
    have HW4 := Lib.hid hw4
    clear hw4
    go_upto_region 7 with fail
    first | rw [← HW4.out, hgn] | rw [← HW4.out]
    have HGN := Lib.hid hgn
    clear hgn d0
    have hs4 : r < w4.heap.size := Blk.lt hR4
    go_wp2
    go_loopw [7, 33] (fun s7 i wr => ∃ (q : Nat) (p' : Nat) (no' : Bool) (l8 : List Int), i = .int .i64 q ∧ q ≤ 8 ∧ l8.length = 8 ∧ p' ≤ b.length ∧ RdAt wr r A c b p' no' ∧ Blk wr gn 81 (U8 l8).toArray ∧ Chg w4 wr (fun k => k = r ∨ k = gn) ∧ Hid (Oct l8 ∧ (p + 1 + q ≤ b.length → p' = p + 1 + q ∧ no' = false ∧ ∀ j, j < q → l8[j]? = b[p + 1 + j]?) ∧ (b.length < p + 1 + q → no' = true ∧ p' = b.length)))
      (fun _ i _ => 8 - (RowKit.intOf i).toNat)
    case atStart => exact ⟨0, p + 1, false, _, rfl, Nat.zero_le _, rfl, by omega, hR4, hN4, Chg.refl _ _, Lib.hid ⟨by intro x hx; simp at hx; omega, fun _ => ⟨rfl, rfl, fun j hj => by omega⟩, fun h => by omega⟩⟩
    case round =>
      obtain ⟨q, p', no', l8, rfl, hq, hl8, hp', hRr, hNr, hCr, HQ⟩ := hrel
      clear g0 hR4 hN4
      have hcr : Cells wr r A (U8 b) := hcb4.keep fun a ha => World.cell?_of_block (hCr.block a.block (by omega) (by omega))
      by_cases hlt : q < 8
      · have hqI : (q : Int) < 8 := by omega
        have hq0 : (0 : Int) ≤ (q : Int) := by omega
        have HC := Lib.hid (next_any r A c b p' no' wr hRr hcr hp' hl)
        have hq8 : q < l8.length := by omega
        have hxb : 0 ≤ byteAt b p' ∧ byteAt b p' ≤ 255 := by
          by_cases h : p' < b.length
          · rw [byteAt_lt h]; exact hob.at_ (List.getElem?_eq_getElem h)
          · rw [byteAt_ge (by omega)]; omega
        obtain ⟨x, hx'⟩ : ∃ x, byteAt b p' = x := ⟨_, rfl⟩
        rw [hx'] at HC hxb
        have HXX := Lib.hid hx'
        have HXB := Lib.hid hxb
        obtain ⟨p2, hp2⟩ : ∃ p2, stepP b p' = p2 := ⟨_, rfl⟩
        obtain ⟨n2, hn2⟩ : ∃ n2, stepN b p' no' = n2 := ⟨_, rfl⟩
        rw [hp2, hn2] at HC
        have HP2 := Lib.hid hp2
        have HN2 := Lib.hid hn2
        clear hx' hxb hp2 hn2
        go_wp2_with fail
        refine HC.out.mono ?_
        rintro e w5 ⟨rfl, hR5, hC5⟩
        have hN5 := hNr.chg hC5 (by omega)
        have u5 : w5.cell? ⟨gn, q, none⟩ = some (.int .u8 l8[q]) := by rw [hN5.cell q]; simp [List.getElem?_eq_getElem hq8]
        have u5' := hN5.free q
        generalize l8[q] = oldq at *
        have hN6 : Blk (w5.setCell ⟨gn, q, none⟩ (.int .u8 x)) gn 81 (U8 (l8.set q x)).toArray := by have := hN5.set_ q (.int .u8 x); simpa [List.map_set] using this
        have hR6 : RdAt (w5.setCell ⟨gn, q, none⟩ (.int .u8 x)) r A c b p2 n2 := Blk.far hR5 (by show r ≠ gn; omega) _
        have hC6 : Chg w4 (w5.setCell ⟨gn, q, none⟩ (.int .u8 x)) (fun k => k = r ∨ k = gn) := (hCr.trans hC5 fun i hi => .inl (.inl hi)).trans (Chg.setCell w5 ⟨gn, q, none⟩ _) fun i hi => .inl (.inr hi)
        clear HC
        go_wp2
        go_roundw
        case rel =>
          refine ⟨q + 1, p2, n2, l8.set q x, by go_num, by omega, by simpa using hl8, ?_, hR6, hN6, hC6, Lib.hid ⟨?_, ?_, ?_⟩⟩
          · rw [← HP2.out]; unfold stepP; split <;> omega
          · intro y hy
            rcases List.mem_or_eq_of_mem_set hy with h | h
            · exact HQ.out.1 y h
            · rw [h]; exact HXB.out
          · intro hle
            obtain ⟨e1, e2, e3⟩ := HQ.out.2.1 (by omega)
            have hlt' : p' < b.length := by omega
            refine ⟨by rw [← HP2.out, stepP, if_pos hlt']; omega, by rw [← HN2.out, stepN, if_pos hlt']; exact e2, fun j hj => ?_⟩
            by_cases hjq : j = q
            · subst hjq
              rw [List.getElem?_set_self (by omega), ← HXX.out, byteAt_lt hlt', ← e1, List.getElem?_eq_getElem hlt']
            · rw [List.getElem?_set_ne (by omega)]; exact e3 j (by omega)
          · intro hle
            by_cases hle2 : b.length < p + 1 + q
            · obtain ⟨e1, e2⟩ := HQ.out.2.2 hle2
              exact ⟨by rw [← HN2.out, stepN, if_neg (by omega)], by rw [← HP2.out, stepP, if_neg (by omega)]; exact e2⟩
            · obtain ⟨e1, e2, e3⟩ := HQ.out.2.1 (by omega)
              exact ⟨by rw [← HN2.out, stepN, if_neg (by omega)], by rw [← HP2.out, stepP, if_neg (by omega)]; omega⟩
        case measure => simp [RowKit.intOf]; omega
      · have hq8 : q = 8 := by omega
        subst hq8
        have hv5 := hv4.chg hCr (by omega)
        have hz5 := hz4.chg hCr (by omega)
        have hCw : Chg w wr (fun k => k = r) := ⟨hCr.os.trans hC4.os, hCr.tape.trans hC4.tape, hCr.output.trans hC4.output, Nat.le_trans hC4.size hCr.size, fun k hk hne => (hCr.block k (Nat.lt_of_lt_of_le hk hC4.size) (by have := HGR.out; omega)).trans (hC4.block k hk hne)⟩
        have hK5 : KvS w wr gr r go A c b p' no' 3 0 ⟨#[]⟩ (.slice none 0 0) (.slice none 0 0) [] [] := KvS.fresh hRr hrl hz5 (by have := HGR.out; omega) hCw hv5 hg1
        have hcn : Cells wr wr.heap.size (some ⟨gn, 0, none⟩) (U8 l8) := fun k u hu => ⟨gn, 0, rfl, hNr.lt, by rw [Nat.zero_add, hNr.cell k]; simpa using hu⟩
        have hnb := num_eight l8 HQ.out.1 hl8
        have HG := Lib.hid (get64_any gn 0 l8 8 8 wr hl8 hcn HQ.out.1 (by omega) (by omega) (by omega))
        have hxo := xor_back (num l8 0) hnb.1 hnb.2
        obtain ⟨M, hM⟩ : ∃ M, num l8 0 - 9223372036854775808 = M := ⟨_, rfl⟩
        rw [hM] at hxo
        have hMb : -9223372036854775808 ≤ M ∧ M ≤ 9223372036854775807 := by omega
        have HMB := Lib.hid hMb
        have HV : Hid (ValIs b left p p' no' (LV.mk (3) (M) ⟨#[]⟩ none [] 0 none [] 0).j) := Lib.hid (by
          rw [leaf_j]
          obtain ⟨l, rfl⟩ : ∃ l, left = l + 1 := ⟨left - 1, by have := HL0.out; omega⟩
          by_cases hle : p + 1 + 8 ≤ b.length
          · obtain ⟨e1, e2, e3⟩ := HQ.out.2.1 hle
            have ht : (b.drop (p + 1)).take 8 = l8 := by
              apply List.ext_getElem?
              intro i
              rw [List.getElem?_take, List.getElem?_drop]
              by_cases hi : i < 8
              · rw [if_pos hi, e3 i hi]
              · rw [if_neg hi, List.getElem?_eq_none (by omega)]
            rw [e2]
            exact ValIs.yes (by rw [drop_at hp hx, valG_int, if_neg (by rw [List.length_drop]; omega), ht, hM, List.drop_drop, e1])
          · rw [(HQ.out.2.2 (by omega)).1]
            exact ValIs.no (by rw [drop_at hp hx, valG_int, if_pos (by rw [List.length_drop]; omega)]))
        have HM := Lib.hid hM
        clear hM hMb hnb HQ
        generalize num l8 0 = NN at *
        have hK6 := hK5.num M
        obtain ⟨w6, hw6⟩ : ∃ w6, w6 = wr.setCell ⟨go, 1, none⟩ (.int .i64 M) := ⟨_, rfl⟩
        rw [← hw6] at hK6
        have HW6 := Lib.hid hw6
        clear hw6
        have g1 : wr.cell? ⟨go, 1, none⟩ = some (.int .i64 0) := hK5.v.cell 1
        have g1' := hK5.v.free 1
        go_wp2_with fail
        refine HG.out.mono ?_
        rintro e w7 ⟨rfl, rfl⟩
        go_upto_region 26 with fail
        rw [← HW6.out]
        clear g1 g1' HG
        obtain ⟨e0, e1, e2, e3, e4⟩ : w6.cell? ⟨go, 0, none⟩ = some (.int .i64 (3)) ∧ w6.cell? ⟨go, 1, none⟩ = some (.int .i64 (M)) ∧ w6.cell? ⟨go, 2, none⟩ = some (.string ⟨#[]⟩) ∧ w6.cell? ⟨go, 3, none⟩ = some (.slice none 0 0) ∧ w6.cell? ⟨go, 4, none⟩ = some (.slice none 0 0) := ⟨hK6.v.cell 0, hK6.v.cell 1, hK6.v.cell 2, hK6.v.cell 3, hK6.v.cell 4⟩
        obtain ⟨x0, x1, x2, x3, x4⟩ : w6.cell? ⟨gr, 0, none⟩ = some (.int .i64 0) ∧ w6.cell? ⟨gr, 1, none⟩ = some (.int .i64 0) ∧ w6.cell? ⟨gr, 2, none⟩ = some (.string ⟨#[]⟩) ∧ w6.cell? ⟨gr, 3, none⟩ = some (.slice none 0 0) ∧ w6.cell? ⟨gr, 4, none⟩ = some (.slice none 0 0) := ⟨hK6.res.cell 0, hK6.res.cell 1, hK6.res.cell 2, hK6.res.cell 3, hK6.res.cell 4⟩
        obtain ⟨y0, y1, y2, y3, y4⟩ : w6.frozen? ⟨gr, 0, none⟩ = false ∧ w6.frozen? ⟨gr, 1, none⟩ = false ∧ w6.frozen? ⟨gr, 2, none⟩ = false ∧ w6.frozen? ⟨gr, 3, none⟩ = false ∧ w6.frozen? ⟨gr, 4, none⟩ = false := ⟨hK6.res.free 0, hK6.res.free 1, hK6.res.free 2, hK6.res.free 3, hK6.res.free 4⟩
        obtain ⟨W9, hW9⟩ : ∃ W9, W9 = (((((w6.setCell ⟨gr, 0, none⟩ (.int .i64 (3))).setCell ⟨gr, 1, none⟩ (.int .i64 (M))).setCell ⟨gr, 2, none⟩ (.string ⟨#[]⟩)).setCell ⟨gr, 3, none⟩ (.slice none 0 0)).setCell ⟨gr, 4, none⟩ (.slice none 0 0)) := ⟨_, rfl⟩
        have hC9 : Chg w6 W9 (fun k => k = gr) := by rw [hW9]; exact chg_five w6 gr (.int .i64 (3)) (.int .i64 (M)) (.string ⟨#[]⟩) (.slice none 0 0) (.slice none 0 0)
        have hZ9 : Blk W9 gr 25 #[.int .i64 (3), .int .i64 (M), .string ⟨#[]⟩, .slice none 0 0, .slice none 0 0] := by rw [hW9]; exact hK6.res.five (.int .i64 (3)) (.int .i64 (M)) (.string ⟨#[]⟩) (.slice none 0 0) (.slice none 0 0)
        obtain ⟨j0, j1, j2, j3, j4⟩ : W9.cell? ⟨gr, 0, none⟩ = some (.int .i64 (3)) ∧ W9.cell? ⟨gr, 1, none⟩ = some (.int .i64 (M)) ∧ W9.cell? ⟨gr, 2, none⟩ = some (.string ⟨#[]⟩) ∧ W9.cell? ⟨gr, 3, none⟩ = some (.slice none 0 0) ∧ W9.cell? ⟨gr, 4, none⟩ = some (.slice none 0 0) := ⟨hZ9.cell 0, hZ9.cell 1, hZ9.cell 2, hZ9.cell 3, hZ9.cell 4⟩
        have hD := KvS.done (k := (3)) (n := (M)) (s := ⟨#[]⟩) (An := none) (ns := []) (cn := 0) (Ai := none) (is := []) (ci := 0) hK6 hC9 (by omega) HMB.out (by decide) (by simp)
        have HD := Lib.hid hD
        have HW9 := Lib.hid hW9
        clear hW9 hD
        go_wp2
        rw [← HW9.out]
        exact bodyPost_ret (v := .agg #[.int .i64 (3), .int .i64 (M), .string ⟨#[]⟩, .slice none 0 0, .slice none 0 0]) (by simp [results, Tryd.results47, go_sem, j0, j1, j2, j3, j4]) rfl ⟨LV.mk (3) (M) ⟨#[]⟩ none [] 0 none [] 0, p', no', rfl, HD.out.1, HD.out.2.1, HD.out.2.2.1, HD.out.2.2.2, hp', HV.out⟩
end Go.Proofs.YtpnbmgfnnmmokaaDoor
