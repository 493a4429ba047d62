/-
  The contract of the program's reader's value: members; all of it.
-/
import Derived.Test.YtpnbmgfnnmmokaaDoorQv
import Derived.Deep.Cut
import Derived.Deep.RegionLaw
import Derived.Deep.DeepCutAuto
set_option linter.unusedVariables false
namespace Go.Proofs.YtpnbmgfnnmmokaaDoor
open Go.RowKit

/-- The members so far, and those that follow. -/
def joinM (ns : List ByteArray) (is : List JV) : Option (List ByteArray × List JV × List Int) → Option (List ByteArray × List JV × List Int)
  | none => none
  | some (ns', is', z) => some (ns ++ ns', is ++ is', z)
section
variable {A : Bool} {f : List Int → Option (JV × List Int)} {ob : Bool} {n : Nat} {ns : List ByteArray} {is : List JV} {b r s t u : List Int} {c : Int} {x : JV}
theorem joinM_start (X : Option (List ByteArray × List JV × List Int)) : joinM [] [] X = X := by cases X <;> rfl
theorem joinM_over : joinM ns is (memG true f ob 0 b) = some (ns, is, b) := by simp [memG, joinM]
theorem joinM_overB : joinM ns is (memG false f ob 0 b) = none := by simp [memG, joinM]
theorem joinM_nil : joinM ns is (memG A f ob (n + 1) []) = none := by simp [memG, joinM]
theorem joinM_end : joinM ns is (memG A f ob (n + 1) (0 :: r)) = some (ns, is, r) := by simp [memG, joinM]
theorem joinM_mark (h0 : c ≠ 0) (h1 : c ≠ 1) : joinM ns is (memG A f true (n + 1) (c :: r)) = none := by
  rw [memG, if_neg h0, if_pos rfl, if_pos h1]; rfl
theorem joinM_name (h : getG A r = none) : joinM ns is (memG A f true (n + 1) (1 :: r)) = none := by
  rw [memG, if_neg (by omega), if_pos rfl, if_neg (by omega), h]; rfl
theorem joinM_item (h : getG A r = some (s, t)) (h2 : f t = none) : joinM ns is (memG A f true (n + 1) (1 :: r)) = none := by
  rw [memG, if_neg (by omega), if_pos rfl, if_neg (by omega), h]
  simp only [h2]; rfl
theorem joinM_both (h : getG A r = some (s, t)) (h2 : f t = some (x, u)) : joinM ns is (memG A f true (n + 1) (1 :: r)) = joinM (ns ++ [strOfNums s]) (is ++ [x]) (memG A f true n u) := by
  rw [memG, if_neg (by omega), if_pos rfl, if_neg (by omega), h]
  simp only [h2]
  cases memG A f true n u with
  | none => rfl
  | some q => obtain ⟨a, b, c⟩ := q; simp [joinM]
theorem joinM_none (h0 : c ≠ 0) (h : f (c :: r) = none) : joinM ns is (memG A f false (n + 1) (c :: r)) = none := by
  rw [memG, if_neg h0, if_neg (by simp), h]; rfl
theorem joinM_one (h0 : c ≠ 0) (h : f (c :: r) = some (x, u)) : joinM ns is (memG A f false (n + 1) (c :: r)) = joinM ns (is ++ [x]) (memG A f false n u) := by
  rw [memG, if_neg h0, if_neg (by simp), h]
  cases hm : memG A f false n u with
  | none => simp only [hm]; rfl
  | some q => obtain ⟨a, b, c⟩ := q; simp only [hm, joinM, List.append_assoc, List.cons_append, List.nil_append]
end
/-- An Array, an Object of members. -/
def rowJ (k : Int) : Option (List ByteArray × List JV × List Int) → Option (JV × List Int)
  | none => none
  | some (ns, is, t) => some (.mk k 0 ⟨#[]⟩ ns is, t)
theorem valG_rowJ {A : Bool} {l : Nat} {c : Int} {r : List Int} (h : c = 6 ∨ c = 7) : valG A (l + 1) (c :: r) = rowJ (c - 1) (memG A (valG A l) (decide (c = 7)) 25 r) := by
  rw [valG_rows h]
  cases memG A (valG A l) (decide (c = 7)) 25 r <;> rfl
theorem js_snoc (is : List LV) (x : LV) : LV.js (is ++ [x]) = LV.js is ++ [x.j] := by simp [LV.js_map]
theorem row_j (k n : Int) (s : ByteArray) (An : Option Addr) (ns : List ByteArray) (cn : Nat) (Ai : Option Addr) (is : List LV) (ci : Nat) : (LV.mk k n s An ns cn Ai is ci).j = .mk k n s ns (LV.js is) := by rw [LV.j]
/-- Where value stands among the members. -/
def MemAt (b : List Int) (f : List Int → Option (JV × List Int)) (ob : Bool) (X : Option (List ByteArray × List JV × List Int)) (p : Nat) (no : Bool) (ns : List ByteArray) (is : List LV) : Prop :=
  (no = false → joinM ns (LV.js is) (memG true f ob (25 - is.length) (b.drop p)) = X) ∧ (no = true → X = none)
theorem val_agg {k n : Int} {s : ByteArray} {An : Option Addr} {ns : List ByteArray} {cn : Nat} {Ai : Option Addr} {is : List LV} {ci : Nat} {e : Ending} (h : e = .returned (LV.mk k n s An ns cn Ai is ci).val) : e = .returned (.agg #[.int .i64 k, .int .i64 n, .string s, .slice An ns.length cn, .slice Ai is.length ci]) := h
def lenAt (w : World) (a : Addr) : Nat := match w.cell? a with
  | some v => lenOf v
  | none => 0
def noAt (w : World) (a : Addr) : Nat := match w.cell? a with
  | some (.bool true) => 0
  | _ => 1
theorem KvS.meas {w0 wr : World} {gr r go : Nat} {A : Option Addr} {c : Nat} {b : List Int} {p : Nat} {no : Bool} {k n : Int} {s : ByteArray} {vn vi : Value} {ns : List ByteArray} {is : List LV} (h : KvS w0 wr gr r go A c b p no k n s vn vi ns is) : lenAt wr ⟨go, 4, none⟩ = is.length ∧ noAt wr ⟨r, 2, none⟩ = (if no = true then 0 else 1) := by
  have e1 : wr.cell? ⟨go, 4, none⟩ = some vi := h.v.cell 4
  have e2 : wr.cell? ⟨r, 2, none⟩ = some (.bool no) := Blk.cell h.rd 2
  obtain ⟨A', c', rfl, _⟩ := h.oi.shape
  unfold lenAt noAt
  rw [e1, e2]
  cases no <;> exact ⟨rfl, rfl⟩
theorem KvS.bytes {w0 wr : World} {gr r go : Nat} {A : Option Addr} {c : Nat} {b : List Int} {p : Nat} {no : Bool} {k n : Int} {s : ByteArray} {vn vi : Value} {ns : List ByteArray} {is : List LV} (h : KvS w0 wr gr r go A c b p no k n s vn vi ns is) (hc : Cells w0 r A (U8 b)) : Cells wr r A (U8 b) := hc.chgR h.rlt h.chg

set_option maxRecDepth 8000 in
set_option maxHeartbeats 16000000 in
theorem value_row6 (r : Nat) (A : Option Addr) (c : Nat) (b : List Int) (p left : Nat) (w : World) (hR : RdAt w r A c b p false) (hc : Cells w r A (U8 b)) (hp : p < b.length) (hl : b.length ≤ 10000000000000) (hleft : left ≤ 100) (hob : Oct b) (hx : b[p] = 6) (IH : ∀ l, left = l + 1 → ∀ p w, RdAt w r A c b p false → Cells w r A (U8 b) → p ≤ b.length → Calls Tryd.prog 47 #[.pointer (some ⟨r, 0, none⟩), .int .i64 l] w (ValRes w r A c b l p)) : Calls Tryd.prog 47 #[.pointer (some ⟨r, 0, none⟩), .int .i64 left] w (ValRes w r A c b left p) := by
  have hcb := hc
  have hrl : r < w.heap.size := Blk.lt hR
  obtain ⟨gr, hgr⟩ : ∃ g, w.heap.size = g := ⟨_, rfl⟩
  obtain ⟨W, hW⟩ : ∃ W, W = w.alloc (.cells zeroBlk 25) := ⟨_, rfl⟩
  have hZ : Blk W gr 25 zeroBlk := by rw [hW, ← hgr]; exact Blk.new w _ _
  have hCW : Chg w W (fun k => k = r) := by rw [hW]; exact Chg.alloc w _ _
  have hRW : RdAt W r A c b p false := by rw [hW]; exact Blk.alloc hR _
  have hcW : Cells W r A (U8 b) := hc.chgR hrl hCW
  have hWs : gr < W.heap.size := by rw [hW, World.size_alloc]; omega
  have HC1 := Lib.hid (next_lt r A c b p false W 6 hRW hcW hp hl hx)
  have HW := Lib.hid hW
  have HGR := Lib.hid hgr
  clear hW hR hc hRW
  go_enter Tryd.func47, Tryd.ntmps47
  go_upto_region 1 with fail
  first | rw [← HW.out, hgr] | rw [← HW.out]
  go_wp2_with fail
  refine HC1.out.mono ?_
  rintro e w1 ⟨rfl, hR1, hC1⟩
  have hC01 := hCW.thenC hC1
  have hs1 := hC1.size
  have hc1 := hcW.chgR (by omega) hC1
  obtain ⟨go, hgo⟩ : ∃ g, w1.heap.size = g := ⟨_, rfl⟩
  obtain ⟨W2, hW2⟩ : ∃ W2, W2 = w1.alloc (.cells #[.int .i64 (5), .int .i64 0, .string ⟨#[]⟩, .slice none 0 0, .slice none 0 0] 25) := ⟨_, rfl⟩
  have hK2 : KvS w W2 gr r go A c b (p + 1) false (5) 0 ⟨#[]⟩ (.slice none 0 0) (.slice none 0 0) [] [] := by rw [hW2]; exact KvS.fresh (Blk.alloc hR1 _) hrl ((hZ.chg hC1 (by omega)).alloc _) (by omega) (hC01.thenC (Chg.alloc w1 _ _)) (by rw [← hgo]; exact Blk.new w1 _ _) (by omega)
  have hc2 : Cells W2 r A (U8 b) := by rw [hW2]; exact hc1.alloc (by omega) _
  have HW2 := Lib.hid hW2
  have HGO := Lib.hid hgo
  have hs2 : r < W2.heap.size := by rw [hW2, World.size_alloc]; omega
  clear hW2 hZ hR1 HC1 hcW
  go_upto_region 2 with fail
  first | rw [← HW2.out, hgo] | rw [← HW2.out]
  clear hgo hgr
  have d0 : W2.cell? ⟨go, 0, none⟩ = some (.int .i64 (5)) := hK2.v.cell 0
  by_cases h0 : left = 0
  · have hlI : ((left : Int) == 0) = true := by rw [beq_iff_eq]; omega
    have HL0 := Lib.hid h0
    clear h0
    have fr2 : W2.frozen? ⟨r, 2, none⟩ = false := Blk.free hK2.rd 2
    obtain ⟨q0, q1, q2⟩ : W2.cell? ⟨r, 0, none⟩ = some (.slice A b.length c) ∧ W2.cell? ⟨r, 1, none⟩ = some (.int .i64 ((p + 1) : Nat)) ∧ W2.cell? ⟨r, 2, none⟩ = some (.bool false) := ⟨Blk.cell hK2.rd 0, Blk.cell hK2.rd 1, Blk.cell hK2.rd 2⟩
    obtain ⟨W3, hW3⟩ : ∃ W3, W3 = W2.setCell ⟨r, 2, none⟩ (.bool true) := ⟨_, rfl⟩
    have hC23 : Chg W2 W3 (fun k => k = r) := by rw [hW3]; exact Chg.setCell W2 ⟨r, 2, none⟩ _
    have hR3 : RdAt W3 r A c b ((p + 1)) true := by unfold RdAt; rw [hW3]; have := (show Blk W2 r 54 #[.slice A b.length c, .int .i64 ((p + 1) : Nat), .bool false] from hK2.rd).set_ 2 (.bool true); simpa using this
    have hK3 := hK2.read hC23 hR3
    have hc3 := hc2.chgR hs2 hC23
    have hs3 := hC23.size
    have HW3 := Lib.hid hW3
    clear hW3 hR3
    go_upto_region 4 with fail
    rw [← HW3.out]
    clear d0 q0 q1 q2 fr2
    have d0 : W3.cell? ⟨go, 0, none⟩ = some (.int .i64 (5)) := hK3.v.cell 0
    obtain ⟨q2, q4⟩ : W3.cell? ⟨r, 2, none⟩ = some (.bool true) ∧ W3.cell? ⟨go, 4, none⟩ = some (.slice none 0 0) := ⟨Blk.cell hK3.rd 2, hK3.v.cell 4⟩
    have HV : Hid (∀ j, ValIs b left p (p + 1) true j) := Lib.hid fun j => by rw [HL0.out]; exact ValIs.no0
    go_wp2
    refine wp_loop_rounds 1 ?_
    rw [rounds_succ]
    obtain ⟨e0, e1, e2, e3, e4⟩ : W3.cell? ⟨go, 0, none⟩ = some (.int .i64 (5)) ∧ W3.cell? ⟨go, 1, none⟩ = some (.int .i64 (0)) ∧ W3.cell? ⟨go, 2, none⟩ = some (.string ⟨#[]⟩) ∧ W3.cell? ⟨go, 3, none⟩ = some (.slice none 0 0) ∧ W3.cell? ⟨go, 4, none⟩ = some (.slice none 0 0) := ⟨hK3.v.cell 0, hK3.v.cell 1, hK3.v.cell 2, hK3.v.cell 3, hK3.v.cell 4⟩
    obtain ⟨x0, x1, x2, x3, x4⟩ : W3.cell? ⟨gr, 0, none⟩ = some (.int .i64 0) ∧ W3.cell? ⟨gr, 1, none⟩ = some (.int .i64 0) ∧ W3.cell? ⟨gr, 2, none⟩ = some (.string ⟨#[]⟩) ∧ W3.cell? ⟨gr, 3, none⟩ = some (.slice none 0 0) ∧ W3.cell? ⟨gr, 4, none⟩ = some (.slice none 0 0) := ⟨hK3.res.cell 0, hK3.res.cell 1, hK3.res.cell 2, hK3.res.cell 3, hK3.res.cell 4⟩
    obtain ⟨y0, y1, y2, y3, y4⟩ : W3.frozen? ⟨gr, 0, none⟩ = false ∧ W3.frozen? ⟨gr, 1, none⟩ = false ∧ W3.frozen? ⟨gr, 2, none⟩ = false ∧ W3.frozen? ⟨gr, 3, none⟩ = false ∧ W3.frozen? ⟨gr, 4, none⟩ = false := ⟨hK3.res.free 0, hK3.res.free 1, hK3.res.free 2, hK3.res.free 3, hK3.res.free 4⟩
    obtain ⟨W9, hW9⟩ : ∃ W9, W9 = (((((W3.setCell ⟨gr, 0, none⟩ (.int .i64 (5))).setCell ⟨gr, 1, none⟩ (.int .i64 (0))).setCell ⟨gr, 2, none⟩ (.string ⟨#[]⟩)).setCell ⟨gr, 3, none⟩ (.slice none 0 0)).setCell ⟨gr, 4, none⟩ (.slice none 0 0)) := ⟨_, rfl⟩
    have hC9 : Chg W3 W9 (fun k => k = gr) := by rw [hW9]; exact chg_five W3 gr (.int .i64 (5)) (.int .i64 (0)) (.string ⟨#[]⟩) (.slice none 0 0) (.slice none 0 0)
    have hZ9 : Blk W9 gr 25 #[.int .i64 (5), .int .i64 (0), .string ⟨#[]⟩, .slice none 0 0, .slice none 0 0] := by rw [hW9]; exact hK3.res.five (.int .i64 (5)) (.int .i64 (0)) (.string ⟨#[]⟩) (.slice none 0 0) (.slice none 0 0)
    obtain ⟨j0, j1, j2, j3, j4⟩ : W9.cell? ⟨gr, 0, none⟩ = some (.int .i64 (5)) ∧ W9.cell? ⟨gr, 1, none⟩ = some (.int .i64 (0)) ∧ W9.cell? ⟨gr, 2, none⟩ = some (.string ⟨#[]⟩) ∧ W9.cell? ⟨gr, 3, none⟩ = some (.slice none 0 0) ∧ W9.cell? ⟨gr, 4, none⟩ = some (.slice none 0 0) := ⟨hZ9.cell 0, hZ9.cell 1, hZ9.cell 2, hZ9.cell 3, hZ9.cell 4⟩
    have hD := KvS.done (k := (5)) (n := (0)) (s := ⟨#[]⟩) (An := none) (ns := []) (cn := 0) (Ai := none) (is := []) (ci := 0) hK3 hC9 (by omega) (by omega) (by decide) (by simp)
    have HD := Lib.hid hD
    have HW9 := Lib.hid hW9
    clear hW9 hD
    go_wp2
    rw [← HW9.out]
    exact bodyPost_ret (v := .agg #[.int .i64 (5), .int .i64 (0), .string ⟨#[]⟩, .slice none 0 0, .slice none 0 0]) (by simp [results, Tryd.results47, go_sem, j0, j1, j2, j3, j4]) rfl ⟨LV.mk (5) (0) ⟨#[]⟩ none [] 0 none [] 0, p + 1, true, rfl, HD.out.1, HD.out.2.1, HD.out.2.2.1, HD.out.2.2.2, by omega, HV.out _⟩
  · have hlI : ((left : Int) == 0) = false := by rw [beq_eq_false_iff_ne]; omega
    have HL0 := Lib.hid h0
    clear h0
    obtain ⟨l, hll⟩ : ∃ l, left = l + 1 := ⟨left - 1, by have := HL0.out; omega⟩
    have hsub : (left : Int) - 1 = (l : Int) := by omega
    have hwl : IntKind.i64.wrap (l : Int) = (l : Int) := by rw [IntKind.wrap_i64]; omega
    have HIH := Lib.hid (IH l hll)
    obtain ⟨X, hX⟩ : ∃ X, memG true (valG true l) false 25 (b.drop (p + 1)) = X := ⟨_, rfl⟩
    have HVAL : Hid (valG true left (b.drop p) = rowJ (5) X) := Lib.hid (by rw [hll, drop_at hp hx, valG_rowJ (by omega), show decide ((6 : Int) = 7) = false from by decide, hX]; rfl)
    have HM0 : Hid (MemAt b (valG true l) false X (p + 1) false [] []) := Lib.hid ⟨fun _ => by rw [LV.js, joinM_start]; exact hX, fun h => by cases h⟩
    have HLL := Lib.hid hll
    have HCB := Lib.hid hcb
    clear hX IH hll hcb hc2
    go_upto_region 4 with fail
    go_wp2
    go_loopw [8] (fun s8 wr => ∃ (p' : Nat) (no : Bool) (vn vi : Value) (ns : List ByteArray) (is : List LV), KvS w wr gr r go A c b p' no (5) 0 ⟨#[]⟩ vn vi ns is ∧ p' ≤ b.length ∧ is.length ≤ 25 ∧ ns.length ≤ is.length + 1 ∧ (∀ t ∈ ns, t.size ≤ 9223372036854775807) ∧ (no = false → ns.length ≤ is.length) ∧ Hid (MemAt b (valG true l) false X p' no ns is))
      (fun _ wr => 2 * (30 - lenAt wr ⟨go, 4, none⟩) + noAt wr ⟨r, 2, none⟩)
    case atStart => exact ⟨p + 1, false, _, _, [], [], hK2, by omega, by simp, by simp, by simp, by simp, HM0⟩
    case round =>
      obtain ⟨p', no, vn, vi, ns, is, hK, hp', hi25, hn26, hnsz, hnn, HM⟩ := hrel
      clear hK2 HM0 d0
      have hm0 := hK.meas
      have hcr := hK.bytes HCB.out
      have hrr : r < wr.heap.size := Blk.lt hK.rd
      have hlo := hK.lo
      have hglo := hK.glo
      obtain ⟨q0, q1, q2⟩ : wr.cell? ⟨r, 0, none⟩ = some (.slice A b.length c) ∧ wr.cell? ⟨r, 1, none⟩ = some (.int .i64 (p' : Nat)) ∧ wr.cell? ⟨r, 2, none⟩ = some (.bool no) := ⟨Blk.cell hK.rd 0, Blk.cell hK.rd 1, Blk.cell hK.rd 2⟩
      have u0 : wr.cell? ⟨go, 0, none⟩ = some (.int .i64 (5)) := hK.v.cell 0
      cases no with
      | true =>
        have HV : Hid (∀ j, ValIs b left p p' true j) := Lib.hid fun j => ValIs.no (by rw [HVAL.out, HM.out.2 rfl]; first | done | rfl)
        clear u0 hm0
        obtain ⟨An, cn, rfl, _, _, _⟩ := hK.on.shape
        obtain ⟨Ai, ci, rfl, _, _, _⟩ := hK.oi.shape
        obtain ⟨e0, e1, e2, e3, e4⟩ : wr.cell? ⟨go, 0, none⟩ = some (.int .i64 (5)) ∧ wr.cell? ⟨go, 1, none⟩ = some (.int .i64 (0)) ∧ wr.cell? ⟨go, 2, none⟩ = some (.string ⟨#[]⟩) ∧ wr.cell? ⟨go, 3, none⟩ = some (.slice An ns.length cn) ∧ wr.cell? ⟨go, 4, none⟩ = some (.slice Ai is.length ci) := ⟨hK.v.cell 0, hK.v.cell 1, hK.v.cell 2, hK.v.cell 3, hK.v.cell 4⟩
        obtain ⟨x0, x1, x2, x3, x4⟩ : wr.cell? ⟨gr, 0, none⟩ = some (.int .i64 0) ∧ wr.cell? ⟨gr, 1, none⟩ = some (.int .i64 0) ∧ wr.cell? ⟨gr, 2, none⟩ = some (.string ⟨#[]⟩) ∧ wr.cell? ⟨gr, 3, none⟩ = some (.slice none 0 0) ∧ wr.cell? ⟨gr, 4, none⟩ = some (.slice none 0 0) := ⟨hK.res.cell 0, hK.res.cell 1, hK.res.cell 2, hK.res.cell 3, hK.res.cell 4⟩
        obtain ⟨y0, y1, y2, y3, y4⟩ : wr.frozen? ⟨gr, 0, none⟩ = false ∧ wr.frozen? ⟨gr, 1, none⟩ = false ∧ wr.frozen? ⟨gr, 2, none⟩ = false ∧ wr.frozen? ⟨gr, 3, none⟩ = false ∧ wr.frozen? ⟨gr, 4, none⟩ = false := ⟨hK.res.free 0, hK.res.free 1, hK.res.free 2, hK.res.free 3, hK.res.free 4⟩
        obtain ⟨W9, hW9⟩ : ∃ W9, W9 = (((((wr.setCell ⟨gr, 0, none⟩ (.int .i64 (5))).setCell ⟨gr, 1, none⟩ (.int .i64 (0))).setCell ⟨gr, 2, none⟩ (.string ⟨#[]⟩)).setCell ⟨gr, 3, none⟩ (.slice An ns.length cn)).setCell ⟨gr, 4, none⟩ (.slice Ai is.length ci)) := ⟨_, rfl⟩
        have hC9 : Chg wr W9 (fun k => k = gr) := by rw [hW9]; exact chg_five wr gr (.int .i64 (5)) (.int .i64 (0)) (.string ⟨#[]⟩) (.slice An ns.length cn) (.slice Ai is.length ci)
        have hZ9 : Blk W9 gr 25 #[.int .i64 (5), .int .i64 (0), .string ⟨#[]⟩, .slice An ns.length cn, .slice Ai is.length ci] := by rw [hW9]; exact hK.res.five (.int .i64 (5)) (.int .i64 (0)) (.string ⟨#[]⟩) (.slice An ns.length cn) (.slice Ai is.length ci)
        obtain ⟨j0, j1, j2, j3, j4⟩ : W9.cell? ⟨gr, 0, none⟩ = some (.int .i64 (5)) ∧ W9.cell? ⟨gr, 1, none⟩ = some (.int .i64 (0)) ∧ W9.cell? ⟨gr, 2, none⟩ = some (.string ⟨#[]⟩) ∧ W9.cell? ⟨gr, 3, none⟩ = some (.slice An ns.length cn) ∧ W9.cell? ⟨gr, 4, none⟩ = some (.slice Ai is.length ci) := ⟨hZ9.cell 0, hZ9.cell 1, hZ9.cell 2, hZ9.cell 3, hZ9.cell 4⟩
        have hD := KvS.done (k := (5)) (n := (0)) (s := ⟨#[]⟩) (An := An) (ns := ns) (cn := cn) (Ai := Ai) (is := is) (ci := ci) hK hC9 (by omega) (by omega) (by decide) hnsz
        have HD := Lib.hid hD
        have HW9 := Lib.hid hW9
        clear hW9 hD
        go_wp2
        rw [← HW9.out]
        exact bodyPost_ret (v := .agg #[.int .i64 (5), .int .i64 (0), .string ⟨#[]⟩, .slice An ns.length cn, .slice Ai is.length ci]) (by simp [results, Tryd.results47, go_sem, j0, j1, j2, j3, j4]) rfl ⟨LV.mk (5) (0) ⟨#[]⟩ An ns cn Ai is ci, p', true, rfl, HD.out.1, HD.out.2.1, HD.out.2.2.1, HD.out.2.2.2, by omega, HV.out _⟩
      | false =>
      have HJ := Lib.hid (HM.out.1 rfl)
      have hnn' := hnn rfl
      by_cases h25 : is.length = 25
      · have HV : Hid (ValIs b left p p' false (.mk (5) 0 ⟨#[]⟩ ns (LV.js is))) := Lib.hid (ValIs.yes (by rw [HVAL.out, ← HJ.out, h25, joinM_over]; first | done | rfl))
        have hI : ¬ (is.length : Int) ≤ 24 := by omega
        clear u0 hm0 h25
        obtain ⟨An, cn, rfl, _, _, _⟩ := hK.on.shape
        obtain ⟨Ai, ci, rfl, _, _, _⟩ := hK.oi.shape
        obtain ⟨e0, e1, e2, e3, e4⟩ : wr.cell? ⟨go, 0, none⟩ = some (.int .i64 (5)) ∧ wr.cell? ⟨go, 1, none⟩ = some (.int .i64 (0)) ∧ wr.cell? ⟨go, 2, none⟩ = some (.string ⟨#[]⟩) ∧ wr.cell? ⟨go, 3, none⟩ = some (.slice An ns.length cn) ∧ wr.cell? ⟨go, 4, none⟩ = some (.slice Ai is.length ci) := ⟨hK.v.cell 0, hK.v.cell 1, hK.v.cell 2, hK.v.cell 3, hK.v.cell 4⟩
        obtain ⟨x0, x1, x2, x3, x4⟩ : wr.cell? ⟨gr, 0, none⟩ = some (.int .i64 0) ∧ wr.cell? ⟨gr, 1, none⟩ = some (.int .i64 0) ∧ wr.cell? ⟨gr, 2, none⟩ = some (.string ⟨#[]⟩) ∧ wr.cell? ⟨gr, 3, none⟩ = some (.slice none 0 0) ∧ wr.cell? ⟨gr, 4, none⟩ = some (.slice none 0 0) := ⟨hK.res.cell 0, hK.res.cell 1, hK.res.cell 2, hK.res.cell 3, hK.res.cell 4⟩
        obtain ⟨y0, y1, y2, y3, y4⟩ : wr.frozen? ⟨gr, 0, none⟩ = false ∧ wr.frozen? ⟨gr, 1, none⟩ = false ∧ wr.frozen? ⟨gr, 2, none⟩ = false ∧ wr.frozen? ⟨gr, 3, none⟩ = false ∧ wr.frozen? ⟨gr, 4, none⟩ = false := ⟨hK.res.free 0, hK.res.free 1, hK.res.free 2, hK.res.free 3, hK.res.free 4⟩
        obtain ⟨W9, hW9⟩ : ∃ W9, W9 = (((((wr.setCell ⟨gr, 0, none⟩ (.int .i64 (5))).setCell ⟨gr, 1, none⟩ (.int .i64 (0))).setCell ⟨gr, 2, none⟩ (.string ⟨#[]⟩)).setCell ⟨gr, 3, none⟩ (.slice An ns.length cn)).setCell ⟨gr, 4, none⟩ (.slice Ai is.length ci)) := ⟨_, rfl⟩
        have hC9 : Chg wr W9 (fun k => k = gr) := by rw [hW9]; exact chg_five wr gr (.int .i64 (5)) (.int .i64 (0)) (.string ⟨#[]⟩) (.slice An ns.length cn) (.slice Ai is.length ci)
        have hZ9 : Blk W9 gr 25 #[.int .i64 (5), .int .i64 (0), .string ⟨#[]⟩, .slice An ns.length cn, .slice Ai is.length ci] := by rw [hW9]; exact hK.res.five (.int .i64 (5)) (.int .i64 (0)) (.string ⟨#[]⟩) (.slice An ns.length cn) (.slice Ai is.length ci)
        obtain ⟨j0, j1, j2, j3, j4⟩ : W9.cell? ⟨gr, 0, none⟩ = some (.int .i64 (5)) ∧ W9.cell? ⟨gr, 1, none⟩ = some (.int .i64 (0)) ∧ W9.cell? ⟨gr, 2, none⟩ = some (.string ⟨#[]⟩) ∧ W9.cell? ⟨gr, 3, none⟩ = some (.slice An ns.length cn) ∧ W9.cell? ⟨gr, 4, none⟩ = some (.slice Ai is.length ci) := ⟨hZ9.cell 0, hZ9.cell 1, hZ9.cell 2, hZ9.cell 3, hZ9.cell 4⟩
        have hD := KvS.done (k := (5)) (n := (0)) (s := ⟨#[]⟩) (An := An) (ns := ns) (cn := cn) (Ai := Ai) (is := is) (ci := ci) hK hC9 (by omega) (by omega) (by decide) hnsz
        have HD := Lib.hid hD
        have HW9 := Lib.hid hW9
        clear hW9 hD
        go_wp2
        rw [← HW9.out]
        exact bodyPost_ret (v := .agg #[.int .i64 (5), .int .i64 (0), .string ⟨#[]⟩, .slice An ns.length cn, .slice Ai is.length ci]) (by simp [results, Tryd.results47, go_sem, j0, j1, j2, j3, j4]) rfl ⟨LV.mk (5) (0) ⟨#[]⟩ An ns cn Ai is ci, p', false, rfl, HD.out.1, HD.out.2.1, HD.out.2.2.1, HD.out.2.2.2, by omega, by rw [row_j]; exact HV.out⟩
      have hI : (is.length : Int) ≤ 24 := by omega
      obtain ⟨m, hm⟩ : ∃ m, 25 - is.length = m + 1 ∧ 25 - (is.length + 1) = m := ⟨24 - is.length, by omega, by omega⟩
      have HMM := Lib.hid hm
      have u4 : wr.cell? ⟨go, 4, none⟩ = some vi := hK.v.cell 4
      obtain ⟨Ai, ci, rfl, _, hci, _⟩ := hK.oi.shape
      by_cases hpl : p' < b.length
      rotate_left
      · have HC := Lib.hid (next_ge r A c b p' false wr hK.rd hcr (by omega) hl)
        have HV : Hid (∀ j, ValIs b left p p' true j) := Lib.hid fun j => ValIs.no (by rw [HVAL.out, ← HJ.out, HMM.out.1, List.drop_of_length_le (by omega), joinM_nil]; first | done | rfl)
        clear hm h25
        go_wp2_with fail
        refine HC.out.mono ?_
        rintro e w3 ⟨rfl, hR3, hC3⟩
        have hK3 := hK.read hC3 hR3
        clear u0 u4 q0 q1 q2 HC hm0 hK hcr
        obtain ⟨An, cn, rfl, _, _, _⟩ := hK3.on.shape
        skip
        obtain ⟨e0, e1, e2, e3, e4⟩ : w3.cell? ⟨go, 0, none⟩ = some (.int .i64 (5)) ∧ w3.cell? ⟨go, 1, none⟩ = some (.int .i64 (0)) ∧ w3.cell? ⟨go, 2, none⟩ = some (.string ⟨#[]⟩) ∧ w3.cell? ⟨go, 3, none⟩ = some (.slice An ns.length cn) ∧ w3.cell? ⟨go, 4, none⟩ = some (.slice Ai is.length ci) := ⟨hK3.v.cell 0, hK3.v.cell 1, hK3.v.cell 2, hK3.v.cell 3, hK3.v.cell 4⟩
        obtain ⟨x0, x1, x2, x3, x4⟩ : w3.cell? ⟨gr, 0, none⟩ = some (.int .i64 0) ∧ w3.cell? ⟨gr, 1, none⟩ = some (.int .i64 0) ∧ w3.cell? ⟨gr, 2, none⟩ = some (.string ⟨#[]⟩) ∧ w3.cell? ⟨gr, 3, none⟩ = some (.slice none 0 0) ∧ w3.cell? ⟨gr, 4, none⟩ = some (.slice none 0 0) := ⟨hK3.res.cell 0, hK3.res.cell 1, hK3.res.cell 2, hK3.res.cell 3, hK3.res.cell 4⟩
        obtain ⟨y0, y1, y2, y3, y4⟩ : w3.frozen? ⟨gr, 0, none⟩ = false ∧ w3.frozen? ⟨gr, 1, none⟩ = false ∧ w3.frozen? ⟨gr, 2, none⟩ = false ∧ w3.frozen? ⟨gr, 3, none⟩ = false ∧ w3.frozen? ⟨gr, 4, none⟩ = false := ⟨hK3.res.free 0, hK3.res.free 1, hK3.res.free 2, hK3.res.free 3, hK3.res.free 4⟩
        obtain ⟨W9, hW9⟩ : ∃ W9, W9 = (((((w3.setCell ⟨gr, 0, none⟩ (.int .i64 (5))).setCell ⟨gr, 1, none⟩ (.int .i64 (0))).setCell ⟨gr, 2, none⟩ (.string ⟨#[]⟩)).setCell ⟨gr, 3, none⟩ (.slice An ns.length cn)).setCell ⟨gr, 4, none⟩ (.slice Ai is.length ci)) := ⟨_, rfl⟩
        have hC9 : Chg w3 W9 (fun k => k = gr) := by rw [hW9]; exact chg_five w3 gr (.int .i64 (5)) (.int .i64 (0)) (.string ⟨#[]⟩) (.slice An ns.length cn) (.slice Ai is.length ci)
        have hZ9 : Blk W9 gr 25 #[.int .i64 (5), .int .i64 (0), .string ⟨#[]⟩, .slice An ns.length cn, .slice Ai is.length ci] := by rw [hW9]; exact hK3.res.five (.int .i64 (5)) (.int .i64 (0)) (.string ⟨#[]⟩) (.slice An ns.length cn) (.slice Ai is.length ci)
        obtain ⟨j0, j1, j2, j3, j4⟩ : W9.cell? ⟨gr, 0, none⟩ = some (.int .i64 (5)) ∧ W9.cell? ⟨gr, 1, none⟩ = some (.int .i64 (0)) ∧ W9.cell? ⟨gr, 2, none⟩ = some (.string ⟨#[]⟩) ∧ W9.cell? ⟨gr, 3, none⟩ = some (.slice An ns.length cn) ∧ W9.cell? ⟨gr, 4, none⟩ = some (.slice Ai is.length ci) := ⟨hZ9.cell 0, hZ9.cell 1, hZ9.cell 2, hZ9.cell 3, hZ9.cell 4⟩
        have hD := KvS.done (k := (5)) (n := (0)) (s := ⟨#[]⟩) (An := An) (ns := ns) (cn := cn) (Ai := Ai) (is := is) (ci := ci) hK3 hC9 (by omega) (by omega) (by decide) hnsz
        have HD := Lib.hid hD
        have HW9 := Lib.hid hW9
        clear hW9 hD
        go_wp2
        rw [← HW9.out]
        exact bodyPost_ret (v := .agg #[.int .i64 (5), .int .i64 (0), .string ⟨#[]⟩, .slice An ns.length cn, .slice Ai is.length ci]) (by simp [results, Tryd.results47, go_sem, j0, j1, j2, j3, j4]) rfl ⟨LV.mk (5) (0) ⟨#[]⟩ An ns cn Ai is ci, p', true, rfl, HD.out.1, HD.out.2.1, HD.out.2.2.1, HD.out.2.2.2, by omega, HV.out _⟩
      obtain ⟨y, hy⟩ : ∃ y, b[p'] = y := ⟨_, rfl⟩
      have HC := Lib.hid (next_lt r A c b p' false wr y hK.rd hcr hpl hl hy)
      have HD := Lib.hid (drop_at hpl hy)
      have hyb : 0 ≤ y ∧ y ≤ 255 := by rw [← hy]; exact hob.at_ (List.getElem?_eq_getElem hpl)
      clear hy hm h25
      by_cases hy0 : y = 0
      · subst hy0
        have HV : Hid (ValIs b left p (p' + 1) false (.mk (5) 0 ⟨#[]⟩ ns (LV.js is))) := Lib.hid (ValIs.yes (by rw [HVAL.out, ← HJ.out, HMM.out.1, HD.out, joinM_end]; first | done | rfl))
        go_wp2_with fail
        refine HC.out.mono ?_
        rintro e w3 ⟨rfl, hR3, hC3⟩
        have hK3 := hK.read hC3 hR3
        clear u0 u4 q0 q1 q2 HC hm0 hK hcr
        obtain ⟨An, cn, rfl, _, _, _⟩ := hK3.on.shape
        skip
        obtain ⟨e0, e1, e2, e3, e4⟩ : w3.cell? ⟨go, 0, none⟩ = some (.int .i64 (5)) ∧ w3.cell? ⟨go, 1, none⟩ = some (.int .i64 (0)) ∧ w3.cell? ⟨go, 2, none⟩ = some (.string ⟨#[]⟩) ∧ w3.cell? ⟨go, 3, none⟩ = some (.slice An ns.length cn) ∧ w3.cell? ⟨go, 4, none⟩ = some (.slice Ai is.length ci) := ⟨hK3.v.cell 0, hK3.v.cell 1, hK3.v.cell 2, hK3.v.cell 3, hK3.v.cell 4⟩
        obtain ⟨x0, x1, x2, x3, x4⟩ : w3.cell? ⟨gr, 0, none⟩ = some (.int .i64 0) ∧ w3.cell? ⟨gr, 1, none⟩ = some (.int .i64 0) ∧ w3.cell? ⟨gr, 2, none⟩ = some (.string ⟨#[]⟩) ∧ w3.cell? ⟨gr, 3, none⟩ = some (.slice none 0 0) ∧ w3.cell? ⟨gr, 4, none⟩ = some (.slice none 0 0) := ⟨hK3.res.cell 0, hK3.res.cell 1, hK3.res.cell 2, hK3.res.cell 3, hK3.res.cell 4⟩
        obtain ⟨y0, y1, y2, y3, y4⟩ : w3.frozen? ⟨gr, 0, none⟩ = false ∧ w3.frozen? ⟨gr, 1, none⟩ = false ∧ w3.frozen? ⟨gr, 2, none⟩ = false ∧ w3.frozen? ⟨gr, 3, none⟩ = false ∧ w3.frozen? ⟨gr, 4, none⟩ = false := ⟨hK3.res.free 0, hK3.res.free 1, hK3.res.free 2, hK3.res.free 3, hK3.res.free 4⟩
        obtain ⟨W9, hW9⟩ : ∃ W9, W9 = (((((w3.setCell ⟨gr, 0, none⟩ (.int .i64 (5))).setCell ⟨gr, 1, none⟩ (.int .i64 (0))).setCell ⟨gr, 2, none⟩ (.string ⟨#[]⟩)).setCell ⟨gr, 3, none⟩ (.slice An ns.length cn)).setCell ⟨gr, 4, none⟩ (.slice Ai is.length ci)) := ⟨_, rfl⟩
        have hC9 : Chg w3 W9 (fun k => k = gr) := by rw [hW9]; exact chg_five w3 gr (.int .i64 (5)) (.int .i64 (0)) (.string ⟨#[]⟩) (.slice An ns.length cn) (.slice Ai is.length ci)
        have hZ9 : Blk W9 gr 25 #[.int .i64 (5), .int .i64 (0), .string ⟨#[]⟩, .slice An ns.length cn, .slice Ai is.length ci] := by rw [hW9]; exact hK3.res.five (.int .i64 (5)) (.int .i64 (0)) (.string ⟨#[]⟩) (.slice An ns.length cn) (.slice Ai is.length ci)
        obtain ⟨j0, j1, j2, j3, j4⟩ : W9.cell? ⟨gr, 0, none⟩ = some (.int .i64 (5)) ∧ W9.cell? ⟨gr, 1, none⟩ = some (.int .i64 (0)) ∧ W9.cell? ⟨gr, 2, none⟩ = some (.string ⟨#[]⟩) ∧ W9.cell? ⟨gr, 3, none⟩ = some (.slice An ns.length cn) ∧ W9.cell? ⟨gr, 4, none⟩ = some (.slice Ai is.length ci) := ⟨hZ9.cell 0, hZ9.cell 1, hZ9.cell 2, hZ9.cell 3, hZ9.cell 4⟩
        have hD := KvS.done (k := (5)) (n := (0)) (s := ⟨#[]⟩) (An := An) (ns := ns) (cn := cn) (Ai := Ai) (is := is) (ci := ci) hK3 hC9 (by omega) (by omega) (by decide) hnsz
        have HD := Lib.hid hD
        have HW9 := Lib.hid hW9
        clear hW9 hD
        go_wp2
        rw [← HW9.out]
        exact bodyPost_ret (v := .agg #[.int .i64 (5), .int .i64 (0), .string ⟨#[]⟩, .slice An ns.length cn, .slice Ai is.length ci]) (by simp [results, Tryd.results47, go_sem, j0, j1, j2, j3, j4]) rfl ⟨LV.mk (5) (0) ⟨#[]⟩ An ns cn Ai is ci, p' + 1, false, rfl, HD.out.1, HD.out.2.1, HD.out.2.2.1, HD.out.2.2.2, by omega, by rw [row_j]; exact HV.out⟩
      have hyf : (y == 0) = false := by rw [beq_eq_false_iff_ne]; exact hy0
      have HC' := HC
      have hpm : IntKind.i64.wrap (p' : Int) = (p' : Int) := by rw [IntKind.wrap_i64]; omega
      go_wp2_with fail
      refine HC.out.mono ?_
      rintro e w3 ⟨rfl, hR3, hC3⟩
      have hK3 := hK.read hC3 hR3
      clear u0 u4 q0 q1 q2 HC HC'
      obtain ⟨q1, q2⟩ : w3.cell? ⟨r, 1, none⟩ = some (.int .i64 ((p' : Int) + 1)) ∧ w3.cell? ⟨r, 2, none⟩ = some (.bool false) := ⟨by have := Blk.cell hK3.rd 1; simpa using this, Blk.cell hK3.rd 2⟩
      have u0 : w3.cell? ⟨go, 0, none⟩ = some (.int .i64 (5)) := hK3.v.cell 0
      have fr1 : w3.frozen? ⟨r, 1, none⟩ = false := Blk.free hK3.rd 1
      obtain ⟨w4, hw4⟩ : ∃ w4, w4 = w3.setCell ⟨r, 1, none⟩ (.int .i64 (p' : Int)) := ⟨_, rfl⟩
      have hC4 : Chg w3 w4 (fun k => k = r) := by rw [hw4]; exact Chg.setCell w3 ⟨r, 1, none⟩ _
      have hR4 : RdAt w4 r A c b p' false := by unfold RdAt; rw [hw4]; have := (show Blk w3 r 54 #[.slice A b.length c, .int .i64 ((p' + 1 : Nat) : Int), .bool false] from hK3.rd).set_ 1 (.int .i64 (p' : Int)); simpa using this
      have hK4 := hK3.read hC4 hR4
      have HW4 := Lib.hid hw4
      clear hw4
      go_upto_region 24 with fail
      rw [← HW4.out]
      clear q1 q2 u0 fr1
      have q2 : w4.cell? ⟨r, 2, none⟩ = some (.bool false) := Blk.cell hK4.rd 2
      go_upto_region 25 with fail
      have hcz := hK4.bytes HCB.out
      have hKd := hK4.drew
      obtain ⟨d3, d4⟩ : w4.cell? ⟨go, 4, none⟩ = some (.slice Ai is.length ci) ∧ w4.frozen? ⟨go, 4, none⟩ = false := ⟨hK4.v.cell 4, hK4.v.free 4⟩
      go_region_law (first
        | (go_simp; go_at_call 47; refine (HIH.out p' w4.drew hKd.rd hcz.drew hp').mono ?_; rintro e w6 ⟨z, p2, n2, he, hz1, hz2, hR6, hC6, hp2, hvi⟩; obtain ⟨kz, nz, sz, Anz, nsz, cnz, Aiz, isz, ciz⟩ := z; have he' := val_agg he; clear he; subst he'; have hK6 := hKd.read hC6 hR6; obtain ⟨e3, e4⟩ : w6.cell? ⟨go, 4, none⟩ = some (.slice Ai is.length ci) ∧ w6.frozen? ⟨go, 4, none⟩ = false := ⟨hK6.v.cell 4, hK6.v.free 4⟩; have e5 : ∀ o, (w6.alloc o).cell? ⟨go, 4, none⟩ = some (.slice Ai is.length ci) := fun o => (hK6.alloc o).v.cell 4)
        | (refine VOwn.step rfl (.tmp 103) (.tmp 108) rfl (go + 1) (.slice Ai is.length ci) is ?_ ?_ (w6.heap.size + 1) (some ⟨w6.heap.size, 0, none⟩) 1 1 [LV.mk kz nz sz Anz nsz cnz Aiz isz ciz] ?_ ?_ ?_ ?_ ?_ ?_; (first | exact rfl | simp [Act.eval]); (exact hK6.oi.alloc _); (first | exact rfl | simp [Act.eval]); (exact rfl); (exact one_val w6 _ _ rfl); (simp; omega); (exact Nat.le_trans hK6.lt (by simp)); intro A9 c9 w9 hO9 hG9; have hv9 := (hK6.alloc _).v.grew (hK6.alloc _).oi (Nat.lt_succ_self _) hG9; obtain ⟨g3, g4⟩ : w9.cell? ⟨go, 4, none⟩ = some (.slice Ai is.length ci) ∧ w9.frozen? ⟨go, 4, none⟩ = false := ⟨hv9.cell 4, hv9.free 4⟩))
      all_goals
        have hVI := Lib.hid hvi
        have hKF := (hK6.alloc (.cells #[.int .i64 kz, .int .i64 nz, .string sz, .slice Anz nsz.length cnz, .slice Aiz isz.length ciz] 25)).items hO9 hG9 (LV.At.below ((Below.refl _ _).alloc (Nat.le_refl _) _) _ hz1) (hKd.off hz2)
        have hm9 := hKF.meas
        go_wp2
        go_roundw
        case rel =>
          refine ⟨p2, n2, _, _, _, _, hKF, hp2, by simp; omega, by simp; omega, hnsz, by intro _; simp; omega, Lib.hid ⟨fun h => ?_, fun h => ?_⟩⟩
          · rw [js_snoc, List.length_append, List.length_singleton, HMM.out.2]
            rw [← HJ.out, HMM.out.1, HD.out]
            have h2 := hVI.out.1 h
            rw [HD.out] at h2
            exact (joinM_one hy0 h2).symm
          · rw [← HJ.out, HMM.out.1, HD.out]
            have h2 := hVI.out.2 h
            rw [HD.out] at h2
            exact joinM_none hy0 h2
        case measure => rw [hm9.1, hm9.2, hm0.1, hm0.2, List.length_append, List.length_singleton]; simp; split <;> omega

set_option maxRecDepth 8000 in
set_option maxHeartbeats 16000000 in
theorem value_row7 (r : Nat) (A : Option Addr) (c : Nat) (b : List Int) (p left : Nat) (w : World) (hR : RdAt w r A c b p false) (hc : Cells w r A (U8 b)) (hp : p < b.length) (hl : b.length ≤ 10000000000000) (hleft : left ≤ 100) (hob : Oct b) (hx : b[p] = 7) (IH : ∀ l, left = l + 1 → ∀ p w, RdAt w r A c b p false → Cells w r A (U8 b) → p ≤ b.length → Calls Tryd.prog 47 #[.pointer (some ⟨r, 0, none⟩), .int .i64 l] w (ValRes w r A c b l p)) : Calls Tryd.prog 47 #[.pointer (some ⟨r, 0, none⟩), .int .i64 left] w (ValRes w r A c b left p) := by
  have hcb := hc
  have hrl : r < w.heap.size := Blk.lt hR
  obtain ⟨gr, hgr⟩ : ∃ g, w.heap.size = g := ⟨_, rfl⟩
  obtain ⟨W, hW⟩ : ∃ W, W = w.alloc (.cells zeroBlk 25) := ⟨_, rfl⟩
  have hZ : Blk W gr 25 zeroBlk := by rw [hW, ← hgr]; exact Blk.new w _ _
  have hCW : Chg w W (fun k => k = r) := by rw [hW]; exact Chg.alloc w _ _
  have hRW : RdAt W r A c b p false := by rw [hW]; exact Blk.alloc hR _
  have hcW : Cells W r A (U8 b) := hc.chgR hrl hCW
  have hWs : gr < W.heap.size := by rw [hW, World.size_alloc]; omega
  have HC1 := Lib.hid (next_lt r A c b p false W 7 hRW hcW hp hl hx)
  have HW := Lib.hid hW
  have HGR := Lib.hid hgr
  clear hW hR hc hRW
  go_enter Tryd.func47, Tryd.ntmps47
  go_upto_region 1 with fail
  first | rw [← HW.out, hgr] | rw [← HW.out]
  go_wp2_with fail
  refine HC1.out.mono ?_
  rintro e w1 ⟨rfl, hR1, hC1⟩
  have hC01 := hCW.thenC hC1
  have hs1 := hC1.size
  have hc1 := hcW.chgR (by omega) hC1
  obtain ⟨go, hgo⟩ : ∃ g, w1.heap.size = g := ⟨_, rfl⟩
  obtain ⟨W2, hW2⟩ : ∃ W2, W2 = w1.alloc (.cells #[.int .i64 (6), .int .i64 0, .string ⟨#[]⟩, .slice none 0 0, .slice none 0 0] 25) := ⟨_, rfl⟩
  have hK2 : KvS w W2 gr r go A c b (p + 1) false (6) 0 ⟨#[]⟩ (.slice none 0 0) (.slice none 0 0) [] [] := by rw [hW2]; exact KvS.fresh (Blk.alloc hR1 _) hrl ((hZ.chg hC1 (by omega)).alloc _) (by omega) (hC01.thenC (Chg.alloc w1 _ _)) (by rw [← hgo]; exact Blk.new w1 _ _) (by omega)
  have hc2 : Cells W2 r A (U8 b) := by rw [hW2]; exact hc1.alloc (by omega) _
  have HW2 := Lib.hid hW2
  have HGO := Lib.hid hgo
  have hs2 : r < W2.heap.size := by rw [hW2, World.size_alloc]; omega
  clear hW2 hZ hR1 HC1 hcW
  go_upto_region 2 with fail
  first | rw [← HW2.out, hgo] | rw [← HW2.out]
  clear hgo hgr
  have d0 : W2.cell? ⟨go, 0, none⟩ = some (.int .i64 (6)) := hK2.v.cell 0
  by_cases h0 : left = 0
  · have hlI : ((left : Int) == 0) = true := by rw [beq_iff_eq]; omega
    have HL0 := Lib.hid h0
    clear h0
    have fr2 : W2.frozen? ⟨r, 2, none⟩ = false := Blk.free hK2.rd 2
    obtain ⟨q0, q1, q2⟩ : W2.cell? ⟨r, 0, none⟩ = some (.slice A b.length c) ∧ W2.cell? ⟨r, 1, none⟩ = some (.int .i64 ((p + 1) : Nat)) ∧ W2.cell? ⟨r, 2, none⟩ = some (.bool false) := ⟨Blk.cell hK2.rd 0, Blk.cell hK2.rd 1, Blk.cell hK2.rd 2⟩
    obtain ⟨W3, hW3⟩ : ∃ W3, W3 = W2.setCell ⟨r, 2, none⟩ (.bool true) := ⟨_, rfl⟩
    have hC23 : Chg W2 W3 (fun k => k = r) := by rw [hW3]; exact Chg.setCell W2 ⟨r, 2, none⟩ _
    have hR3 : RdAt W3 r A c b ((p + 1)) true := by unfold RdAt; rw [hW3]; have := (show Blk W2 r 54 #[.slice A b.length c, .int .i64 ((p + 1) : Nat), .bool false] from hK2.rd).set_ 2 (.bool true); simpa using this
    have hK3 := hK2.read hC23 hR3
    have hc3 := hc2.chgR hs2 hC23
    have hs3 := hC23.size
    have HW3 := Lib.hid hW3
    clear hW3 hR3
    go_upto_region 4 with fail
    rw [← HW3.out]
    clear d0 q0 q1 q2 fr2
    have d0 : W3.cell? ⟨go, 0, none⟩ = some (.int .i64 (6)) := hK3.v.cell 0
    obtain ⟨q2, q4⟩ : W3.cell? ⟨r, 2, none⟩ = some (.bool true) ∧ W3.cell? ⟨go, 4, none⟩ = some (.slice none 0 0) := ⟨Blk.cell hK3.rd 2, hK3.v.cell 4⟩
    have HV : Hid (∀ j, ValIs b left p (p + 1) true j) := Lib.hid fun j => by rw [HL0.out]; exact ValIs.no0
    go_wp2
    refine wp_loop_rounds 1 ?_
    rw [rounds_succ]
    obtain ⟨e0, e1, e2, e3, e4⟩ : W3.cell? ⟨go, 0, none⟩ = some (.int .i64 (6)) ∧ W3.cell? ⟨go, 1, none⟩ = some (.int .i64 (0)) ∧ W3.cell? ⟨go, 2, none⟩ = some (.string ⟨#[]⟩) ∧ W3.cell? ⟨go, 3, none⟩ = some (.slice none 0 0) ∧ W3.cell? ⟨go, 4, none⟩ = some (.slice none 0 0) := ⟨hK3.v.cell 0, hK3.v.cell 1, hK3.v.cell 2, hK3.v.cell 3, hK3.v.cell 4⟩
    obtain ⟨x0, x1, x2, x3, x4⟩ : W3.cell? ⟨gr, 0, none⟩ = some (.int .i64 0) ∧ W3.cell? ⟨gr, 1, none⟩ = some (.int .i64 0) ∧ W3.cell? ⟨gr, 2, none⟩ = some (.string ⟨#[]⟩) ∧ W3.cell? ⟨gr, 3, none⟩ = some (.slice none 0 0) ∧ W3.cell? ⟨gr, 4, none⟩ = some (.slice none 0 0) := ⟨hK3.res.cell 0, hK3.res.cell 1, hK3.res.cell 2, hK3.res.cell 3, hK3.res.cell 4⟩
    obtain ⟨y0, y1, y2, y3, y4⟩ : W3.frozen? ⟨gr, 0, none⟩ = false ∧ W3.frozen? ⟨gr, 1, none⟩ = false ∧ W3.frozen? ⟨gr, 2, none⟩ = false ∧ W3.frozen? ⟨gr, 3, none⟩ = false ∧ W3.frozen? ⟨gr, 4, none⟩ = false := ⟨hK3.res.free 0, hK3.res.free 1, hK3.res.free 2, hK3.res.free 3, hK3.res.free 4⟩
    obtain ⟨W9, hW9⟩ : ∃ W9, W9 = (((((W3.setCell ⟨gr, 0, none⟩ (.int .i64 (6))).setCell ⟨gr, 1, none⟩ (.int .i64 (0))).setCell ⟨gr, 2, none⟩ (.string ⟨#[]⟩)).setCell ⟨gr, 3, none⟩ (.slice none 0 0)).setCell ⟨gr, 4, none⟩ (.slice none 0 0)) := ⟨_, rfl⟩
    have hC9 : Chg W3 W9 (fun k => k = gr) := by rw [hW9]; exact chg_five W3 gr (.int .i64 (6)) (.int .i64 (0)) (.string ⟨#[]⟩) (.slice none 0 0) (.slice none 0 0)
    have hZ9 : Blk W9 gr 25 #[.int .i64 (6), .int .i64 (0), .string ⟨#[]⟩, .slice none 0 0, .slice none 0 0] := by rw [hW9]; exact hK3.res.five (.int .i64 (6)) (.int .i64 (0)) (.string ⟨#[]⟩) (.slice none 0 0) (.slice none 0 0)
    obtain ⟨j0, j1, j2, j3, j4⟩ : W9.cell? ⟨gr, 0, none⟩ = some (.int .i64 (6)) ∧ W9.cell? ⟨gr, 1, none⟩ = some (.int .i64 (0)) ∧ W9.cell? ⟨gr, 2, none⟩ = some (.string ⟨#[]⟩) ∧ W9.cell? ⟨gr, 3, none⟩ = some (.slice none 0 0) ∧ W9.cell? ⟨gr, 4, none⟩ = some (.slice none 0 0) := ⟨hZ9.cell 0, hZ9.cell 1, hZ9.cell 2, hZ9.cell 3, hZ9.cell 4⟩
    have hD := KvS.done (k := (6)) (n := (0)) (s := ⟨#[]⟩) (An := none) (ns := []) (cn := 0) (Ai := none) (is := []) (ci := 0) hK3 hC9 (by omega) (by omega) (by decide) (by simp)
    have HD := Lib.hid hD
    have HW9 := Lib.hid hW9
    clear hW9 hD
    go_wp2
    rw [← HW9.out]
    exact bodyPost_ret (v := .agg #[.int .i64 (6), .int .i64 (0), .string ⟨#[]⟩, .slice none 0 0, .slice none 0 0]) (by simp [results, Tryd.results47, go_sem, j0, j1, j2, j3, j4]) rfl ⟨LV.mk (6) (0) ⟨#[]⟩ none [] 0 none [] 0, p + 1, true, rfl, HD.out.1, HD.out.2.1, HD.out.2.2.1, HD.out.2.2.2, by omega, HV.out _⟩
  · have hlI : ((left : Int) == 0) = false := by rw [beq_eq_false_iff_ne]; omega
    have HL0 := Lib.hid h0
    clear h0
    obtain ⟨l, hll⟩ : ∃ l, left = l + 1 := ⟨left - 1, by have := HL0.out; omega⟩
    have hsub : (left : Int) - 1 = (l : Int) := by omega
    have hwl : IntKind.i64.wrap (l : Int) = (l : Int) := by rw [IntKind.wrap_i64]; omega
    have HIH := Lib.hid (IH l hll)
    obtain ⟨X, hX⟩ : ∃ X, memG true (valG true l) true 25 (b.drop (p + 1)) = X := ⟨_, rfl⟩
    have HVAL : Hid (valG true left (b.drop p) = rowJ (6) X) := Lib.hid (by rw [hll, drop_at hp hx, valG_rowJ (by omega), show decide ((7 : Int) = 7) = true from by decide, hX]; rfl)
    have HM0 : Hid (MemAt b (valG true l) true X (p + 1) false [] []) := Lib.hid ⟨fun _ => by rw [LV.js, joinM_start]; exact hX, fun h => by cases h⟩
    have HLL := Lib.hid hll
    have HCB := Lib.hid hcb
    clear hX IH hll hcb hc2
    go_upto_region 4 with fail
    go_wp2
    go_loopw [8] (fun s8 wr => ∃ (p' : Nat) (no : Bool) (vn vi : Value) (ns : List ByteArray) (is : List LV), KvS w wr gr r go A c b p' no (6) 0 ⟨#[]⟩ vn vi ns is ∧ p' ≤ b.length ∧ is.length ≤ 25 ∧ ns.length ≤ is.length + 1 ∧ (∀ t ∈ ns, t.size ≤ 9223372036854775807) ∧ (no = false → ns.length ≤ is.length) ∧ Hid (MemAt b (valG true l) true X p' no ns is))
      (fun _ wr => 2 * (30 - lenAt wr ⟨go, 4, none⟩) + noAt wr ⟨r, 2, none⟩)
    case atStart => exact ⟨p + 1, false, _, _, [], [], hK2, by omega, by simp, by simp, by simp, by simp, HM0⟩
    case round =>
      obtain ⟨p', no, vn, vi, ns, is, hK, hp', hi25, hn26, hnsz, hnn, HM⟩ := hrel
      clear hK2 HM0 d0
      have hm0 := hK.meas
      have hcr := hK.bytes HCB.out
      have hrr : r < wr.heap.size := Blk.lt hK.rd
      have hlo := hK.lo
      have hglo := hK.glo
      obtain ⟨q0, q1, q2⟩ : wr.cell? ⟨r, 0, none⟩ = some (.slice A b.length c) ∧ wr.cell? ⟨r, 1, none⟩ = some (.int .i64 (p' : Nat)) ∧ wr.cell? ⟨r, 2, none⟩ = some (.bool no) := ⟨Blk.cell hK.rd 0, Blk.cell hK.rd 1, Blk.cell hK.rd 2⟩
      have u0 : wr.cell? ⟨go, 0, none⟩ = some (.int .i64 (6)) := hK.v.cell 0
      cases no with
      | true =>
        have HV : Hid (∀ j, ValIs b left p p' true j) := Lib.hid fun j => ValIs.no (by rw [HVAL.out, HM.out.2 rfl]; first | done | rfl)
        clear u0 hm0
        obtain ⟨An, cn, rfl, _, _, _⟩ := hK.on.shape
        obtain ⟨Ai, ci, rfl, _, _, _⟩ := hK.oi.shape
        obtain ⟨e0, e1, e2, e3, e4⟩ : wr.cell? ⟨go, 0, none⟩ = some (.int .i64 (6)) ∧ wr.cell? ⟨go, 1, none⟩ = some (.int .i64 (0)) ∧ wr.cell? ⟨go, 2, none⟩ = some (.string ⟨#[]⟩) ∧ wr.cell? ⟨go, 3, none⟩ = some (.slice An ns.length cn) ∧ wr.cell? ⟨go, 4, none⟩ = some (.slice Ai is.length ci) := ⟨hK.v.cell 0, hK.v.cell 1, hK.v.cell 2, hK.v.cell 3, hK.v.cell 4⟩
        obtain ⟨x0, x1, x2, x3, x4⟩ : wr.cell? ⟨gr, 0, none⟩ = some (.int .i64 0) ∧ wr.cell? ⟨gr, 1, none⟩ = some (.int .i64 0) ∧ wr.cell? ⟨gr, 2, none⟩ = some (.string ⟨#[]⟩) ∧ wr.cell? ⟨gr, 3, none⟩ = some (.slice none 0 0) ∧ wr.cell? ⟨gr, 4, none⟩ = some (.slice none 0 0) := ⟨hK.res.cell 0, hK.res.cell 1, hK.res.cell 2, hK.res.cell 3, hK.res.cell 4⟩
        obtain ⟨y0, y1, y2, y3, y4⟩ : wr.frozen? ⟨gr, 0, none⟩ = false ∧ wr.frozen? ⟨gr, 1, none⟩ = false ∧ wr.frozen? ⟨gr, 2, none⟩ = false ∧ wr.frozen? ⟨gr, 3, none⟩ = false ∧ wr.frozen? ⟨gr, 4, none⟩ = false := ⟨hK.res.free 0, hK.res.free 1, hK.res.free 2, hK.res.free 3, hK.res.free 4⟩
        obtain ⟨W9, hW9⟩ : ∃ W9, W9 = (((((wr.setCell ⟨gr, 0, none⟩ (.int .i64 (6))).setCell ⟨gr, 1, none⟩ (.int .i64 (0))).setCell ⟨gr, 2, none⟩ (.string ⟨#[]⟩)).setCell ⟨gr, 3, none⟩ (.slice An ns.length cn)).setCell ⟨gr, 4, none⟩ (.slice Ai is.length ci)) := ⟨_, rfl⟩
        have hC9 : Chg wr W9 (fun k => k = gr) := by rw [hW9]; exact chg_five wr gr (.int .i64 (6)) (.int .i64 (0)) (.string ⟨#[]⟩) (.slice An ns.length cn) (.slice Ai is.length ci)
        have hZ9 : Blk W9 gr 25 #[.int .i64 (6), .int .i64 (0), .string ⟨#[]⟩, .slice An ns.length cn, .slice Ai is.length ci] := by rw [hW9]; exact hK.res.five (.int .i64 (6)) (.int .i64 (0)) (.string ⟨#[]⟩) (.slice An ns.length cn) (.slice Ai is.length ci)
        obtain ⟨j0, j1, j2, j3, j4⟩ : W9.cell? ⟨gr, 0, none⟩ = some (.int .i64 (6)) ∧ W9.cell? ⟨gr, 1, none⟩ = some (.int .i64 (0)) ∧ W9.cell? ⟨gr, 2, none⟩ = some (.string ⟨#[]⟩) ∧ W9.cell? ⟨gr, 3, none⟩ = some (.slice An ns.length cn) ∧ W9.cell? ⟨gr, 4, none⟩ = some (.slice Ai is.length ci) := ⟨hZ9.cell 0, hZ9.cell 1, hZ9.cell 2, hZ9.cell 3, hZ9.cell 4⟩
        have hD := KvS.done (k := (6)) (n := (0)) (s := ⟨#[]⟩) (An := An) (ns := ns) (cn := cn) (Ai := Ai) (is := is) (ci := ci) hK hC9 (by omega) (by omega) (by decide) hnsz
        have HD := Lib.hid hD
        have HW9 := Lib.hid hW9
        clear hW9 hD
        go_wp2
        rw [← HW9.out]
        exact bodyPost_ret (v := .agg #[.int .i64 (6), .int .i64 (0), .string ⟨#[]⟩, .slice An ns.length cn, .slice Ai is.length ci]) (by simp [results, Tryd.results47, go_sem, j0, j1, j2, j3, j4]) rfl ⟨LV.mk (6) (0) ⟨#[]⟩ An ns cn Ai is ci, p', true, rfl, HD.out.1, HD.out.2.1, HD.out.2.2.1, HD.out.2.2.2, by omega, HV.out _⟩
      | false =>
      have HJ := Lib.hid (HM.out.1 rfl)
      have hnn' := hnn rfl
      by_cases h25 : is.length = 25
      · have HV : Hid (ValIs b left p p' false (.mk (6) 0 ⟨#[]⟩ ns (LV.js is))) := Lib.hid (ValIs.yes (by rw [HVAL.out, ← HJ.out, h25, joinM_over]; first | done | rfl))
        have hI : ¬ (is.length : Int) ≤ 24 := by omega
        clear u0 hm0 h25
        obtain ⟨An, cn, rfl, _, _, _⟩ := hK.on.shape
        obtain ⟨Ai, ci, rfl, _, _, _⟩ := hK.oi.shape
        obtain ⟨e0, e1, e2, e3, e4⟩ : wr.cell? ⟨go, 0, none⟩ = some (.int .i64 (6)) ∧ wr.cell? ⟨go, 1, none⟩ = some (.int .i64 (0)) ∧ wr.cell? ⟨go, 2, none⟩ = some (.string ⟨#[]⟩) ∧ wr.cell? ⟨go, 3, none⟩ = some (.slice An ns.length cn) ∧ wr.cell? ⟨go, 4, none⟩ = some (.slice Ai is.length ci) := ⟨hK.v.cell 0, hK.v.cell 1, hK.v.cell 2, hK.v.cell 3, hK.v.cell 4⟩
        obtain ⟨x0, x1, x2, x3, x4⟩ : wr.cell? ⟨gr, 0, none⟩ = some (.int .i64 0) ∧ wr.cell? ⟨gr, 1, none⟩ = some (.int .i64 0) ∧ wr.cell? ⟨gr, 2, none⟩ = some (.string ⟨#[]⟩) ∧ wr.cell? ⟨gr, 3, none⟩ = some (.slice none 0 0) ∧ wr.cell? ⟨gr, 4, none⟩ = some (.slice none 0 0) := ⟨hK.res.cell 0, hK.res.cell 1, hK.res.cell 2, hK.res.cell 3, hK.res.cell 4⟩
        obtain ⟨y0, y1, y2, y3, y4⟩ : wr.frozen? ⟨gr, 0, none⟩ = false ∧ wr.frozen? ⟨gr, 1, none⟩ = false ∧ wr.frozen? ⟨gr, 2, none⟩ = false ∧ wr.frozen? ⟨gr, 3, none⟩ = false ∧ wr.frozen? ⟨gr, 4, none⟩ = false := ⟨hK.res.free 0, hK.res.free 1, hK.res.free 2, hK.res.free 3, hK.res.free 4⟩
        obtain ⟨W9, hW9⟩ : ∃ W9, W9 = (((((wr.setCell ⟨gr, 0, none⟩ (.int .i64 (6))).setCell ⟨gr, 1, none⟩ (.int .i64 (0))).setCell ⟨gr, 2, none⟩ (.string ⟨#[]⟩)).setCell ⟨gr, 3, none⟩ (.slice An ns.length cn)).setCell ⟨gr, 4, none⟩ (.slice Ai is.length ci)) := ⟨_, rfl⟩
        have hC9 : Chg wr W9 (fun k => k = gr) := by rw [hW9]; exact chg_five wr gr (.int .i64 (6)) (.int .i64 (0)) (.string ⟨#[]⟩) (.slice An ns.length cn) (.slice Ai is.length ci)
        have hZ9 : Blk W9 gr 25 #[.int .i64 (6), .int .i64 (0), .string ⟨#[]⟩, .slice An ns.length cn, .slice Ai is.length ci] := by rw [hW9]; exact hK.res.five (.int .i64 (6)) (.int .i64 (0)) (.string ⟨#[]⟩) (.slice An ns.length cn) (.slice Ai is.length ci)
        obtain ⟨j0, j1, j2, j3, j4⟩ : W9.cell? ⟨gr, 0, none⟩ = some (.int .i64 (6)) ∧ W9.cell? ⟨gr, 1, none⟩ = some (.int .i64 (0)) ∧ W9.cell? ⟨gr, 2, none⟩ = some (.string ⟨#[]⟩) ∧ W9.cell? ⟨gr, 3, none⟩ = some (.slice An ns.length cn) ∧ W9.cell? ⟨gr, 4, none⟩ = some (.slice Ai is.length ci) := ⟨hZ9.cell 0, hZ9.cell 1, hZ9.cell 2, hZ9.cell 3, hZ9.cell 4⟩
        have hD := KvS.done (k := (6)) (n := (0)) (s := ⟨#[]⟩) (An := An) (ns := ns) (cn := cn) (Ai := Ai) (is := is) (ci := ci) hK hC9 (by omega) (by omega) (by decide) hnsz
        have HD := Lib.hid hD
        have HW9 := Lib.hid hW9
        clear hW9 hD
        go_wp2
        rw [← HW9.out]
        exact bodyPost_ret (v := .agg #[.int .i64 (6), .int .i64 (0), .string ⟨#[]⟩, .slice An ns.length cn, .slice Ai is.length ci]) (by simp [results, Tryd.results47, go_sem, j0, j1, j2, j3, j4]) rfl ⟨LV.mk (6) (0) ⟨#[]⟩ An ns cn Ai is ci, p', false, rfl, HD.out.1, HD.out.2.1, HD.out.2.2.1, HD.out.2.2.2, by omega, by rw [row_j]; exact HV.out⟩
      have hI : (is.length : Int) ≤ 24 := by omega
      obtain ⟨m, hm⟩ : ∃ m, 25 - is.length = m + 1 ∧ 25 - (is.length + 1) = m := ⟨24 - is.length, by omega, by omega⟩
      have HMM := Lib.hid hm
      have u4 : wr.cell? ⟨go, 4, none⟩ = some vi := hK.v.cell 4
      obtain ⟨Ai, ci, rfl, _, hci, _⟩ := hK.oi.shape
      by_cases hpl : p' < b.length
      rotate_left
      · have HC := Lib.hid (next_ge r A c b p' false wr hK.rd hcr (by omega) hl)
        have HV : Hid (∀ j, ValIs b left p p' true j) := Lib.hid fun j => ValIs.no (by rw [HVAL.out, ← HJ.out, HMM.out.1, List.drop_of_length_le (by omega), joinM_nil]; first | done | rfl)
        clear hm h25
        go_wp2_with fail
        refine HC.out.mono ?_
        rintro e w3 ⟨rfl, hR3, hC3⟩
        have hK3 := hK.read hC3 hR3
        clear u0 u4 q0 q1 q2 HC hm0 hK hcr
        obtain ⟨An, cn, rfl, _, _, _⟩ := hK3.on.shape
        skip
        obtain ⟨e0, e1, e2, e3, e4⟩ : w3.cell? ⟨go, 0, none⟩ = some (.int .i64 (6)) ∧ w3.cell? ⟨go, 1, none⟩ = some (.int .i64 (0)) ∧ w3.cell? ⟨go, 2, none⟩ = some (.string ⟨#[]⟩) ∧ w3.cell? ⟨go, 3, none⟩ = some (.slice An ns.length cn) ∧ w3.cell? ⟨go, 4, none⟩ = some (.slice Ai is.length ci) := ⟨hK3.v.cell 0, hK3.v.cell 1, hK3.v.cell 2, hK3.v.cell 3, hK3.v.cell 4⟩
        obtain ⟨x0, x1, x2, x3, x4⟩ : w3.cell? ⟨gr, 0, none⟩ = some (.int .i64 0) ∧ w3.cell? ⟨gr, 1, none⟩ = some (.int .i64 0) ∧ w3.cell? ⟨gr, 2, none⟩ = some (.string ⟨#[]⟩) ∧ w3.cell? ⟨gr, 3, none⟩ = some (.slice none 0 0) ∧ w3.cell? ⟨gr, 4, none⟩ = some (.slice none 0 0) := ⟨hK3.res.cell 0, hK3.res.cell 1, hK3.res.cell 2, hK3.res.cell 3, hK3.res.cell 4⟩
        obtain ⟨y0, y1, y2, y3, y4⟩ : w3.frozen? ⟨gr, 0, none⟩ = false ∧ w3.frozen? ⟨gr, 1, none⟩ = false ∧ w3.frozen? ⟨gr, 2, none⟩ = false ∧ w3.frozen? ⟨gr, 3, none⟩ = false ∧ w3.frozen? ⟨gr, 4, none⟩ = false := ⟨hK3.res.free 0, hK3.res.free 1, hK3.res.free 2, hK3.res.free 3, hK3.res.free 4⟩
        obtain ⟨W9, hW9⟩ : ∃ W9, W9 = (((((w3.setCell ⟨gr, 0, none⟩ (.int .i64 (6))).setCell ⟨gr, 1, none⟩ (.int .i64 (0))).setCell ⟨gr, 2, none⟩ (.string ⟨#[]⟩)).setCell ⟨gr, 3, none⟩ (.slice An ns.length cn)).setCell ⟨gr, 4, none⟩ (.slice Ai is.length ci)) := ⟨_, rfl⟩
        have hC9 : Chg w3 W9 (fun k => k = gr) := by rw [hW9]; exact chg_five w3 gr (.int .i64 (6)) (.int .i64 (0)) (.string ⟨#[]⟩) (.slice An ns.length cn) (.slice Ai is.length ci)
        have hZ9 : Blk W9 gr 25 #[.int .i64 (6), .int .i64 (0), .string ⟨#[]⟩, .slice An ns.length cn, .slice Ai is.length ci] := by rw [hW9]; exact hK3.res.five (.int .i64 (6)) (.int .i64 (0)) (.string ⟨#[]⟩) (.slice An ns.length cn) (.slice Ai is.length ci)
        obtain ⟨j0, j1, j2, j3, j4⟩ : W9.cell? ⟨gr, 0, none⟩ = some (.int .i64 (6)) ∧ W9.cell? ⟨gr, 1, none⟩ = some (.int .i64 (0)) ∧ W9.cell? ⟨gr, 2, none⟩ = some (.string ⟨#[]⟩) ∧ W9.cell? ⟨gr, 3, none⟩ = some (.slice An ns.length cn) ∧ W9.cell? ⟨gr, 4, none⟩ = some (.slice Ai is.length ci) := ⟨hZ9.cell 0, hZ9.cell 1, hZ9.cell 2, hZ9.cell 3, hZ9.cell 4⟩
        have hD := KvS.done (k := (6)) (n := (0)) (s := ⟨#[]⟩) (An := An) (ns := ns) (cn := cn) (Ai := Ai) (is := is) (ci := ci) hK3 hC9 (by omega) (by omega) (by decide) hnsz
        have HD := Lib.hid hD
        have HW9 := Lib.hid hW9
        clear hW9 hD
        go_wp2
        rw [← HW9.out]
        exact bodyPost_ret (v := .agg #[.int .i64 (6), .int .i64 (0), .string ⟨#[]⟩, .slice An ns.length cn, .slice Ai is.length ci]) (by simp [results, Tryd.results47, go_sem, j0, j1, j2, j3, j4]) rfl ⟨LV.mk (6) (0) ⟨#[]⟩ An ns cn Ai is ci, p', true, rfl, HD.out.1, HD.out.2.1, HD.out.2.2.1, HD.out.2.2.2, by omega, HV.out _⟩
      obtain ⟨y, hy⟩ : ∃ y, b[p'] = y := ⟨_, rfl⟩
      have HC := Lib.hid (next_lt r A c b p' false wr y hK.rd hcr hpl hl hy)
      have HD := Lib.hid (drop_at hpl hy)
      have hyb : 0 ≤ y ∧ y ≤ 255 := by rw [← hy]; exact hob.at_ (List.getElem?_eq_getElem hpl)
      clear hy hm h25
      by_cases hy0 : y = 0
      · subst hy0
        have HV : Hid (ValIs b left p (p' + 1) false (.mk (6) 0 ⟨#[]⟩ ns (LV.js is))) := Lib.hid (ValIs.yes (by rw [HVAL.out, ← HJ.out, HMM.out.1, HD.out, joinM_end]; first | done | rfl))
        go_wp2_with fail
        refine HC.out.mono ?_
        rintro e w3 ⟨rfl, hR3, hC3⟩
        have hK3 := hK.read hC3 hR3
        clear u0 u4 q0 q1 q2 HC hm0 hK hcr
        obtain ⟨An, cn, rfl, _, _, _⟩ := hK3.on.shape
        skip
        obtain ⟨e0, e1, e2, e3, e4⟩ : w3.cell? ⟨go, 0, none⟩ = some (.int .i64 (6)) ∧ w3.cell? ⟨go, 1, none⟩ = some (.int .i64 (0)) ∧ w3.cell? ⟨go, 2, none⟩ = some (.string ⟨#[]⟩) ∧ w3.cell? ⟨go, 3, none⟩ = some (.slice An ns.length cn) ∧ w3.cell? ⟨go, 4, none⟩ = some (.slice Ai is.length ci) := ⟨hK3.v.cell 0, hK3.v.cell 1, hK3.v.cell 2, hK3.v.cell 3, hK3.v.cell 4⟩
        obtain ⟨x0, x1, x2, x3, x4⟩ : w3.cell? ⟨gr, 0, none⟩ = some (.int .i64 0) ∧ w3.cell? ⟨gr, 1, none⟩ = some (.int .i64 0) ∧ w3.cell? ⟨gr, 2, none⟩ = some (.string ⟨#[]⟩) ∧ w3.cell? ⟨gr, 3, none⟩ = some (.slice none 0 0) ∧ w3.cell? ⟨gr, 4, none⟩ = some (.slice none 0 0) := ⟨hK3.res.cell 0, hK3.res.cell 1, hK3.res.cell 2, hK3.res.cell 3, hK3.res.cell 4⟩
        obtain ⟨y0, y1, y2, y3, y4⟩ : w3.frozen? ⟨gr, 0, none⟩ = false ∧ w3.frozen? ⟨gr, 1, none⟩ = false ∧ w3.frozen? ⟨gr, 2, none⟩ = false ∧ w3.frozen? ⟨gr, 3, none⟩ = false ∧ w3.frozen? ⟨gr, 4, none⟩ = false := ⟨hK3.res.free 0, hK3.res.free 1, hK3.res.free 2, hK3.res.free 3, hK3.res.free 4⟩
        obtain ⟨W9, hW9⟩ : ∃ W9, W9 = (((((w3.setCell ⟨gr, 0, none⟩ (.int .i64 (6))).setCell ⟨gr, 1, none⟩ (.int .i64 (0))).setCell ⟨gr, 2, none⟩ (.string ⟨#[]⟩)).setCell ⟨gr, 3, none⟩ (.slice An ns.length cn)).setCell ⟨gr, 4, none⟩ (.slice Ai is.length ci)) := ⟨_, rfl⟩
        have hC9 : Chg w3 W9 (fun k => k = gr) := by rw [hW9]; exact chg_five w3 gr (.int .i64 (6)) (.int .i64 (0)) (.string ⟨#[]⟩) (.slice An ns.length cn) (.slice Ai is.length ci)
        have hZ9 : Blk W9 gr 25 #[.int .i64 (6), .int .i64 (0), .string ⟨#[]⟩, .slice An ns.length cn, .slice Ai is.length ci] := by rw [hW9]; exact hK3.res.five (.int .i64 (6)) (.int .i64 (0)) (.string ⟨#[]⟩) (.slice An ns.length cn) (.slice Ai is.length ci)
        obtain ⟨j0, j1, j2, j3, j4⟩ : W9.cell? ⟨gr, 0, none⟩ = some (.int .i64 (6)) ∧ W9.cell? ⟨gr, 1, none⟩ = some (.int .i64 (0)) ∧ W9.cell? ⟨gr, 2, none⟩ = some (.string ⟨#[]⟩) ∧ W9.cell? ⟨gr, 3, none⟩ = some (.slice An ns.length cn) ∧ W9.cell? ⟨gr, 4, none⟩ = some (.slice Ai is.length ci) := ⟨hZ9.cell 0, hZ9.cell 1, hZ9.cell 2, hZ9.cell 3, hZ9.cell 4⟩
        have hD := KvS.done (k := (6)) (n := (0)) (s := ⟨#[]⟩) (An := An) (ns := ns) (cn := cn) (Ai := Ai) (is := is) (ci := ci) hK3 hC9 (by omega) (by omega) (by decide) hnsz
        have HD := Lib.hid hD
        have HW9 := Lib.hid hW9
        clear hW9 hD
        go_wp2
        rw [← HW9.out]
        exact bodyPost_ret (v := .agg #[.int .i64 (6), .int .i64 (0), .string ⟨#[]⟩, .slice An ns.length cn, .slice Ai is.length ci]) (by simp [results, Tryd.results47, go_sem, j0, j1, j2, j3, j4]) rfl ⟨LV.mk (6) (0) ⟨#[]⟩ An ns cn Ai is ci, p' + 1, false, rfl, HD.out.1, HD.out.2.1, HD.out.2.2.1, HD.out.2.2.2, by omega, by rw [row_j]; exact HV.out⟩
      have hyf : (y == 0) = false := by rw [beq_eq_false_iff_ne]; exact hy0
      by_cases hy1 : y = 1
      rotate_left
      · have hyn : (y != 1) = true := by rw [bne_iff_ne]; exact hy1
        go_wp2_with fail
        refine HC.out.mono ?_
        rintro e w3 ⟨rfl, hR3, hC3⟩
        have hK3 := hK.read hC3 hR3
        clear u0 u4 q0 q1 q2 HC
        have q2 : w3.cell? ⟨r, 2, none⟩ = some (.bool false) := Blk.cell hK3.rd 2
        have u0 : w3.cell? ⟨go, 0, none⟩ = some (.int .i64 (6)) := hK3.v.cell 0
        have fr2 : w3.frozen? ⟨r, 2, none⟩ = false := Blk.free hK3.rd 2
        obtain ⟨w4, hw4⟩ : ∃ w4, w4 = w3.setCell ⟨r, 2, none⟩ (.bool true) := ⟨_, rfl⟩
        have hC4 : Chg w3 w4 (fun k => k = r) := by rw [hw4]; exact Chg.setCell w3 ⟨r, 2, none⟩ _
        have hR4 : RdAt w4 r A c b (p' + 1) true := by unfold RdAt; rw [hw4]; have := (show Blk w3 r 54 #[.slice A b.length c, .int .i64 ((p' + 1 : Nat) : Int), .bool false] from hK3.rd).set_ 2 (.bool true); simpa using this
        have hK4 := hK3.read hC4 hR4
        have hc4 := hK4.bytes HCB.out
        have HT := Lib.hid (text_read r A c b (p' + 1) true w4.drew (Blk.drew hK4.rd) hc4.drew (by omega) hl)
        have HW4 := Lib.hid hw4
        clear hw4 hc4
        go_upto_region 22 with fail
        rw [← HW4.out]
        clear q2 u0 fr2
        have hK4d := hK4.drew
        go_cut [] (fun wx => ∃ (s : ByteArray) (p2 : Nat) (n2 : Bool) (v7 : Value), TextIs b (p' + 1) true s p2 n2 ∧ KvS w wx gr r go A c b p2 n2 (6) 0 ⟨#[]⟩ v7 (.slice Ai is.length ci) (ns ++ [s]) is)
        case first =>
          obtain ⟨d3, d4⟩ : w4.cell? ⟨go, 3, none⟩ = some vn ∧ w4.frozen? ⟨go, 3, none⟩ = false := ⟨hK4.v.cell 3, hK4.v.free 3⟩
          go_region_law (first
            | (go_simp; go_at_call 59; refine HT.out.mono ?_; rintro e w6 ⟨s, p2, n2, rfl, hti, hR6, hC6⟩; have hK6 := hK4d.read hC6 hR6; obtain ⟨e3, e4⟩ : w6.cell? ⟨go, 3, none⟩ = some vn ∧ w6.frozen? ⟨go, 3, none⟩ = false := ⟨hK6.v.cell 3, hK6.v.free 3⟩; have e5 : ∀ o, (w6.alloc o).cell? ⟨go, 3, none⟩ = some vn := fun o => (hK6.alloc o).v.cell 3)
            | (refine SOwn.step rfl (.tmp 84) (.tmp 87) rfl (go + 1) vn ns ?_ ?_ (w6.heap.size + 1) (some ⟨w6.heap.size, 0, none⟩) 1 1 [s] ?_ ?_ ?_ ?_ ?_ ?_; (first | exact rfl | simp [Act.eval]); (exact hK6.on.alloc _); (first | exact rfl | simp [Act.eval]); (exact rfl); (exact one_text w6 _); (simp; omega); (exact Nat.le_trans hK6.lt (by simp)); intro A9 c9 w9 hO9 hG9; have hv9 := (hK6.alloc _).v.grew (hK6.alloc _).on (Nat.lt_succ_self _) hG9; obtain ⟨g3, g4⟩ : w9.cell? ⟨go, 3, none⟩ = some vn ∧ w9.frozen? ⟨go, 3, none⟩ = false := ⟨hv9.cell 3, hv9.free 3⟩))
          all_goals
            go_wp2_with fail
            go_meet
            exact ⟨s, p2, n2, _, hti, (hK6.alloc (.cells #[.string s] 9)).names hO9 hG9⟩
        case rest =>
          obtain ⟨s, p2, n2, v7, hti, hK7⟩ := hcut
          have HTI := Lib.hid hti
          have hp2 := hti.1
          have hs2 := hti.2.1
          have hnsz2 : ∀ t ∈ ns ++ [s], t.size ≤ 9223372036854775807 := fun t ht => by
            rcases List.mem_append.1 ht with ht | ht
            · exact hnsz t ht
            · rw [List.mem_singleton.1 ht]; omega
          have hm7 := hK7.meas
          have q2 : wc.cell? ⟨r, 2, none⟩ = some (.bool n2) := Blk.cell hK7.rd 2
          clear hti HT
          have hn2 := HTI.out.2.2.1 rfl
          subst hn2
          go_wp2
          go_roundw
          case rel => exact ⟨p2, true, _, _, _, _, hK7, hp2, by omega, by simp; omega, hnsz2, (fun h => by cases h), Lib.hid ⟨(fun h => by cases h), fun _ => by rw [← HJ.out, HMM.out.1, HD.out]; exact joinM_mark hy0 hy1⟩⟩
          case measure => rw [hm7.1, hm7.2, hm0.1, hm0.2]; simp
      subst hy1
      go_wp2_with fail
      refine HC.out.mono ?_
      rintro e w3 ⟨rfl, hR3, hC3⟩
      have hK3 := hK.read hC3 hR3
      clear u0 u4 q0 q1 q2 HC
      have q2 : w3.cell? ⟨r, 2, none⟩ = some (.bool false) := Blk.cell hK3.rd 2
      have u0 : w3.cell? ⟨go, 0, none⟩ = some (.int .i64 (6)) := hK3.v.cell 0
      have fr2 : w3.frozen? ⟨r, 2, none⟩ = false := Blk.free hK3.rd 2
      obtain ⟨w4, hw4⟩ : ∃ w4, w4 = w3.setCell ⟨r, 2, none⟩ (.bool false) := ⟨_, rfl⟩
      have hC4 : Chg w3 w4 (fun k => k = r) := by rw [hw4]; exact Chg.setCell w3 ⟨r, 2, none⟩ _
      have hR4 : RdAt w4 r A c b (p' + 1) false := by unfold RdAt; rw [hw4]; have := (show Blk w3 r 54 #[.slice A b.length c, .int .i64 ((p' + 1 : Nat) : Int), .bool false] from hK3.rd).set_ 2 (.bool false); simpa using this
      have hK4 := hK3.read hC4 hR4
      have hc4 := hK4.bytes HCB.out
      have HT := Lib.hid (text_read r A c b (p' + 1) false w4.drew (Blk.drew hK4.rd) hc4.drew (by omega) hl)
      have HW4 := Lib.hid hw4
      clear hw4 hc4
      go_upto_region 22 with fail
      rw [← HW4.out]
      clear q2 u0 fr2
      have hK4d := hK4.drew
      go_cut [] (fun wx => ∃ (s : ByteArray) (p2 : Nat) (n2 : Bool) (v7 : Value), TextIs b (p' + 1) false s p2 n2 ∧ KvS w wx gr r go A c b p2 n2 (6) 0 ⟨#[]⟩ v7 (.slice Ai is.length ci) (ns ++ [s]) is)
      case first =>
        obtain ⟨d3, d4⟩ : w4.cell? ⟨go, 3, none⟩ = some vn ∧ w4.frozen? ⟨go, 3, none⟩ = false := ⟨hK4.v.cell 3, hK4.v.free 3⟩
        go_region_law (first
          | (go_simp; go_at_call 59; refine HT.out.mono ?_; rintro e w6 ⟨s, p2, n2, rfl, hti, hR6, hC6⟩; have hK6 := hK4d.read hC6 hR6; obtain ⟨e3, e4⟩ : w6.cell? ⟨go, 3, none⟩ = some vn ∧ w6.frozen? ⟨go, 3, none⟩ = false := ⟨hK6.v.cell 3, hK6.v.free 3⟩; have e5 : ∀ o, (w6.alloc o).cell? ⟨go, 3, none⟩ = some vn := fun o => (hK6.alloc o).v.cell 3)
          | (refine SOwn.step rfl (.tmp 84) (.tmp 87) rfl (go + 1) vn ns ?_ ?_ (w6.heap.size + 1) (some ⟨w6.heap.size, 0, none⟩) 1 1 [s] ?_ ?_ ?_ ?_ ?_ ?_; (first | exact rfl | simp [Act.eval]); (exact hK6.on.alloc _); (first | exact rfl | simp [Act.eval]); (exact rfl); (exact one_text w6 _); (simp; omega); (exact Nat.le_trans hK6.lt (by simp)); intro A9 c9 w9 hO9 hG9; have hv9 := (hK6.alloc _).v.grew (hK6.alloc _).on (Nat.lt_succ_self _) hG9; obtain ⟨g3, g4⟩ : w9.cell? ⟨go, 3, none⟩ = some vn ∧ w9.frozen? ⟨go, 3, none⟩ = false := ⟨hv9.cell 3, hv9.free 3⟩))
        all_goals
          go_wp2_with fail
          go_meet
          exact ⟨s, p2, n2, _, hti, (hK6.alloc (.cells #[.string s] 9)).names hO9 hG9⟩
      case rest =>
        obtain ⟨s, p2, n2, v7, hti, hK7⟩ := hcut
        have HTI := Lib.hid hti
        have hp2 := hti.1
        have hs2 := hti.2.1
        have hnsz2 : ∀ t ∈ ns ++ [s], t.size ≤ 9223372036854775807 := fun t ht => by
          rcases List.mem_append.1 ht with ht | ht
          · exact hnsz t ht
          · rw [List.mem_singleton.1 ht]; omega
        have hm7 := hK7.meas
        have q2 : wc.cell? ⟨r, 2, none⟩ = some (.bool n2) := Blk.cell hK7.rd 2
        clear hti HT
        cases n2 with
        | true =>
          go_wp2
          go_roundw
          case rel => exact ⟨p2, true, _, _, _, _, hK7, hp2, by omega, by simp; omega, hnsz2, (fun h => by cases h), Lib.hid ⟨(fun h => by cases h), fun _ => by rw [← HJ.out, HMM.out.1, HD.out]; exact joinM_name (HTI.out.2.2.2.2 rfl rfl)⟩⟩
          case measure => rw [hm7.1, hm7.2, hm0.1, hm0.2]; simp
        | false =>
        obtain ⟨x, hx1, hx2⟩ := HTI.out.2.2.2.1 rfl rfl
        have HX1 := Lib.hid hx1
        have HX2 := Lib.hid hx2
        clear hx1 hx2
        go_upto_region 25 with fail
        have hcz := hK7.bytes HCB.out
        have hKd := hK7.drew
        obtain ⟨d3, d4⟩ : wc.cell? ⟨go, 4, none⟩ = some (.slice Ai is.length ci) ∧ wc.frozen? ⟨go, 4, none⟩ = false := ⟨hK7.v.cell 4, hK7.v.free 4⟩
        go_region_law (first
          | (go_simp; go_at_call 47; refine (HIH.out p2 wc.drew hKd.rd hcz.drew hp2).mono ?_; rintro e w6 ⟨z, p2, n2, he, hz1, hz2, hR6, hC6, hp2, hvi⟩; obtain ⟨kz, nz, sz, Anz, nsz, cnz, Aiz, isz, ciz⟩ := z; have he' := val_agg he; clear he; subst he'; have hK6 := hKd.read hC6 hR6; obtain ⟨e3, e4⟩ : w6.cell? ⟨go, 4, none⟩ = some (.slice Ai is.length ci) ∧ w6.frozen? ⟨go, 4, none⟩ = false := ⟨hK6.v.cell 4, hK6.v.free 4⟩; have e5 : ∀ o, (w6.alloc o).cell? ⟨go, 4, none⟩ = some (.slice Ai is.length ci) := fun o => (hK6.alloc o).v.cell 4)
          | (refine VOwn.step rfl (.tmp 103) (.tmp 108) rfl (go + 1) (.slice Ai is.length ci) is ?_ ?_ (w6.heap.size + 1) (some ⟨w6.heap.size, 0, none⟩) 1 1 [LV.mk kz nz sz Anz nsz cnz Aiz isz ciz] ?_ ?_ ?_ ?_ ?_ ?_; (first | exact rfl | simp [Act.eval]); (exact hK6.oi.alloc _); (first | exact rfl | simp [Act.eval]); (exact rfl); (exact one_val w6 _ _ rfl); (simp; omega); (exact Nat.le_trans hK6.lt (by simp)); intro A9 c9 w9 hO9 hG9; have hv9 := (hK6.alloc _).v.grew (hK6.alloc _).oi (Nat.lt_succ_self _) hG9; obtain ⟨g3, g4⟩ : w9.cell? ⟨go, 4, none⟩ = some (.slice Ai is.length ci) ∧ w9.frozen? ⟨go, 4, none⟩ = false := ⟨hv9.cell 4, hv9.free 4⟩))
        all_goals
          have hVI := Lib.hid hvi
          have hKF := (hK6.alloc (.cells #[.int .i64 kz, .int .i64 nz, .string sz, .slice Anz nsz.length cnz, .slice Aiz isz.length ciz] 25)).items hO9 hG9 (LV.At.below ((Below.refl _ _).alloc (Nat.le_refl _) _) _ hz1) (hKd.off hz2)
          have hm9 := hKF.meas
          go_wp2
          go_roundw
          case rel =>
            refine ⟨p2, n2, _, _, _, _, hKF, hp2, by simp; omega, by simp; omega, hnsz2, by intro _; simp; omega, Lib.hid ⟨fun h => ?_, fun h => ?_⟩⟩
            · rw [js_snoc, List.length_append, List.length_singleton, HMM.out.2]
              rw [← HJ.out, HMM.out.1, HD.out]
              have h2 := hVI.out.1 h
              rw [HX2.out]
              exact (joinM_both HX1.out h2).symm
            · rw [← HJ.out, HMM.out.1, HD.out]
              have h2 := hVI.out.2 h
              exact joinM_item HX1.out h2
          case measure => rw [hm9.1, hm9.2, hm0.1, hm0.2, List.length_append, List.length_singleton]; simp; split <;> omega

theorem value_at (r : Nat) (A : Option Addr) (c : Nat) (b : List Int) (p left : Nat) (w : World) (hR : RdAt w r A c b p false) (hc : Cells w r A (U8 b)) (hp : p < b.length) (hl : b.length ≤ 10000000000000) (hleft : left ≤ 100) (hob : Oct b) (IH : ∀ l, left = l + 1 → ∀ p w, RdAt w r A c b p false → Cells w r A (U8 b) → p ≤ b.length → Calls Tryd.prog 47 #[.pointer (some ⟨r, 0, none⟩), .int .i64 l] w (ValRes w r A c b l p)) : Calls Tryd.prog 47 #[.pointer (some ⟨r, 0, none⟩), .int .i64 left] w (ValRes w r A c b left p) := by
  obtain ⟨C, hx⟩ : ∃ C, b[p] = C := ⟨_, rfl⟩
  have hb : 0 ≤ C ∧ C ≤ 255 := by rw [← hx]; exact hob.at_ (List.getElem?_eq_getElem hp)
  by_cases h7 : 7 < C
  · exact value_bad8 r A c b p left w hR hc hp hl hleft C h7 hb.2 hx
  · have hC : C = 0 ∨ C = 1 ∨ C = 2 ∨ C = 3 ∨ C = 4 ∨ C = 5 ∨ C = 6 ∨ C = 7 := by omega
    rcases hC with rfl | rfl | rfl | rfl | rfl | rfl | rfl | rfl
    · exact value_bad0 r A c b p left w hR hc hp hl hleft hx
    · exact value_leaf1 r A c b p left w hR hc hp hl hleft hx
    · exact value_leaf2 r A c b p left w hR hc hp hl hleft hx
    · exact value_leaf3 r A c b p left w hR hc hp hl hleft hx
    · exact value_int r A c b p left w hR hc hp hl hleft hob hx
    · exact value_str r A c b p left w hR hc hp hl hleft hx
    · exact value_row6 r A c b p left w hR hc hp hl hleft hob hx IH
    · exact value_row7 r A c b p left w hR hc hp hl hleft hob hx IH

theorem value_read (r : Nat) (A : Option Addr) (c : Nat) (b : List Int) (hob : Oct b) (hl : b.length ≤ 10000000000000) : ∀ (left p : Nat) (w : World), left ≤ 100 → RdAt w r A c b p false → Cells w r A (U8 b) → p ≤ b.length → Calls Tryd.prog 47 #[.pointer (some ⟨r, 0, none⟩), .int .i64 left] w (ValRes w r A c b left p) := by
  intro left
  induction left with
  | zero =>
    intro p w hleft hR hc hp
    by_cases hpl : p < b.length
    · exact value_at r A c b p 0 w hR hc hpl hl hleft hob (fun l h => by omega)
    · exact value_end r A c b p 0 w hR hc (by omega) hl hleft
  | succ l ih =>
    intro p w hleft hR hc hp
    by_cases hpl : p < b.length
    · exact value_at r A c b p (l + 1) w hR hc hpl hl hleft hob (fun m h => by obtain rfl : m = l := by omega
                                                                               exact fun p w h1 h2 h3 => ih p w (by omega) h1 h2 h3)
    · exact value_end r A c b p (l + 1) w hR hc (by omega) hl hleft
end Go.Proofs.YtpnbmgfnnmmokaaDoor
