/-
  OrderLists: plain; its walk.
-/
import Derived.Test.YtmobolefijneoaaDoorOe
import Derived.Test.YtmobolefijneoaaDoorOg
import Derived.Test.YtmobolefijneoaaDoorWv
import Derived.Deep.Cut
import Derived.Deep.DeepCutAuto
import Derived.Deep.RegionLaw
set_option linter.unusedVariables false
namespace Go.Proofs.YtmobolefijneoaaDoor
open Go.ChangeShapes Go.WideShapes Go.ChangeAt Go.RowKit Go.Joins Go.Deep

abbrev N8 (l : List Int) : List Value := l.map (Value.int .i64)
def Nums (l : List Int) : Prop := ∀ x ∈ l, -9223372036854775808 ≤ x ∧ x ≤ 9223372036854775807
/-- Numbers that came in. -/
theorem nums_in {H : Type} {enc : TypeId × Value → H} {W : World} {base b0 : Nat} {spare : Nat → Bool} {held : Bool} {r : Reach} {v : Value} {d : DataW H} {p : List MemPlace}
    (hv : Value.okWide Tryd.prog W r b0 37 v) (h : DataW.Trod enc Tryd.prog W base spare held 37 v d p) :
    ∃ (a : Option Addr) (l : List Int) (c : Nat), v = .slice a l.length c ∧ Nums l ∧ l.length ≤ c ∧ c ≤ maxLen ∧ Cells W W.heap.size a (N8 l) := by
  obtain ⟨a, n, c, rfl⟩ := okWide_slice Tryd.underlying37 hv
  obtain ⟨fuel, hf⟩ := h
  rcases open_ints Tryd.underlying37 Tryd.underlying2 (by kernel_rfl) hf with ⟨hcs, _⟩ | ⟨ad, len, cap, zs, hcs, _, hl, hm, hz, _, hcell, hwz⟩
  · simp [Value.cells] at hcs
    obtain ⟨rfl, rfl, rfl⟩ := hcs
    exact ⟨none, [], 0, rfl, (fun x hx => by cases hx), by simp, by simp, Cells.nil⟩
  · simp [Value.cells] at hcs
    obtain ⟨rfl, rfl, rfl⟩ := hcs
    obtain ⟨b, off, spot⟩ := ad
    have hln : n ≤ zs.length := by split at hz <;> omega
    have hz0 : ∀ hn : 0 < n, spot = none := fun hn => by simpa [Addr.add] using World.cell?_spot (hcell 0 (by omega))
    refine ⟨some ⟨b, off, spot⟩, zs.take n, c, by rw [List.length_take, Nat.min_eq_left hln], fun y hy => ?_, by simp; omega, hm, fun k u hu => ?_⟩
    · have := bounds_i64 (hwz y (List.mem_of_mem_take hy))
      omega
    · simp only [N8, List.getElem?_map, List.getElem?_take, Option.map_eq_some_iff] at hu
      obtain ⟨y, hy, rfl⟩ := hu
      split at hy
      · rename_i hk
        have hc := hcell k (by omega)
        have hspot := hz0 (by omega)
        subst hspot
        rw [add_mk] at hc
        refine ⟨b, off, rfl, World.block_lt_of_cell? W _ hc, ?_⟩
        rw [hc, List.getD_eq_getElem?_getD, hy]
        rfl
      · cases hy

/-- The order of rows of numbers. -/
def cmpN : List Int → List Int → Int
  | [], [] => 0
  | [], _ :: _ => -1
  | _ :: _, [] => 1
  | x :: xs, y :: ys => if x < y then -1 else if y < x then 1 else cmpN xs ys
/-- A number as a value. -/
def numV (n : Int) : LV := leafV 3 n ⟨#[]⟩
theorem numV_formed {n : Int} (left : Nat) (h : left ≠ 0) : FormedP (numV n).j left := by
  unfold numV leafV
  rw [LV.j, FormedP]
  exact ⟨h, ⟨by omega, by omega, fun h => absurd rfl h, fun _ => empty_list, text_empty, fun _ => ⟨rfl, rfl⟩, fun _ => ⟨Nat.zero_le _, fun _ => rfl, fun _ => rfl⟩⟩, fun i h => absurd h (by simp), trivial⟩
theorem cmpJ_num (x y : Int) : cmpJ (numV x).j (numV y).j = cmpI x y := by
  unfold numV leafV
  rw [LV.j, LV.j]
  simp only [LV.js]
  rw [cmpJ_low (by omega) (fun _ => empty_list) (fun _ => empty_list) (fun h => absurd rfl h) (fun h => absurd rfl h), if_pos rfl]
theorem rows_nums : ∀ (a b : List Int), rowsJ false (LV.js (a.map numV)) (LV.js (b.map numV)) [] [] = cmpN a b
  | [], [] => rfl
  | [], _ :: _ => rfl
  | _ :: _, [] => rfl
  | x :: xs, y :: ys => by
    rw [List.map_cons, List.map_cons, LV.js, LV.js, rowsJ, cmpN, cmpJ_num]
    have e : nameC false (([] : List ByteArray).headD ⟨#[]⟩) (([] : List ByteArray).headD ⟨#[]⟩) = 0 := rfl
    rw [if_neg (by rw [e]; simp), List.tail_nil, rows_nums xs ys]
    rcases cmpI_cases x y with ⟨h1, h2⟩ | ⟨h1, h2⟩ | ⟨h1, h2⟩
    · rw [h2, if_pos (by omega), if_pos h1]
    · rw [h2, if_pos (by omega), if_neg (by omega), if_pos h1]
    · rw [h2, if_neg (by omega), if_neg (by omega), if_neg (by omega)]
/-- An array of numbers as a value. -/
def arrV (A : Option Addr) (l : List Int) (c : Nat) : LV := .mk 5 0 ⟨#[]⟩ none [] 0 A (l.map numV) c
theorem arr_formed {A : Option Addr} {l : List Int} {c : Nat} (hl : l.length ≤ 24) : FormedP (arrV A l c).j 6 := by
  unfold arrV
  rw [LV.j, FormedP]
  refine ⟨by omega, ⟨by omega, by omega, fun _ => rfl, fun _ => empty_list, text_empty, fun h => absurd h (by omega), fun _ => ⟨by rw [LV.js_len]; simpa using hl, fun h => absurd h (by omega), fun _ => rfl⟩⟩, fun i h => absurd h (by simp), ?_⟩
  rw [formedAll_iff, LV.js_map]
  intro x hx
  simp only [List.mem_map] at hx
  obtain ⟨v, ⟨n, _, rfl⟩, rfl⟩ := hx
  exact numV_formed _ (by omega)
theorem cmpX_arr {A B : Option Addr} {a b : List Int} {c d : Nat} (ha : a.length ≤ 24) (hb : b.length ≤ 24) : cmpX (arrV A a c).j (arrV B b d).j = cmpN a b := by
  rw [cmpX, if_pos ⟨arr_formed ha, arr_formed hb⟩]
  unfold arrV
  rw [LV.j, LV.j, cmpJ_rows empty_list empty_list]
  exact rows_nums a b
theorem arr_at {w : World} {A : Option Addr} {l : List Int} {c : Nat} (hn : Nums l) (hc : Cells w w.heap.size A ((l.map numV).flatMap LV.cells)) (hl : l.length ≤ c ∧ c ≤ 9223372036854775807) : (arrV A l c).At w := by
  unfold arrV LV.At
  refine ⟨Cells.nil, hc, LV.allAt.2 fun x hx => ?_, by omega, by omega, by decide, by simp, ⟨Nat.le_refl _, Nat.zero_le _⟩, by simpa using hl⟩
  obtain ⟨n, hn', rfl⟩ := List.mem_map.1 hx
  exact leaf_at w (by omega) (hn n hn') (by decide)
theorem cmpN_step {a b : List Int} {q : Nat} (h : q < a.length) (h2 : q < b.length) : cmpN (a.drop q) (b.drop q) = if a[q] < b[q] then -1 else if b[q] < a[q] then 1 else cmpN (a.drop (q + 1)) (b.drop (q + 1)) := by
  rw [List.drop_eq_getElem_cons h, List.drop_eq_getElem_cons h2, cmpN]
theorem cmpN_end {a b : List Int} {q : Nat} (h : q ≤ a.length) (h2 : q ≤ b.length) (he : q = a.length ∨ q = b.length) : cmpN (a.drop q) (b.drop q) = if a.length < b.length then -1 else if b.length < a.length then 1 else 0 := by
  have h1 : (a.drop q).length = a.length - q := List.length_drop
  have h2 : (b.drop q).length = b.length - q := List.length_drop
  generalize a.drop q = x at *
  generalize b.drop q = y at *
  rcases x with _ | ⟨x, xs⟩ <;> rcases y with _ | ⟨y, ys⟩ <;> simp only [List.length_nil, List.length_cons, cmpN] at *
  · rw [if_neg (by omega), if_neg (by omega)]
  · rw [if_pos (by omega)]
  · rw [if_neg (by omega), if_pos (by omega)]
  · omega
/-- What is wanted so far. -/
def WantIs (X t N : Int) : Prop := (t = 0 ∧ N = X) ∨ (t ≠ 0 ∧ X = t)
theorem num_row (l : List Int) (q : Nat) (h : q < l.length) : (l.take q).map numV ++ [numV l[q]] = (l.take (q + 1)).map numV := by
  rw [List.take_succ_eq_append_getElem h, List.map_append]; rfl
/-- An array under construction. -/
def ArrB (v : Value) : Array Value := #[.int .i64 5, .int .i64 0, .string ⟨#[]⟩, .slice none 0 0, v]
theorem ArrB.set (v v2 : Value) : (ArrB v).setIfInBounds 4 v2 = ArrB v2 := by simp [ArrB]
/-- Both arrays. -/
structure TwoA (w wr : World) (gx : Nat) (v v2 : Value) (l l2 : List Int) : Prop where
  x : Blk wr gx 25 (ArrB v)
  y : Blk wr (gx + 1) 25 (ArrB v2)
  ox : VOwn wr (gx + 2) v (l.map numV)
  oy : VOwn wr (gx + 2) v2 (l2.map numV)
  ne : v.ownBlock = none ∨ v2.ownBlock = none ∨ v.ownBlock ≠ v2.ownBlock
  le : w.heap.size ≤ gx
  lt : gx + 2 ≤ wr.heap.size
  b : Below w.heap.size w wr
theorem num_cells (w : World) (n : Int) : Cells (w.alloc (.cells #[.int .i64 3, .int .i64 n, .string ⟨#[]⟩, .slice none 0 0, .slice none 0 0] 25)) (w.heap.size + 1) (some ⟨w.heap.size, 0, none⟩) ([numV n].flatMap LV.cells) := by
  have h := cells_blk w #[.int .i64 3, .int .i64 n, .string ⟨#[]⟩, .slice none 0 0, .slice none 0 0] 25
  exact h
/-- One number more for the first one. -/
theorem TwoA.next {w wr w2 : World} {gx : Nat} {v v2 v3 : Value} {l l2 l3 : List Int} (h : TwoA w wr gx v v2 l l2) (hO : VOwn w2 (gx + 2) v3 (l3.map numV)) (hG : Grew wr v w2 v3) : TwoA w (w2.setCell ⟨gx, 4, none⟩ v3) gx v3 v2 l3 l2 := by
  have hx : Blk w2 gx 25 (ArrB v) := h.x.grew h.ox (by omega) hG
  have hy : Blk w2 (gx + 1) 25 (ArrB v2) := h.y.grew h.ox (by omega) hG
  have hne : v3.ownBlock = none ∨ v2.ownBlock = none ∨ v3.ownBlock ≠ v2.ownBlock := by
    rcases h2 : v2.ownBlock with _ | g2
    · exact .inr (.inl rfl)
    · have hl2 := (h.oy.lt g2 h2).2
      rcases hG.at_ with e | e
      · rcases h.ne with a | a | a
        · exact .inl (e.trans a)
        · rw [h2] at a; cases a
        · exact .inr (.inr (by rw [e, ← h2]; exact a))
      · refine .inr (.inr fun e2 => ?_)
        have := e g2 e2
        omega
  have hoy : VOwn w2 (gx + 2) v2 (l2.map numV) := owns_grown h.oy hG.by_ (by
    rcases h.ne with a | a | a
    · rcases h2 : v2.ownBlock with _ | g2
      · exact .inl rfl
      · exact .inr (by rw [a]; simp)
    · exact .inl a
    · exact .inr fun e => a e.symm)
  have hB := h.b.trans ((grew_below h.ox h.lt hG).mono (by have := h.le; omega))
  refine ⟨?_, hy.far (by show gx + 1 ≠ gx; omega) _, owns_store hO (by omega) _ _, owns_store hoy (by omega) _ _, hne, h.le, by rw [World.setCell]; simp; exact Nat.le_trans h.lt hG.by_.size, hB.setCell (p := ⟨gx, 4, none⟩) h.le _⟩
  have := hx.set_ 4 v3
  rwa [ArrB.set] at this
/-- One number more for the second one. -/
theorem TwoA.next2 {w wr w2 : World} {gx : Nat} {v v2 v3 : Value} {l l2 l3 : List Int} (h : TwoA w wr gx v v2 l l2) (hO : VOwn w2 (gx + 2) v3 (l3.map numV)) (hG : Grew wr v2 w2 v3) : TwoA w (w2.setCell ⟨gx + 1, 4, none⟩ v3) gx v v3 l l3 := by
  have hx : Blk w2 gx 25 (ArrB v) := h.x.grew h.oy (by omega) hG
  have hy : Blk w2 (gx + 1) 25 (ArrB v2) := h.y.grew h.oy (by omega) hG
  have hne : v.ownBlock = none ∨ v3.ownBlock = none ∨ v.ownBlock ≠ v3.ownBlock := by
    rcases h2 : v.ownBlock with _ | g2
    · exact .inl rfl
    · have hl2 := (h.ox.lt g2 h2).2
      rcases hG.at_ with e | e
      · rcases h.ne with a | a | a
        · rw [h2] at a; cases a
        · exact .inr (.inl (e.trans a))
        · exact .inr (.inr (by rw [e, ← h2]; exact a))
      · refine .inr (.inr fun e2 => ?_)
        have := e g2 e2.symm
        omega
  have hox : VOwn w2 (gx + 2) v (l.map numV) := owns_grown h.ox hG.by_ (by
    rcases h.ne with a | a | a
    · exact .inl a
    · rcases h2 : v.ownBlock with _ | g2
      · exact .inl rfl
      · exact .inr (by rw [a]; simp)
    · exact .inr a)
  have hB := h.b.trans ((grew_below h.oy h.lt hG).mono (by have := h.le; omega))
  refine ⟨hx.far (by show gx ≠ gx + 1; omega) _, ?_, owns_store hox (by omega) _ _, owns_store hO (by omega) _ _, hne, h.le, by rw [World.setCell]; simp; exact Nat.le_trans h.lt hG.by_.size, hB.setCell (p := ⟨gx + 1, 4, none⟩) (by show w.heap.size ≤ gx + 1; have := h.le; omega) _⟩
  have := hy.set_ 4 v3
  rwa [ArrB.set] at this
theorem TwoA.undrew {w wr : World} {gx : Nat} {v v2 : Value} {l l2 : List Int} {w2 : World} {p : Addr} {u : Value} (h : TwoA w (w2.setCell p u) gx v v2 l l2) : TwoA w (w2.setCell p u) gx v v2 l l2 := h
theorem TwoA.alloc {w wr : World} {gx : Nat} {v v2 : Value} {l l2 : List Int} (h : TwoA w wr gx v v2 l l2) (o : Obj) : TwoA w (wr.alloc o) gx v v2 l l2 :=
  ⟨h.x.alloc o, h.y.alloc o, h.ox.alloc o, h.oy.alloc o, h.ne, h.le, by have := h.lt; simp; omega, h.b.alloc h.b.size o⟩
theorem TwoA.drew {w wr : World} {gx : Nat} {v v2 : Value} {l l2 : List Int} (h : TwoA w wr gx v v2 l l2) : TwoA w wr.drew gx v v2 l l2 :=
  ⟨h.x.drew, h.y.drew, h.ox.drew, h.oy.drew, h.ne, h.le, h.lt, h.b.drew⟩

set_option maxRecDepth 8000 in
set_option maxHeartbeats 16000000 in
theorem lists_walk (A : Option Addr) (a : List Int) (c : Nat) (A2 : Option Addr) (b : List Int) (c2 : Nat) (w : World) (hT : Tabs w) (ha : Nums a ∧ a.length ≤ c ∧ c ≤ maxLen ∧ Cells w w.heap.size A (N8 a)) (hb : Nums b ∧ b.length ≤ c2 ∧ c2 ≤ maxLen ∧ Cells w w.heap.size A2 (N8 b)) :
    Calls Tryd.prog 6 #[.slice A a.length c, .slice A2 b.length c2] w fun e w' => e = .returned (.bool true) ∧ Below w.heap.size w w' := by
  unfold maxLen at ha hb
  obtain ⟨hna, ha1, ha2, hca⟩ := ha
  obtain ⟨hnb, hb1, hb2, hcb⟩ := hb
  have HTW := Lib.hid hT
  have HAW : Hid (∀ w1, Below w.heap.size w w1 → Calls Tryd.prog 9 #[] w1 fun e w' => e = .returned (.bool true) ∧ Below w1.heap.size w1 w') := Lib.hid fun w1 hb => awake03_any w1 (HTW.out.below hb)
  have HNA := Lib.hid hna
  have HNB := Lib.hid hnb
  clear hT hna hnb
  go_enter Tryd.func6, Tryd.ntmps6
  go_wp2_with fail
  refine (HAW.out w (Below.refl _ _)).mono ?_
  rintro e w1 ⟨rfl, hw1⟩
  by_cases h24 : 24 < a.length
  · have h24I : (24 : Int) < (a.length : Int) := by omega
    go_wp2_with fail
    refine (HAW.out w1 hw1).mono ?_
    rintro e w2 ⟨rfl, hw2⟩
    go_wp2
    go_ret
    exact ⟨rfl, hw1.trans (hw2.mono hw1.size)⟩
  have h24I : ¬ (24 : Int) < (a.length : Int) := by omega
  by_cases g24 : 24 < b.length
  · have g24I : (24 : Int) < (b.length : Int) := by omega
    go_wp2_with fail
    refine (HAW.out w1 hw1).mono ?_
    rintro e w2 ⟨rfl, hw2⟩
    go_wp2
    go_ret
    exact ⟨rfl, hw1.trans (hw2.mono hw1.size)⟩
  have g24I : ¬ (24 : Int) < (b.length : Int) := by omega
  go_wp2
  go_loopw [7] (fun i wr => ∃ (q : Nat) (v : Value), i = .int .i64 q ∧ q ≤ a.length ∧ TwoA w wr w1.heap.size v (.slice none 0 0) (a.take q) []) (fun i _ => a.length - (RowKit.intOf i).toNat)
  case atStart =>
    refine ⟨0, .slice none 0 0, rfl, Nat.zero_le _, ⟨(Blk.new w1 _ _).alloc _, Blk.second w1 _ _ _, VOwn.nil _ _, VOwn.nil _ _, .inl rfl, hw1.size, by simp, (hw1.alloc hw1.size _).alloc (by have := hw1.size; simp; omega) _⟩⟩
  case round =>
    obtain ⟨q, v, rfl, hq, hA⟩ := hrel
    generalize w1.heap.size = gx at *
    by_cases hlt : q < a.length
    · have hqI : (q : Int) < (a.length : Int) := by omega
      have hq0 : (0 : Int) ≤ (q : Int) := by omega
      obtain ⟨b0, off, rfl, hb0, hx⟩ := (hca.below hA.b) q (.int .i64 a[q]) (by rw [N8, List.getElem?_map, List.getElem?_eq_getElem hlt]; rfl)
      have lS := hA.b.size
      have q1 : wr.cell? ⟨gx, 4, none⟩ = some v := hA.x.cell 4
      have z1 := hA.x.free 4
      have q1' : ∀ o, (wr.alloc o).cell? ⟨gx, 4, none⟩ = some v := fun o => (hA.x.alloc o).cell 4
      have hx' : ∀ o, (wr.alloc o).cell? ⟨b0, off + q, none⟩ = some (.int .i64 a[q]) := fun o => (World.cell?_alloc_lt wr o _ (by show b0 < _; omega)).trans hx
      have hnr := num_row a q hlt
      obtain ⟨x, hxx⟩ : ∃ x, a[q] = x := ⟨_, rfl⟩
      rw [hxx] at hx hnr
      simp only [hxx] at hx'
      have hln : ((a.take q).map numV).length ≤ 24 := by simp; omega
      obtain ⟨is, his⟩ : ∃ is, is = (a.take q).map numV := ⟨_, rfl⟩
      have hO := hA.ox
      rw [← his] at hO hln hnr
      have HNR := Lib.hid hnr
      have hlS := hA.lt
      clear hxx hnr his
      go_upto_region 7 with fail
      go_region_law (refine VOwn.step rfl (.tmp 33) (.tmp 39) rfl (gx + 2) v is ?_ ?_ (wr.heap.size + 1) (some ⟨wr.heap.size, 0, none⟩) 1 1 [numV x] ?_ ?_ ?_ ?_ ?_ ?_; (simp [Act.eval]); (exact (hO.alloc _).drew); (simp [Act.eval]); (rfl); (exact (num_cells wr x).drew); (show is.length + 1 ≤ _; omega); (simp; omega); intro A9 c9 w9 hown9 hg9; have hK9 := (hA.x.alloc (.cells #[.int .i64 3, .int .i64 x, .string ⟨#[]⟩, .slice none 0 0, .slice none 0 0] 25)).drew.grew (hO.alloc (.cells #[.int .i64 3, .int .i64 x, .string ⟨#[]⟩, .slice none 0 0, .slice none 0 0] 25)).drew (by omega) hg9; have q9 : w9.cell? ⟨gx, 4, none⟩ = some v := hK9.cell 4; have z9 := hK9.free 4)
      all_goals
        have hown8 : VOwn w9 (gx + 2) (.slice A9 (is.length + 1) c9) ((a.take (q + 1)).map numV) := by rw [← HNR.out]; exact hown9
        have hN := ((hA.alloc (.cells #[.int .i64 3, .int .i64 x, .string ⟨#[]⟩, .slice none 0 0, .slice none 0 0] 25)).drew).next hown8 hg9
        clear q1 z1 q1' hx hx' hO hown9 hg9 hK9 q9 z9
        go_wp2
        go_roundw
        case rel => exact ⟨q + 1, _, by go_num, by omega, hN⟩
        case measure => simp [RowKit.intOf]; omega
    · have hqI : ¬ (q : Int) < (a.length : Int) := by omega
      have hA0 : TwoA w wr gx v (.slice none 0 0) a [] := by rw [List.take_of_length_le (by omega)] at hA; exact hA
      clear hA
      go_wp2
      go_loopw [8] (fun i wr => ∃ (q : Nat) (v2 : Value), i = .int .i64 q ∧ q ≤ b.length ∧ TwoA w wr gx v v2 a (b.take q)) (fun i _ => b.length - (RowKit.intOf i).toNat)
      case atStart => exact ⟨0, .slice none 0 0, rfl, Nat.zero_le _, hA0⟩
      case round =>
        clear hA0 hlt hqI hq
        obtain ⟨q, v2, rfl, hq, hA⟩ := hrel
        by_cases hlt : q < b.length
        · have hqI : (q : Int) < (b.length : Int) := by omega
          have hq0 : (0 : Int) ≤ (q : Int) := by omega
          obtain ⟨b0, off, rfl, hb0, hx⟩ := (hcb.below hA.b) q (.int .i64 b[q]) (by rw [N8, List.getElem?_map, List.getElem?_eq_getElem hlt]; rfl)
          have lS := hA.b.size
          have q1 : wr.cell? ⟨gx + 1, 4, none⟩ = some v2 := hA.y.cell 4
          have z1 := hA.y.free 4
          have q1' : ∀ o, (wr.alloc o).cell? ⟨gx + 1, 4, none⟩ = some v2 := fun o => (hA.y.alloc o).cell 4
          have hx' : ∀ o, (wr.alloc o).cell? ⟨b0, off + q, none⟩ = some (.int .i64 b[q]) := fun o => (World.cell?_alloc_lt wr o _ (by show b0 < _; omega)).trans hx
          have hnr := num_row b q hlt
          obtain ⟨x, hxx⟩ : ∃ x, b[q] = x := ⟨_, rfl⟩
          rw [hxx] at hx hnr
          simp only [hxx] at hx'
          have hln : ((b.take q).map numV).length ≤ 24 := by simp; omega
          obtain ⟨is, his⟩ : ∃ is, is = (b.take q).map numV := ⟨_, rfl⟩
          have hO := hA.oy
          rw [← his] at hO hln hnr
          have HNR := Lib.hid hnr
          have hlS := hA.lt
          clear hxx hnr his
          go_upto_region 11 with fail
          go_region_law (refine VOwn.step rfl (.tmp 49) (.tmp 55) rfl (gx + 2) v2 is ?_ ?_ (wr.heap.size + 1) (some ⟨wr.heap.size, 0, none⟩) 1 1 [numV x] ?_ ?_ ?_ ?_ ?_ ?_; (simp [Act.eval]); (exact (hO.alloc _).drew); (simp [Act.eval]); (rfl); (exact (num_cells wr x).drew); (show is.length + 1 ≤ _; omega); (simp; omega); intro A9 c9 w9 hown9 hg9; have hK9 := (hA.y.alloc (.cells #[.int .i64 3, .int .i64 x, .string ⟨#[]⟩, .slice none 0 0, .slice none 0 0] 25)).drew.grew (hO.alloc (.cells #[.int .i64 3, .int .i64 x, .string ⟨#[]⟩, .slice none 0 0, .slice none 0 0] 25)).drew (by omega) hg9; have q9 : w9.cell? ⟨gx + 1, 4, none⟩ = some v2 := hK9.cell 4; have z9 := hK9.free 4)
          all_goals
            have hown8 : VOwn w9 (gx + 2) (.slice A9 (is.length + 1) c9) ((b.take (q + 1)).map numV) := by rw [← HNR.out]; exact hown9
            have hN := ((hA.alloc (.cells #[.int .i64 3, .int .i64 x, .string ⟨#[]⟩, .slice none 0 0, .slice none 0 0] 25)).drew).next2 hown8 hg9
            clear q1 z1 q1' hx hx' hO hown9 hg9 hK9 q9 z9
            go_wp2
            go_roundw
            case rel => exact ⟨q + 1, _, by go_num, by omega, hN⟩
            case measure => simp [RowKit.intOf]; omega
        · have hqI : ¬ (q : Int) < (b.length : Int) := by omega
          have hA0 : TwoA w wr gx v v2 a b := by rw [List.take_of_length_le (by omega : b.length ≤ q)] at hA; exact hA
          have hcaW := hca.below hA0.b
          have hcbW := hcb.below hA0.b
          have hAH := Lib.hid hA0
          obtain ⟨X, hX⟩ : ∃ X, cmpN a b = X := ⟨_, rfl⟩
          have HX := Lib.hid hX
          obtain ⟨Ax, cx, rfl, hx1, hx2, hxc⟩ := hA0.ox.shape
          obtain ⟨Ay, cy, rfl, hy1, hy2, hyc⟩ := hA0.oy.shape
          unfold maxLen at hx2 hy2
          have hva : (arrV Ax a cx).At wr := arr_at HNA.out hxc ⟨by simpa using hx1, by omega⟩
          have hvb : (arrV Ay b cy).At wr := arr_at HNB.out hyc ⟨by simpa using hy1, by omega⟩
          have HCMP : Hid (∀ w', Below wr.heap.size wr w' → Calls Tryd.prog 11 #[.agg #[.int .i64 5, .int .i64 0, .string ⟨#[]⟩, .slice none 0 0, .slice Ax (a.map numV).length cx], .agg #[.int .i64 5, .int .i64 0, .string ⟨#[]⟩, .slice none 0 0, .slice Ay (b.map numV).length cy]] w' fun e w'' => e = .returned (.int .i64 X) ∧ Below w'.heap.size w' w'') := Lib.hid fun w' hb => by
            have := oCompare_any (arrV Ax a cx) (arrV Ay b cy) w' (HTW.out.below (hA0.b.trans (hb.mono hA0.b.size))) (hva.below hb _) (hvb.below hb _)
            rw [cmpX_arr (by omega) (by omega), hX] at this
            exact this
          have hB3 := hA0.b
          obtain ⟨c0, c1, c2', c3, c4⟩ : wr.cell? ⟨gx, 0, none⟩ = some (.int .i64 5) ∧ wr.cell? ⟨gx, 1, none⟩ = some (.int .i64 0) ∧ wr.cell? ⟨gx, 2, none⟩ = some (.string ⟨#[]⟩) ∧ wr.cell? ⟨gx, 3, none⟩ = some (.slice none 0 0) ∧ wr.cell? ⟨gx, 4, none⟩ = some (.slice Ax (a.map numV).length cx) := ⟨hA0.x.cell 0, hA0.x.cell 1, hA0.x.cell 2, hA0.x.cell 3, hA0.x.cell 4⟩
          obtain ⟨d0, d1, d2', d3, d4⟩ : wr.cell? ⟨gx + 1, 0, none⟩ = some (.int .i64 5) ∧ wr.cell? ⟨gx + 1, 1, none⟩ = some (.int .i64 0) ∧ wr.cell? ⟨gx + 1, 2, none⟩ = some (.string ⟨#[]⟩) ∧ wr.cell? ⟨gx + 1, 3, none⟩ = some (.slice none 0 0) ∧ wr.cell? ⟨gx + 1, 4, none⟩ = some (.slice Ay (b.map numV).length cy) := ⟨hA0.y.cell 0, hA0.y.cell 1, hA0.y.cell 2, hA0.y.cell 3, hA0.y.cell 4⟩
          clear hx1 hx2 hxc hy1 hy2 hyc hva hvb hAH
          generalize (a.map numV).length = La at *
          generalize (b.map numV).length = Lb at *
          clear hA hA0 hlt hq hca hcb hX
          go_wp2
          clear hqI
          generalize wr = W3 at *
          go_loopw [9, 10] (fun x i wr => ∃ (q n : Nat) (t : Int), x = .int .i64 t ∧ i = .int .i64 q ∧ q ≤ a.length ∧ q ≤ b.length ∧ Hid (WantIs X t (cmpN (a.drop q) (b.drop q))) ∧ Hid ((t = -1 ∨ t = 0 ∨ t = 1)) ∧ wr = W3.drewN n) (fun _ i _ => a.length - (RowKit.intOf i).toNat)
          case atStart => exact ⟨0, 0, 0, rfl, rfl, Nat.zero_le _, Nat.zero_le _, Lib.hid (.inl ⟨rfl, HX.out⟩), Lib.hid (.inr (.inl rfl)), rfl⟩
          case round =>
            obtain ⟨q, n, t, rfl, rfl, hq, hq2, HR, HT, rfl⟩ := hrel
            by_cases hlt : q < a.length ∧ q < b.length ∧ t = 0
            · obtain ⟨k1, k2, rfl⟩ := hlt
              have hqI : (q : Int) < (a.length : Int) := by omega
              have hqJ : (q : Int) < (b.length : Int) := by omega
              have hq0 : (0 : Int) ≤ (q : Int) := by omega
              have HE : Hid (cmpN (a.drop q) (b.drop q) = X) := Lib.hid (by rcases HR.out with h | h; exact h.2; exact absurd rfl h.1)
              obtain ⟨b1, o1, rfl, _, hx⟩ := hcaW q (.int .i64 a[q]) (by rw [N8, List.getElem?_map, List.getElem?_eq_getElem k1]; rfl)
              obtain ⟨b2, o2, rfl, _, hy⟩ := hcbW q (.int .i64 b[q]) (by rw [N8, List.getElem?_map, List.getElem?_eq_getElem k2]; rfl)
              have HE2 : Hid ((if a[q] < b[q] then -1 else if b[q] < a[q] then 1 else cmpN (a.drop (q + 1)) (b.drop (q + 1))) = X) := Lib.hid (by rw [← HE.out, cmpN_step k1 k2])
              clear HE HR HT
              generalize a[q] = x at *
              generalize b[q] = y at *
              by_cases g1 : x < y
              · have hd : decide (x < y) = true := by simpa using g1
                have HN : Hid (WantIs X (-1) (cmpN (a.drop (q + 1)) (b.drop (q + 1)))) := Lib.hid (.inr ⟨by decide, by rw [← HE2.out, if_pos g1]⟩)
                clear HE2 g1
                go_wp2
                go_quiet (fail)
                go_wp2
                go_roundw
                case rel => exact ⟨q + 1, _, -1, rfl, by go_num, by omega, by omega, HN, Lib.hid (.inl rfl), rfl⟩
                case measure => simp [RowKit.intOf]; omega
              · have hd : decide (x < y) = false := by simpa using g1
                by_cases g2 : y < x
                · have hd2 : decide (y < x) = true := by simpa using g2
                  have HN : Hid (WantIs X (1) (cmpN (a.drop (q + 1)) (b.drop (q + 1)))) := Lib.hid (.inr ⟨by decide, by rw [← HE2.out, if_neg g1, if_pos g2]⟩)
                  clear HE2 g1 g2
                  go_wp2
                  go_quiet (fail)
                  go_wp2
                  go_quiet (fail)
                  go_wp2
                  go_roundw
                  case rel => exact ⟨q + 1, _, 1, rfl, by go_num, by omega, by omega, HN, Lib.hid (.inr (.inr rfl)), rfl⟩
                  case measure => simp [RowKit.intOf]; omega
                · have hd2 : decide (y < x) = false := by simpa using g2
                  have HN : Hid (WantIs X (0) (cmpN (a.drop (q + 1)) (b.drop (q + 1)))) := Lib.hid (.inl ⟨rfl, by rw [← HE2.out, if_neg g1, if_neg g2]⟩)
                  clear HE2 g1 g2
                  go_wp2
                  go_quiet (fail)
                  go_wp2
                  go_quiet (fail)
                  go_wp2
                  go_roundw
                  case rel => exact ⟨q + 1, _, 0, rfl, by go_num, by omega, by omega, HN, Lib.hid (.inr (.inl rfl)), rfl⟩
                  case measure => simp [RowKit.intOf]; omega
            · have HQ : Hid (t = 0 → X = if a.length < b.length then -1 else if b.length < a.length then 1 else 0) := Lib.hid fun ht => by
                rcases HR.out with h | h
                · rw [← h.2]
                  refine cmpN_end hq hq2 ?_
                  rcases Nat.lt_or_ge q a.length with k1 | k1
                  · rcases Nat.lt_or_ge q b.length with k2 | k2
                    · exact absurd ⟨k1, k2, ht⟩ hlt
                    · exact .inr (by omega)
                  · exact .inl (by omega)
                · exact absurd ht h.1
              have HQ2 : Hid (t ≠ 0 → X = t) := Lib.hid fun ht => by
                rcases HR.out with h | h
                · exact absurd h.1 ht
                · exact h.2
              have HLT := Lib.hid hlt
              have hbd : Below W3.heap.size W3 (W3.drewN n) := ⟨rfl, rfl, rfl, Nat.le_refl _, fun _ _ => rfl⟩
              clear hlt HR
              rcases HT.out with rfl | rfl | rfl
              · have HE : Hid (X = -1) := Lib.hid (HQ2.out (by decide))
                clear HQ HQ2 HT HLT
                rcases Nat.lt_or_ge q a.length with k1 | k1
                · have k1I : (q : Int) < (a.length : Int) := by omega
                  rcases Nat.lt_or_ge q b.length with k2 | k2
                  · have k2I : (q : Int) < (b.length : Int) := by omega
                    go_wp2_with fail
                    (with_reducible refine (HCMP.out _ hbd).mono ?_)
                    rintro e w5 ⟨rfl, hb5⟩
                    go_wp2
                    go_ret
                    exact ⟨by rw [HE.out] <;> rfl, hB3.trans ((hbd.trans (hb5.mono hbd.size)).mono hB3.size)⟩
                  · have k2I : ¬ (q : Int) < (b.length : Int) := by omega
                    go_wp2_with fail
                    (with_reducible refine (HCMP.out _ hbd).mono ?_)
                    rintro e w5 ⟨rfl, hb5⟩
                    go_wp2
                    go_ret
                    exact ⟨by rw [HE.out] <;> rfl, hB3.trans ((hbd.trans (hb5.mono hbd.size)).mono hB3.size)⟩
                · have k1I : ¬ (q : Int) < (a.length : Int) := by omega
                  rcases Nat.lt_or_ge q b.length with k2 | k2
                  · have k2I : (q : Int) < (b.length : Int) := by omega
                    go_wp2_with fail
                    (with_reducible refine (HCMP.out _ hbd).mono ?_)
                    rintro e w5 ⟨rfl, hb5⟩
                    go_wp2
                    go_ret
                    exact ⟨by rw [HE.out] <;> rfl, hB3.trans ((hbd.trans (hb5.mono hbd.size)).mono hB3.size)⟩
                  · have k2I : ¬ (q : Int) < (b.length : Int) := by omega
                    go_wp2_with fail
                    (with_reducible refine (HCMP.out _ hbd).mono ?_)
                    rintro e w5 ⟨rfl, hb5⟩
                    go_wp2
                    go_ret
                    exact ⟨by rw [HE.out] <;> rfl, hB3.trans ((hbd.trans (hb5.mono hbd.size)).mono hB3.size)⟩
              · have HZ := Lib.hid (HQ.out rfl)
                have hend : ¬ (q < a.length ∧ q < b.length) := fun h => HLT.out ⟨h.1, h.2, rfl⟩
                clear HQ HQ2 HT HLT
                rcases Nat.lt_trichotomy a.length b.length with k | k | k
                · have HE : Hid (X = -1) := Lib.hid (by rw [HZ.out, if_pos k])
                  have kI : (a.length : Int) < (b.length : Int) := by omega
                  have k1I : ¬ (q : Int) < (a.length : Int) := by omega
                  clear HZ
                  go_wp2_with fail
                  (with_reducible refine (HCMP.out _ hbd).mono ?_)
                  rintro e w5 ⟨rfl, hb5⟩
                  go_wp2
                  go_ret
                  exact ⟨by rw [HE.out] <;> rfl, hB3.trans ((hbd.trans (hb5.mono hbd.size)).mono hB3.size)⟩
                · have HE : Hid (X = 0) := Lib.hid (by rw [HZ.out, if_neg (by omega), if_neg (by omega)])
                  have kI : ¬ (a.length : Int) < (b.length : Int) := by omega
                  have kJ : ¬ (b.length : Int) < (a.length : Int) := by omega
                  have k1I : ¬ (q : Int) < (a.length : Int) := by omega
                  have HK := Lib.hid k
                  clear HZ k
                  go_wp2_with fail
                  (with_reducible refine (HCMP.out _ hbd).mono ?_)
                  rintro e w5 ⟨rfl, hb5⟩
                  go_wp2
                  go_ret
                  exact ⟨by rw [HE.out] <;> rfl, hB3.trans ((hbd.trans (hb5.mono hbd.size)).mono hB3.size)⟩
                · have HE : Hid (X = 1) := Lib.hid (by rw [HZ.out, if_neg (by omega), if_pos k])
                  have kI : ¬ (a.length : Int) < (b.length : Int) := by omega
                  have kJ : (b.length : Int) < (a.length : Int) := by omega
                  have k1I : (q : Int) < (a.length : Int) := by omega
                  have k2I : ¬ (q : Int) < (b.length : Int) := by omega
                  clear HZ
                  go_wp2_with fail
                  (with_reducible refine (HCMP.out _ hbd).mono ?_)
                  rintro e w5 ⟨rfl, hb5⟩
                  go_wp2
                  go_ret
                  exact ⟨by rw [HE.out] <;> rfl, hB3.trans ((hbd.trans (hb5.mono hbd.size)).mono hB3.size)⟩
              · have HE : Hid (X = 1) := Lib.hid (HQ2.out (by decide))
                clear HQ HQ2 HT HLT
                rcases Nat.lt_or_ge q a.length with k1 | k1
                · have k1I : (q : Int) < (a.length : Int) := by omega
                  rcases Nat.lt_or_ge q b.length with k2 | k2
                  · have k2I : (q : Int) < (b.length : Int) := by omega
                    go_wp2_with fail
                    (with_reducible refine (HCMP.out _ hbd).mono ?_)
                    rintro e w5 ⟨rfl, hb5⟩
                    go_wp2
                    go_ret
                    exact ⟨by rw [HE.out] <;> rfl, hB3.trans ((hbd.trans (hb5.mono hbd.size)).mono hB3.size)⟩
                  · have k2I : ¬ (q : Int) < (b.length : Int) := by omega
                    go_wp2_with fail
                    (with_reducible refine (HCMP.out _ hbd).mono ?_)
                    rintro e w5 ⟨rfl, hb5⟩
                    go_wp2
                    go_ret
                    exact ⟨by rw [HE.out] <;> rfl, hB3.trans ((hbd.trans (hb5.mono hbd.size)).mono hB3.size)⟩
                · have k1I : ¬ (q : Int) < (a.length : Int) := by omega
                  rcases Nat.lt_or_ge q b.length with k2 | k2
                  · have k2I : (q : Int) < (b.length : Int) := by omega
                    go_wp2_with fail
                    (with_reducible refine (HCMP.out _ hbd).mono ?_)
                    rintro e w5 ⟨rfl, hb5⟩
                    go_wp2
                    go_ret
                    exact ⟨by rw [HE.out] <;> rfl, hB3.trans ((hbd.trans (hb5.mono hbd.size)).mono hB3.size)⟩
                  · have k2I : ¬ (q : Int) < (b.length : Int) := by omega
                    go_wp2_with fail
                    (with_reducible refine (HCMP.out _ hbd).mono ?_)
                    rintro e w5 ⟨rfl, hb5⟩
                    go_wp2
                    go_ret
                    exact ⟨by rw [HE.out] <;> rfl, hB3.trans ((hbd.trans (hb5.mono hbd.size)).mono hB3.size)⟩
end Go.Proofs.YtmobolefijneoaaDoor
