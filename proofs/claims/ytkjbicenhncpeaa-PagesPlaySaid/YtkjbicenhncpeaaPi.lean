/-
  Rows of numbers that the call owns; slices.Insert at the front, slices.Delete of one, slices.Index.
-/
import Derived.Test.YtkjbicenhncpeaaOw
import Derived.Test.YtkjbicenhncpeaaIm
import Derived.Shelf.Spec.SlicesInsertGrow
import Derived.Shelf.Slices.Delete
set_option linter.unusedVariables false
namespace Go.Proofs.Ytkjbicenhncpeaa
open Go.RowKit

/-- Numbers as cells. -/
abbrev I64 (l : List Int) : List Value := l.map (Value.int .i64)
/-- The value v is a slice that owns the numbers l. -/
def Nums (w : World) (base : Nat) (v : Value) (l : List Int) : Prop := w.ownsRow base 3 1 v l.length (I64 l)
def insRen : Go.Shelf.Ren := ⟨fun | 21 => 42 | 23 => 44 | 27 => 49 | 28 => 50 | 35 => 52 | 39 => 53 | n => n, fun | 0 => 0 | 3 => 3 | 4 => 4 | 22 => 30 | n => n, fun n => n⟩
theorem insLays : Go.Proofs.Lays2.n21 Try.prog insRen := {
  mixed := by kernel_rfl
  f21 := Try.func42.trans (congrArg some (by kernel_rfl))
  f27 := Try.func49.trans (congrArg some (by kernel_rfl))
  f28 := Try.func50.trans (congrArg some (by kernel_rfl))
  f35 := Try.func52.trans (congrArg some (by kernel_rfl))
  f39 := Try.func53.trans (congrArg some (by kernel_rfl))
  t0 := Try.underlying0
  a0 := Try.isAgg0
  z0 := Try.sizeOf0
  v0 := Try.zeroValue0
  t3 := Try.underlying3
  a3 := Try.isAgg3
  z3 := Try.sizeOf3
  v3 := Try.zeroValue3
  t4 := Try.underlying4
  a4 := Try.isAgg4
  z4 := Try.sizeOf4
  v4 := Try.zeroValue4
  t22 := Try.underlying30
  a22 := Try.isAgg30
  z22 := Try.sizeOf30
  v22 := Try.zeroValue30
  i3 := by kernel_rfl }
theorem delLays : Go.Proofs.Lays2.n23 Try.prog insRen := {
  mixed := by kernel_rfl
  f23 := Try.func44.trans (congrArg some (by kernel_rfl))
  t0 := Try.underlying0
  a0 := Try.isAgg0
  z0 := Try.sizeOf0
  v0 := Try.zeroValue0
  t3 := Try.underlying3
  a3 := Try.isAgg3
  z3 := Try.sizeOf3
  v3 := Try.zeroValue3
  t4 := Try.underlying4
  a4 := Try.isAgg4
  z4 := Try.sizeOf4
  v4 := Try.zeroValue4
  t22 := Try.underlying30
  a22 := Try.isAgg30
  z22 := Try.sizeOf30
  v22 := Try.zeroValue30
  i3 := by kernel_rfl }

theorem blk_setCells (g : Nat) (t : TypeId) : ∀ (vs : List Value) (o : Nat) (w : World) (cur : Array Value), Blk w g t cur → ∃ cur', Blk (w.setCells g o vs) g t cur' ∧ cur'.size = cur.size
  | [], o, w, cur, h => ⟨cur, h, rfl⟩
  | v :: r, o, w, cur, h => by
    obtain ⟨cur', h1, h2⟩ := blk_setCells g t r (o + 1) (w.setCell ⟨g, o, none⟩ v) _ (h.set_ o v)
    exact ⟨cur', h1, by rw [h2]; simp⟩
theorem grown_setCells (g : Nat) : ∀ (vs : List Value) (o : Nat) (w : World), w.grownBy (w.setCells g o vs) (some g)
  | [], o, w => World.grownBy.refl w _
  | v :: r, o, w => (show w.grownBy (w.setCell ⟨g, o, none⟩ v) (some g) from ⟨rfl, rfl, rfl, by simp, fun k _ hk => Below.heap_setCell w ⟨g, o, none⟩ v k (fun e => hk (by rw [e]))⟩).trans (grown_setCells g r (o + 1) _)
theorem grown_drew (w : World) (row : Option Nat) : w.grownBy w.drew row := ⟨rfl, rfl, rfl, Nat.le_refl _, fun _ _ _ => rfl⟩
/-- A row known by its cells. -/
theorem nums_of {w : World} {g cap base : Nat} {cur : Array Value} {l : List Int} (hb : Blk w g 3 cur) (hs : cur.size = cap) (hl : l.length ≤ cap) (hm : cap ≤ maxLen) (hg : base ≤ g) (hc : ∀ k x, l[k]? = some x → w.cell? ⟨g, k, none⟩ = some (.int .i64 x)) :
    Nums w base (.slice (some ⟨g, 0, none⟩) l.length cap) l := by
  refine ⟨by simp, .inr ⟨g, cap, cur, rfl, hg, hb, hl, hm, by omega, ?_⟩⟩
  apply List.ext_getElem?
  intro k
  rw [List.getElem?_take, Nat.mul_one, List.getElem?_map]
  by_cases hk : k < l.length
  · rw [if_pos hk, List.getElem?_eq_getElem hk]
    have := hc k _ (List.getElem?_eq_getElem hk)
    rw [hb.cell k] at this
    rw [← Array.getElem?_toList] at this
    exact this
  · rw [if_neg hk, List.getElem?_eq_none (by omega)]; rfl
/-- A row as its block and cells. -/
theorem Nums.form {w : World} {base : Nat} {v : Value} {l : List Int} (h : Nums w base v l) : (v = .slice none 0 0 ∧ l = []) ∨ ∃ g cap cur, v = .slice (some ⟨g, 0, none⟩) l.length cap ∧ base ≤ g ∧ Blk w g 3 cur ∧ cur.size = cap ∧ l.length ≤ cap ∧ cap ≤ maxLen ∧ ∀ k x, l[k]? = some x → w.cell? ⟨g, k, none⟩ = some (.int .i64 x) := by
  rcases h.2 with ⟨e, h0⟩ | ⟨g, cap, cur, e, hb, hh, hn, hm, hs, ht⟩
  · exact .inl ⟨e, List.eq_nil_of_length_eq_zero h0⟩
  · refine .inr ⟨g, cap, cur, e, hb, hh, by omega, hn, hm, fun k x hx => ?_⟩
    have hk : k < l.length := (List.getElem?_eq_some_iff.1 hx).1
    have h1 : (cur.toList.take (l.length * 1))[k]? = (I64 l)[k]? := by rw [ht]
    rw [List.getElem?_take, if_pos (by omega), List.getElem?_map, hx] at h1
    rw [Blk.cell (t := 3) hh k, ← Array.getElem?_toList, h1]
    rfl

/-- A new row of one. -/
theorem one_row (w : World) (x : Int) (G base : Nat) (v : Value) (hcap : 0 + 1 ≤ G) (hcm : G ≤ maxLen) (hbase : base ≤ w.heap.size) :
    Nums (w.drew.alloc (.cells ((([] : List Value) ++ [Value.int .i64 x]).toArray ++ Builtin.zeroCells (Value.int .i64 0).cells (G - (0 + 1))) 3)) base (.slice (some ⟨w.heap.size, 0, none⟩) (0 + 1) G) [x] ∧
    Grew w v (w.drew.alloc (.cells ((([] : List Value) ++ [Value.int .i64 x]).toArray ++ Builtin.zeroCells (Value.int .i64 0).cells (G - (0 + 1))) 3)) (.slice (some ⟨w.heap.size, 0, none⟩) (0 + 1) G) := by
  have hnb : Blk (w.drew.alloc (.cells ((([] : List Value) ++ [Value.int .i64 x]).toArray ++ Builtin.zeroCells (Value.int .i64 0).cells (G - (0 + 1))) 3)) w.heap.size 3 ((([] : List Value) ++ [Value.int .i64 x]).toArray ++ Builtin.zeroCells (Value.int .i64 0).cells (G - (0 + 1))) := Blk.new w.drew _ _
  refine ⟨nums_of (l := [x]) hnb (by simp [Builtin.zeroCells, Value.cells]; omega) hcap hcm hbase (fun k y hy => ?_), ⟨(grown_drew w _).trans (World.grownBy_alloc w.drew _ _), .inr fun g' hg' => ?_⟩⟩
  · rw [hnb.cell k]
    rcases k with _ | k
    · simp at hy; subst hy
      rw [Array.getElem?_append_left (by simp)]
      rfl
    · simp at hy
  · injection hg' with hg'; rw [← hg']; exact Nat.le_refl _

/-- slices.Insert at the front. -/
theorem insert_any (base : Nat) (v : Value) (l : List Int) (x : Int) (vb : Nat) (w : World) (h : Nums w base v l) (hx : Blk w vb 3 #[.int .i64 x]) (hne : some vb ≠ v.ownBlock) (hl : l.length ≤ 1000000) (hbase : base ≤ w.heap.size) :
    Calls Try.prog 42 #[v, .int .i64 0, .slice (some ⟨vb, 0, none⟩) 1 1] w fun e w' => ∃ v', e = .returned v' ∧ Nums w' base v' (x :: l) ∧ Grew w v w' v' := by
  have hvs : ∀ j u, [Value.int .i64 x][j]? = some u → w.cell? ⟨vb, 0 + j, none⟩ = some u := fun j u hu => by
    rw [Nat.zero_add, hx.cell j, ← Array.getElem?_toList]; exact hu
  have h1v : ∀ u ∈ [Value.int .i64 x], u.oneCell' = true := fun u hu => by simp at hu; subst hu; rfl
  have h1c : ∀ u ∈ I64 l, u.oneCell' = true := ints_oneCell _ l
  rcases h.form with ⟨rfl, rfl⟩ | ⟨g, cap, cur, rfl, hg, hb, hs, hn, hm, hc⟩
  · have hI := Any2.slices_Insert_int_end_grow insLays none 0 0 vb 0 1 1 [] [.int .i64 x] w (by omega) (by omega) (by omega) (by omega) rfl rfl (fun _ => rfl) (fun a e => by cases e) hvs h1v
    refine hI.mono fun e w' he => ?_
    obtain ⟨rfl, rfl⟩ := he
    rw [show insRen.t 3 = 3 from rfl]
    obtain ⟨h1, h2⟩ := one_row w x (grownCap w (0 + 1) 0 3) base (.slice none 0 0) (grownCap_ge _ _ _ _) (grownCap_le_maxLen _ _ _ _ (by unfold maxLen; omega)) hbase
    exact ⟨_, rfl, h1, h2⟩
  · unfold maxLen at hm
    have hvb : vb ≠ g := fun e => hne (by rw [e]; rfl)
    have hcs : ∀ j u, (I64 l)[j]? = some u → w.cell? ⟨g, 0 + j, none⟩ = some u := fun j u hu => by
      rw [List.getElem?_map] at hu
      rcases hj : l[j]? with _ | y
      · rw [hj] at hu; cases hu
      · rw [hj] at hu; injection hu with hu; subst hu
        rw [Nat.zero_add]; exact hc j y hj
    have hin : ∀ j, j < cap → (w.cell? ⟨g, j, none⟩).isSome = true := fun j hj => by rw [hb.cell j, Array.getElem?_eq_getElem (by omega)]; rfl
    by_cases hroom : l.length + 1 ≤ cap
    · -- there is room
      have fin : ∀ w', Blk w' g 3 cur → True := fun _ _ => trivial
      rcases l with _ | ⟨y, r⟩
      · have hI := Any2.slices_Insert_int_end_room insLays g 0 0 cap vb 0 1 1 [.int .i64 x] w (by omega) (by simpa using hroom) (by omega) rfl (fun j hj => by simpa using hin j (by simp at hroom; omega)) (fun j hj => by simpa using hb.free (0 + 0 + j)) hvs h1v
        refine hI.mono fun e w' he => ?_
        obtain ⟨rfl, rfl⟩ := he
        obtain ⟨cur', hb', hs'⟩ := blk_setCells g 3 [.int .i64 x] (0 + 0) w cur hb
        refine ⟨_, rfl, nums_of (l := [x]) hb' (by omega) (by simpa using hroom) (by unfold maxLen; omega) hg (fun k y hy => ?_), ⟨grown_setCells g _ _ _, .inl rfl⟩⟩
        have := World.cell?_setCells_in g [Value.int .i64 x] (0 + 0) w (fun j hj => by simpa using hin j (by simp at hj hroom; omega)) k (by rcases k with _ | k; simp; simp at hy)
        rcases k with _ | k
        · simp at hy; subst hy; simpa using this
        · simp at hy
      · have hI := Any2.slices_Insert_int_shift insLays g 0 (r.length + 1) cap 0 vb 0 1 1 (I64 (y :: r)) [.int .i64 x] w (by omega) (by omega) (by simpa using hroom) (by omega) hvb (by simp) rfl hcs
          (fun j hj => by simpa using hin j (by simp at hroom; omega)) (fun j hj => hb.free _) hvs h1c h1v 3 3 1 cap (by simp [World.shape?, show w.heap[vb]? = some (.cells #[.int .i64 x] 3 (0, 0)) from hx]) (by simp [World.shape?, show w.heap[g]? = some (.cells cur 3 (0, 0)) from hb, hs]) (by simp at hroom; omega) (hx.free _) (hx.free _)
        refine hI.mono fun e w' he => ?_
        obtain ⟨rfl, rfl⟩ := he
        rw [Nat.zero_add, Nat.zero_add, List.drop_zero]
        have hbd : Blk w.drew g 3 cur := hb
        obtain ⟨cur1, hb1, hs1⟩ := blk_setCells g 3 (I64 (y :: r)) (0 + 1) w.drew cur hbd
        obtain ⟨cur2, hb2, hs2⟩ := blk_setCells g 3 [.int .i64 x] 0 _ cur1 hb1
        have hlen : (I64 (y :: r)).length = r.length + 1 := by simp
        refine ⟨_, rfl, nums_of (l := x :: y :: r) hb2 (by omega) (by simpa using hroom) (by unfold maxLen; omega) hg (fun k z hz => ?_), ⟨(show w.grownBy w.drew (some g) from ⟨rfl, rfl, rfl, Nat.le_refl _, fun _ _ _ => rfl⟩).trans ((grown_setCells g _ _ _).trans (grown_setCells g _ _ _)), .inl rfl⟩⟩
        rcases k with _ | k
        · simp at hz; subst hz
          have := World.cell?_setCells_in g [Value.int .i64 x] 0 (w.drew.setCells g (0 + 1) (I64 (y :: r))) (fun j hj => by
            simp at hj; subst hj
            rw [World.cell?_setCells_out g _ _ _ _ (fun _ _ => .inl (by show 0 + 0 < 0 + 1; omega))]
            exact hin 0 (by simp at hroom; omega)) 0 (by simp)
          simpa using this
        · rw [World.cell?_setCells_out g _ _ _ _ (fun _ _ => .inr (by show 0 + [Value.int .i64 x].length ≤ k + 1; simp))]
          have hz' : (y :: r)[k]? = some z := by simpa using hz
          have hkl : k < (I64 (y :: r)).length := by rw [hlen]; have := (List.getElem?_eq_some_iff.1 hz').1; simpa using this
          have := World.cell?_setCells_in g (I64 (y :: r)) (0 + 1) w.drew (fun j hj => by
            have := hin (0 + 1 + j) (by rw [hlen] at hj; simp at hroom; omega)
            exact this) k hkl
          rw [show k + 1 = 0 + 1 + k by omega, this]
          have e2 : (I64 (y :: r))[k]? = some (.int .i64 z) := by rw [List.getElem?_map, hz']; rfl
          rw [List.getElem?_eq_getElem hkl] at e2
          exact e2
    · -- a new row
      have hlc : l.length = cap := by omega
      have hcap : l.length + 1 ≤ grownCap w (l.length + 1) cap 3 := grownCap_ge _ _ _ _
      have hcm : grownCap w (l.length + 1) cap 3 ≤ maxLen := grownCap_le_maxLen _ _ _ _ (by unfold maxLen; omega)
      rcases l with _ | ⟨y, r⟩
      · simp at hlc hroom hcap hcm
        subst hlc
        have hI := Any2.slices_Insert_int_end_grow insLays (some ⟨g, 0, none⟩) 0 0 vb 0 1 1 [] [.int .i64 x] w (by omega) (by omega) (by omega) (by omega) rfl rfl (fun e => by cases e) (fun a e j u hj => by simp at hj) hvs h1v
        refine hI.mono fun e w' he => ?_
        obtain ⟨rfl, rfl⟩ := he
        rw [show insRen.t 3 = 3 from rfl]
        obtain ⟨h1, h2⟩ := one_row w x (grownCap w (0 + 1) 0 3) base (.slice (some ⟨g, 0, none⟩) 0 0) (grownCap_ge _ _ _ _) (grownCap_le_maxLen _ _ _ _ (by unfold maxLen; omega)) hbase
        exact ⟨_, rfl, h1, h2⟩
      · have hI := Any2.slices_Insert_int_grow insLays g 0 (r.length + 1) cap 0 vb 0 1 1 (I64 (y :: r)) [.int .i64 x] w (by omega) (by omega) (by simpa using hn) (by simp at hroom; omega) (by simp at hl; omega) (by simp) rfl hcs hvs h1c h1v
        refine hI.mono fun e w' he => ?_
        obtain ⟨rfl, rfl⟩ := he
        rw [Nat.zero_add, List.drop_zero]
        obtain ⟨G, hG⟩ : ∃ G, G = grownCap w (r.length + 1 + 1) cap 3 := ⟨_, rfl⟩
        rw [show (y :: r).length = r.length + 1 from rfl, ← hG] at hcap hcm
        rw [show insRen.t 3 = 3 from rfl, ← hG]
        obtain ⟨ROW, hROW⟩ : ∃ ROW : Array Value, ROW = ((I64 (y :: r)).take 0).toArray ++ Builtin.zeroCells (Value.int .i64 0).cells (r.length + 1 + 1 - 0) ++ Builtin.zeroCells (Value.int .i64 0).cells (G - (r.length + 1 + 1)) := ⟨_, rfl⟩
        rw [← hROW]
        have hRs : ROW.size = G := by rw [hROW]; simp [Builtin.zeroCells, Value.cells]; omega
        have hb0 : Blk (w.alloc (.cells ROW 3)).drew w.heap.size 3 ROW := Blk.new w _ _
        obtain ⟨cur1, hb1, hs1⟩ := blk_setCells w.heap.size 3 [.int .i64 x] 0 _ ROW hb0
        have hb1d : Blk ((w.alloc (.cells ROW 3)).drew.setCells w.heap.size 0 [.int .i64 x]).drew w.heap.size 3 cur1 := hb1
        obtain ⟨cur2, hb2, hs2⟩ := blk_setCells w.heap.size 3 (I64 (y :: r)) 1 _ cur1 hb1d
        have hlen : (I64 (y :: r)).length = r.length + 1 := by simp
        have hbl : Below w.heap.size w (((w.alloc (.cells ROW 3)).drew.setCells w.heap.size 0 [.int .i64 x]).drew.setCells w.heap.size 1 (I64 (y :: r))) := by
          have a1 : Below w.heap.size w (w.alloc (.cells ROW 3)).drew := ((Below.refl _ _).alloc (Nat.le_refl _) _).drew
          have a2 := a1.grown (grown_setCells w.heap.size [.int .i64 x] 0 _) (by simp) (fun g e => by injection e with e; omega)
          exact (a2.drew).grown (grown_setCells w.heap.size (I64 (y :: r)) 1 _) (by have := a2.size; exact this) (fun g e => by injection e with e; omega)
        refine ⟨_, rfl, nums_of (l := x :: y :: r) hb2 (by omega) hcap hcm hbase (fun k z hz => ?_), ⟨⟨hbl.os, hbl.tape, hbl.output, hbl.size, fun k hk _ => hbl.block k hk⟩, .inr fun g' hg' => ?_⟩⟩
        · rcases k with _ | k
          · simp at hz; subst hz
            rw [World.cell?_setCells_out _ _ _ _ _ (fun _ _ => .inl (by show 0 < 1; omega))]
            have := World.cell?_setCells_in w.heap.size [Value.int .i64 x] 0 (w.alloc (.cells ROW 3)).drew (fun j hj => by
              simp at hj; subst hj
              rw [hb0.cell, Array.getElem?_eq_getElem (by omega)]; rfl) 0 (by simp)
            simpa using this
          · have hz' : (y :: r)[k]? = some z := by simpa using hz
            have hkl : k < (I64 (y :: r)).length := by rw [hlen]; have := (List.getElem?_eq_some_iff.1 hz').1; simpa using this
            have := World.cell?_setCells_in w.heap.size (I64 (y :: r)) 1 ((w.alloc (.cells ROW 3)).drew.setCells w.heap.size 0 [.int .i64 x]).drew (fun j hj => by
              rw [hb1d.cell, Array.getElem?_eq_getElem (by rw [hlen] at hj; omega)]; rfl) k hkl
            rw [show k + 1 = 1 + k by omega, this]
            have e2 : (I64 (y :: r))[k]? = some (.int .i64 z) := by rw [List.getElem?_map, hz']; rfl
            rw [List.getElem?_eq_getElem hkl] at e2
            exact e2
        · injection hg' with hg'; rw [← hg']; exact Nat.le_refl _

/-- slices.Delete of one. -/
theorem delete_any (base : Nat) (v : Value) (l : List Int) (k : Nat) (w : World) (h : Nums w base v l) (hk : k < l.length) (hbase : base ≤ w.heap.size) :
    Calls Try.prog 44 #[v, .int .i64 k, .int .i64 ((k + 1 : Nat) : Int)] w fun e w' => ∃ v', e = .returned v' ∧ Nums w' base v' (l.eraseIdx k) ∧ Grew w v w' v' := by
  rcases h.form with ⟨rfl, rfl⟩ | ⟨g, cap, cur, rfl, hg, hb, hs, hn, hm, hc⟩
  · simp at hk
  · unfold maxLen at hm
    have hH : Go.Sort.Holds (Value.int .i64) w g 0 l.toArray := fun j hj => by
      have hj' : j < l.length := by simpa using hj
      refine ⟨?_, hb.free _⟩
      rw [Nat.zero_add, hc j _ (List.getElem?_eq_getElem hj')]
      simp [hj']
    refine (Any.slices_Delete_int delLays g 0 cap k (k + 1) l w hH hn (by omega) (by omega) (by omega)).mono fun e w' he => ?_
    obtain ⟨rfl, q, rfl⟩ := he
    have hsz : (l.take k ++ l.drop (k + 1) ++ List.replicate (k + 1 - k) 0).toArray.size = l.toArray.size := by simp; omega
    have hH' : Go.Sort.Holds (Value.int .i64) (Go.Sort.ahead w q) g 0 l.toArray := hH
    have hb' : Blk (Go.Sort.putRow (Value.int .i64) (Go.Sort.ahead w q) g 0 (l.take k ++ l.drop (k + 1) ++ List.replicate (k + 1 - k) 0).toArray) g 3 (Go.Sort.putCells (Value.int .i64) 0 (l.take k ++ l.drop (k + 1) ++ List.replicate (k + 1 - k) 0).toArray cur) := by
      have hb2 : w.heap[g]? = some (.cells cur 3 (0, 0)) := hb
      show ((Go.Sort.ahead w q).heap.modify g _)[g]? = _
      rw [Array.getElem?_modify, if_pos rfl]
      show (w.heap[g]?).map _ = _
      rw [hb2]
      rfl
    have hlen : (l.eraseIdx k).length = l.length - (k + 1 - k) := by rw [List.length_eraseIdx]; simp [hk]
    have hfin := nums_of (base := base) (l := l.eraseIdx k) hb' (by simp [Go.Sort.putCells]; exact hs) (by omega) (by unfold maxLen; omega) hg (fun j x hx => by
      have hj : j < l.length - 1 := by have := (List.getElem?_eq_some_iff.1 hx).1; rw [hlen] at this; omega
      have := Go.Sort.cell?_putRow (Value.int .i64) (Go.Sort.ahead w q) g 0 l.toArray _ hH' hsz j (by simp; omega)
      rw [Nat.zero_add] at this
      rw [this]
      congr 2
      rw [List.eraseIdx_eq_take_drop_succ] at hx
      have hj2 : j < (l.take k ++ l.drop (k + 1)).length := (List.getElem?_eq_some_iff.1 hx).1
      rw [getElem!_pos _ j (by simp at hj2 ⊢; omega)]
      simp only [List.getElem_toArray]
      rw [List.getElem_append_left hj2]
      rw [List.getElem?_eq_getElem hj2] at hx
      injection hx)
    rw [hlen] at hfin
    refine ⟨_, rfl, hfin, ⟨⟨rfl, rfl, rfl, by simp [Go.Sort.putRow, Go.Sort.mapBlock, Go.Sort.ahead], fun i hi hne => ?_⟩, .inl rfl⟩⟩
    have hgi : ¬ g = i := fun e => hne (by rw [← e]; rfl)
    show ((Go.Sort.ahead w q).heap.modify g _)[i]? = _
    rw [Array.getElem?_modify, if_neg hgi]
    rfl

/-- Where a number stands first; -1: nowhere. -/
def idxI : List Int → Int → Int
  | [], _ => -1
  | y :: r, x => if y = x then 0 else if idxI r x < 0 then -1 else idxI r x + 1
theorem idxI_none {l : List Int} {x : Int} (h : ∀ q : Nat, l[q]? ≠ some x) : idxI l x = -1 := by
  induction l with
  | nil => rfl
  | cons y r ih =>
    have h0 : y ≠ x := fun e => h 0 (by rw [e]; rfl)
    have h1 := ih fun q => h (q + 1)
    rw [idxI, if_neg h0, h1]; rfl
theorem idxI_at {l : List Int} {x : Int} {i : Nat} (h : l[i]? = some x) (hq : ∀ q, q < i → l[q]? ≠ some x) : idxI l x = i := by
  induction l generalizing i with
  | nil => simp at h
  | cons y r ih =>
    rcases i with _ | i
    · simp at h; subst h; simp [idxI]
    · have h0 : y ≠ x := fun e => hq 0 (by omega) (by rw [e]; rfl)
      have h1 := ih (i := i) (by simpa using h) (fun q hq' => by simpa using hq (q + 1) (by omega))
      rw [idxI, if_neg h0, h1, if_neg (by omega)]
      omega
theorem idxI_mem {l : List Int} {x : Int} (h : x ∈ l) : ∃ i : Nat, idxI l x = i ∧ i < l.length ∧ l[i]? = some x := by
  induction l with
  | nil => simp at h
  | cons y r ih =>
    by_cases e : y = x
    · exact ⟨0, by simp [idxI, e], by simp, by simp [e]⟩
    · rcases List.mem_cons.1 h with h | h
      · exact absurd h.symm e
      · obtain ⟨i, h1, h2, h3⟩ := ih h
        exact ⟨i + 1, by rw [idxI, if_neg e, h1, if_neg (by omega)]; omega, by simpa using h2, by simpa using h3⟩
set_option maxHeartbeats 2000000 in
theorem index_any (A : Option Addr) (l : List Int) (c : Nat) (x : Int) (w : World) (hc : Cells w w.heap.size A (I64 l)) (hl : l.length ≤ 1000000) :
    Calls Try.prog 43 #[.slice A l.length c, .int .i64 x] w fun e w' => e = .returned (.int .i64 (idxI l x)) ∧ w = w' := by
  obtain ⟨n, hn⟩ : ∃ n, l.length = n := ⟨_, rfl⟩
  rw [hn] at hl ⊢
  have HN := Lib.hid hn
  have HC := Lib.hid hc
  clear hn hc
  go_enter Try.func43, Try.ntmps43
  go_wp2
  go_loopw [8] (fun vi wr => ∃ i : Nat, vi = .int .i64 i ∧ i ≤ n ∧ Hid (∀ q, q < i → l[q]? ≠ some x) ∧ w = wr) (fun vi _ => n - (RowKit.intOf vi).toNat)
  case atStart => exact ⟨0, rfl, Nat.zero_le _, Lib.hid fun q h => absurd h (by omega), rfl⟩
  case round =>
    obtain ⟨i, rfl, hi, HQ, rfl⟩ := hrel
    by_cases hlt : i < n
    · have hiI : (i : Int) < (n : Int) := by omega
      have hil : i < l.length := by rw [HN.out]; exact hlt
      obtain ⟨b, off, rfl, _, hcell⟩ := HC.out.form (by intro e; have := congrArg List.length e; simp at this; rw [this] at hil; simp at hil)
      obtain ⟨y, hy⟩ : ∃ y, l[i]? = some y := ⟨_, List.getElem?_eq_getElem hil⟩
      have c0 : w.cell? ⟨b, off + i, none⟩ = some (.int .i64 y) := hcell i _ (by rw [List.getElem?_map, hy]; rfl)
      have HY := Lib.hid hy
      clear hcell hy
      by_cases hxy : x = y
      · have HX : Hid (idxI l x = i) := Lib.hid (idxI_at (by rw [HY.out, hxy]) HQ.out)
        have hb : (x == y) = true := by simpa using hxy
        clear HY HQ
        go_wp2
        go_ret
        exact ⟨by rw [HX.out] <;> rfl, rfl⟩
      · have hb : (x == y) = false := by simpa using hxy
        have HQ2 := Lib.hid (show ∀ q, q < i + 1 → l[q]? ≠ some x from fun q hq => by
          by_cases e : q = i
          · rw [e, HY.out]; intro h; injection h with h; exact hxy h.symm
          · exact HQ.out q (by omega))
        clear HY HQ
        go_wp2
        go_roundw
        case rel => exact ⟨i + 1, by go_num, by omega, HQ2, trivial⟩
        case measure => simp [RowKit.intOf]; omega
    · have hiI : ¬ (i : Int) < (n : Int) := by omega
      have HX : Hid (idxI l x = -1) := Lib.hid (idxI_none fun q => by
        by_cases hq : q < i
        · exact HQ.out q hq
        · rw [List.getElem?_eq_none (by rw [HN.out]; omega)]; simp)
      clear HQ
      go_wp2
      go_ret
      exact ⟨by rw [HX.out] <;> rfl, rfl⟩
set_option maxHeartbeats 2000000 in
theorem sindex_any (A : Option Addr) (l : List Int) (c : Nat) (x : Int) (w : World) (hc : Cells w w.heap.size A (I64 l)) (hl : l.length ≤ 1000000) :
    Calls Try.prog 28 #[.slice A l.length c, .int .i64 x] w fun e w' => e = .returned (.int .i64 (idxI l x)) ∧ w = w' := by
  obtain ⟨n, hn⟩ : ∃ n, l.length = n := ⟨_, rfl⟩
  rw [hn] at hl ⊢
  have HN := Lib.hid hn
  have HC := Lib.hid hc
  clear hn hc
  go_enter Try.func28, Try.ntmps28
  go_wp2
  go_loopw [8] (fun vi wr => ∃ i : Nat, vi = .int .i64 i ∧ i ≤ n ∧ Hid (∀ q, q < i → l[q]? ≠ some x) ∧ w = wr) (fun vi _ => n - (RowKit.intOf vi).toNat)
  case atStart => exact ⟨0, rfl, Nat.zero_le _, Lib.hid fun q h => absurd h (by omega), rfl⟩
  case round =>
    obtain ⟨i, rfl, hi, HQ, rfl⟩ := hrel
    by_cases hlt : i < n
    · have hiI : (i : Int) < (n : Int) := by omega
      have hil : i < l.length := by rw [HN.out]; exact hlt
      obtain ⟨b, off, rfl, _, hcell⟩ := HC.out.form (by intro e; have := congrArg List.length e; simp at this; rw [this] at hil; simp at hil)
      obtain ⟨y, hy⟩ : ∃ y, l[i]? = some y := ⟨_, List.getElem?_eq_getElem hil⟩
      have c0 : w.cell? ⟨b, off + i, none⟩ = some (.int .i64 y) := hcell i _ (by rw [List.getElem?_map, hy]; rfl)
      have HY := Lib.hid hy
      clear hcell hy
      by_cases hxy : x = y
      · have HX : Hid (idxI l x = i) := Lib.hid (idxI_at (by rw [HY.out, hxy]) HQ.out)
        have hb : (x == y) = true := by simpa using hxy
        clear HY HQ
        go_wp2
        go_ret
        exact ⟨by rw [HX.out] <;> rfl, rfl⟩
      · have hb : (x == y) = false := by simpa using hxy
        have HQ2 := Lib.hid (show ∀ q, q < i + 1 → l[q]? ≠ some x from fun q hq => by
          by_cases e : q = i
          · rw [e, HY.out]; intro h; injection h with h; exact hxy h.symm
          · exact HQ.out q (by omega))
        clear HY HQ
        go_wp2
        go_roundw
        case rel => exact ⟨i + 1, by go_num, by omega, HQ2, trivial⟩
        case measure => simp [RowKit.intOf]; omega
    · have hiI : ¬ (i : Int) < (n : Int) := by omega
      have HX : Hid (idxI l x = -1) := Lib.hid (idxI_none fun q => by
        by_cases hq : q < i
        · exact HQ.out q hq
        · rw [List.getElem?_eq_none (by rw [HN.out]; omega)]; simp)
      clear HQ
      go_wp2
      go_ret
      exact ⟨by rw [HX.out] <;> rfl, rfl⟩
end Go.Proofs.Ytkjbicenhncpeaa
