/-
  Plain: what is put at a path; words for put.
-/
import Derived.Test.YtpnbmgfnnmmokaaDoorWi
import Derived.Test.YtpnbmgfnnmmokaaDoorWv
set_option linter.unusedVariables false
namespace Go.Proofs.YtpnbmgfnnmmokaaDoor
open Go.RowKit

/-- How many names stand ahead of a step. -/
def lessN (st : ByteArray) : List ByteArray → Nat
  | [] => 0
  | x :: xs => if Op.bytesLess x.toList st.toList = true then lessN st xs + 1 else 0
theorem lessN_le (st : ByteArray) : ∀ ns : List ByteArray, lessN st ns ≤ ns.length
  | [] => Nat.le_refl _
  | x :: xs => by
    have := lessN_le st xs
    rw [lessN, List.length_cons]
    split <;> omega
theorem lessN_drop (st : ByteArray) (ns : List ByteArray) (q : Nat) (h : q < ns.length) : lessN st (ns.drop q) = if Op.bytesLess (ns[q]).toList st.toList = true then lessN st (ns.drop (q + 1)) + 1 else 0 := by
  rw [List.drop_eq_getElem_cons h, lessN]
/-- A value put at a place, or ahead of one. -/
def putAt (k : Int) (ns : List ByteArray) (is : List JV) (K : Int) (st : ByteArray) (x : JV) : Option JV :=
  if 0 ≤ K then some (.mk k 0 ⟨#[]⟩ ns (is.take K.toNat ++ [x] ++ is.drop (K.toNat + 1)))
  else if k ≠ 6 then none
  else some (.mk k 0 ⟨#[]⟩ (ns.take (lessN st ns) ++ [st] ++ ns.drop (lessN st ns)) (is.take (lessN st ns) ++ [x] ++ is.drop (lessN st ns)))
/-- A value put at some steps. -/
def putP : List ByteArray → JV → JV → Option JV
  | [], _, _ => none
  | st :: rest, .mk k n s ns is, x =>
    if rest = [] then putAt k ns is (placeP (.mk k n s ns is) st) st x
    else match itemP (.mk k n s ns is) (placeP (.mk k n s ns is) st) with
      | none => none
      | some y => match putP rest y x with
        | none => none
        | some z => putAt k ns is (placeP (.mk k n s ns is) st) st z
mutual
/-- In which blocks it lies. -/
def LV.On (S : Nat → Prop) : LV → Prop
  | .mk _ _ _ An ns _ Ai is _ => (∀ a, An = some a → ns ≠ [] → S a.block) ∧ (∀ a, Ai = some a → is ≠ [] → S a.block) ∧ LV.AllOn S is
def LV.AllOn (S : Nat → Prop) : List LV → Prop
  | [] => True
  | v :: vs => v.On S ∧ LV.AllOn S vs
end
theorem LV.allOn {S : Nat → Prop} : ∀ {is : List LV}, LV.AllOn S is ↔ ∀ x ∈ is, x.On S
  | [] => by simp [LV.AllOn]
  | v :: vs => by simp [LV.AllOn, LV.allOn (is := vs)]
mutual
theorem LV.On.mono {S S' : Nat → Prop} (h : ∀ k, S k → S' k) : ∀ v : LV, v.On S → v.On S'
  | .mk k n s An ns cn Ai is ci, hv => by
    unfold LV.On at hv ⊢
    exact ⟨fun a e hn => h _ (hv.1 a e hn), fun a e hn => h _ (hv.2.1 a e hn), LV.AllOn.mono h is hv.2.2⟩
theorem LV.AllOn.mono {S S' : Nat → Prop} (h : ∀ k, S k → S' k) : ∀ is : List LV, LV.AllOn S is → LV.AllOn S' is
  | [], _ => trivial
  | v :: vs, hv => ⟨LV.On.mono h v hv.1, LV.AllOn.mono h vs hv.2⟩
end
theorem Cells.lt {w : World} {B : Nat} {A : Option Addr} {xs : List Value} (h : Cells w B A xs) (hx : xs ≠ []) {a : Addr} (ha : A = some a) : a.block < B := by
  obtain ⟨b, off, e, hb, _⟩ := h.form hx
  rw [ha] at e
  injection e with e
  subst e
  exact hb
theorem flat_ne {is : List LV} (h : is ≠ []) : is.flatMap LV.cells ≠ [] := fun e => by
  have := flat_len is
  rw [e] at this
  rcases is with _ | ⟨x, r⟩
  · exact h rfl
  · simp at this
theorem map_ne {ns : List ByteArray} (h : ns ≠ []) : ns.map Value.string ≠ [] := by simpa using h
mutual
theorem LV.At.on {w : World} : ∀ v : LV, v.At w → v.On (fun k => k < w.heap.size)
  | .mk k n s An ns cn Ai is ci, hv => by
    unfold LV.At at hv
    unfold LV.On
    exact ⟨fun a e hn => hv.1.lt (map_ne hn) e, fun a e hn => hv.2.1.lt (flat_ne hn) e, LV.AllAt.on is hv.2.2.1⟩
theorem LV.AllAt.on {w : World} : ∀ is : List LV, LV.AllAt w is → LV.AllOn (fun k => k < w.heap.size) is
  | [], _ => trivial
  | v :: vs, hv => ⟨LV.At.on v hv.1, LV.AllAt.on vs hv.2⟩
end
theorem Cells.move {w w' : World} {A : Option Addr} {xs : List Value} {S : Nat → Prop} (h : Cells w w.heap.size A xs) (hS : ∀ a, A = some a → xs ≠ [] → S a.block) (hk : ∀ k, S k → k < w.heap.size → w'.heap[k]? = w.heap[k]?) (hs : w.heap.size ≤ w'.heap.size) : Cells w' w'.heap.size A xs := fun k u hu => by
  obtain ⟨b, off, e, hb, hc⟩ := h k u hu
  have hne : xs ≠ [] := fun e => by rw [e] at hu; cases hu
  exact ⟨b, off, e, by omega, (World.cell?_of_block (hk b (hS _ e hne) hb)).trans hc⟩
mutual
theorem LV.At.move {w w' : World} {S : Nat → Prop} (hk : ∀ k, S k → k < w.heap.size → w'.heap[k]? = w.heap[k]?) (hs : w.heap.size ≤ w'.heap.size) : ∀ v : LV, v.At w → v.On S → v.At w'
  | .mk k n s An ns cn Ai is ci, hv, ho => by
    unfold LV.At at hv ⊢
    unfold LV.On at ho
    obtain ⟨h1, h2, h3, h4⟩ := hv
    exact ⟨h1.move (fun a e hn => ho.1 a e (fun e2 => hn (by rw [e2]; rfl))) hk hs, h2.move (fun a e hn => ho.2.1 a e (fun e2 => hn (by rw [e2]; rfl))) hk hs, LV.AllAt.move hk hs is h3 ho.2.2, h4⟩
theorem LV.AllAt.move {w w' : World} {S : Nat → Prop} (hk : ∀ k, S k → k < w.heap.size → w'.heap[k]? = w.heap[k]?) (hs : w.heap.size ≤ w'.heap.size) : ∀ is : List LV, LV.AllAt w is → LV.AllOn S is → LV.AllAt w' is
  | [], _, _ => trivial
  | v :: vs, hv, ho => ⟨LV.At.move hk hs v hv.1 ho.1, LV.AllAt.move hk hs vs hv.2 ho.2⟩
end
/-- What lies where v and x lie, or in what is new. -/
def Near (v x z : LV) (B : Nat) : Prop := ∀ S : Nat → Prop, v.On S → x.On S → z.On (fun k => S k ∨ B ≤ k)
/-- put's answer. -/
def PutRes (v x : LV) (B : Nat) (X : Option JV) (e : Ending) (w' : World) : Prop := match X with
  | none => e = .returned (.tuple #[zeroV.val, .int .i64 4])
  | some j => ∃ z : LV, e = .returned (.tuple #[z.val, .int .i64 0]) ∧ z.At w' ∧ z.j = j ∧ Near v x z B
/-- What stands behind the inner put. -/
def PutCut (Y : Option JV) (v x : LV) (B : Nat) (s9 s10 : Value) (wx : World) : Prop := match Y with
  | none => s10 = .int .i64 4
  | some j => ∃ (g : Nat) (z : LV), s9 = .pointer (some ⟨g, 0, none⟩) ∧ s10 = .int .i64 0 ∧ z.At wx ∧ z.j = j ∧ Near v x z B ∧ Blk wx g 25 z.cells.toArray
theorem PutCut.no {v x : LV} {B : Nat} {s9 : Value} {wx : World} : PutCut none v x B s9 (.int .i64 4) wx := rfl
theorem PutCut.yes1 {v x z : LV} {B : Nat} {w9 : World} {j : JV} (h : z.At w9) (hj : z.j = j) (hn : Near v x z B) : PutCut (some j) v x B (.pointer (some ⟨w9.heap.size, 0, none⟩)) (.int .i64 0) (w9.alloc (.cells z.cells.toArray 25)) :=
  ⟨w9.heap.size, z, rfl, rfl, h.below ((Below.refl _ _).alloc (Nat.le_refl _) _) _, hj, hn, Blk.new w9 _ _⟩
theorem PutCut.yes2 {v x : LV} {B g : Nat} {w9 : World} {j : JV} {k n : Int} {s : ByteArray} {An : Option Addr} {ns : List ByteArray} {cn : Nat} {Ai : Option Addr} {is : List LV} {ci : Nat} {x0 x1 x2 x3 x4 : Value}
    (h : (LV.mk k n s An ns cn Ai is ci).At w9) (hj : (LV.mk k n s An ns cn Ai is ci).j = j) (hn : Near v x (LV.mk k n s An ns cn Ai is ci) B) (ho : (LV.mk k n s An ns cn Ai is ci).On (fun b => b ≠ g)) (hz : Blk w9 g 25 #[x0, x1, x2, x3, x4]) :
    PutCut (some j) v x B (.pointer (some ⟨g, 0, none⟩)) (.int .i64 0) (((((w9.setCell ⟨g, 0, none⟩ (.int .i64 k)).setCell ⟨g, 1, none⟩ (.int .i64 n)).setCell ⟨g, 2, none⟩ (.string s)).setCell ⟨g, 3, none⟩ (.slice An ns.length cn)).setCell ⟨g, 4, none⟩ (.slice Ai is.length ci)) :=
  ⟨g, LV.mk k n s An ns cn Ai is ci, rfl, rfl, LV.At.move (S := fun b => b ≠ g) (fun b hb hl => (chg_five w9 g _ _ _ _ _).block b hl hb) (chg_five w9 g _ _ _ _ _).size _ h ho, hj, hn, hz.five _ _ _ _ _⟩
theorem Near.up {v x y z : LV} {B B' : Nat} (hv : ∀ S : Nat → Prop, v.On S → y.On S) (h : Near y x z B') (hB : B ≤ B') : Near v x z B := fun S h1 h2 => LV.On.mono (fun k hk => hk.imp id fun h => by omega) _ (h S (hv S h1) h2)
theorem Near.off {x y z : LV} {B' g : Nat} (h : Near y x z B') (hy : y.On (fun k => k < g)) (hx : x.On (fun k => k < g)) (hB : g < B') : z.On (fun b => b ≠ g) := LV.On.mono (fun k hk => by rcases hk with h | h <;> omega) _ (h _ hy hx)
theorem below_five {B g : Nat} {w w9 : World} (h : Below B w w9) (hg : B ≤ g) (a b c d e : Value) : Below B w (((((w9.setCell ⟨g, 0, none⟩ (a)).setCell ⟨g, 1, none⟩ (b)).setCell ⟨g, 2, none⟩ (c)).setCell ⟨g, 3, none⟩ (d)).setCell ⟨g, 4, none⟩ (e)) :=
  ((((h.setCell (p := ⟨g, 0, none⟩) hg a).setCell (p := ⟨g, 1, none⟩) hg b).setCell (p := ⟨g, 2, none⟩) hg c).setCell (p := ⟨g, 3, none⟩) hg d).setCell (p := ⟨g, 4, none⟩) hg e
def namesJ : JV → List ByteArray | .mk _ _ _ ns _ => ns
theorem owns_apart {w : World} {b b' : Nat} {e e' : TypeId} {size size' n n' : Nat} {v v' : Value} {xs xs' : List Value} (h : w.ownsRow b e size v n xs) (h' : w.ownsRow b' e' size' v' n' xs') (hne : e ≠ e') : v.ownBlock = none ∨ v.ownBlock ≠ v'.ownBlock := by
  rcases h.2 with ⟨rfl, _⟩ | ⟨g, cap, cur, rfl, _, hh, _⟩
  · exact .inl rfl
  · refine .inr fun e2 => ?_
    rcases h'.2 with ⟨rfl, _⟩ | ⟨g', cap', cur', rfl, _, hh', _⟩
    · cases e2
    · injection e2 with e2
      have e2 : g = g' := e2
      subst e2
      rw [hh] at hh'
      injection hh' with hh'
      injection hh' with _ ht
      exact hne ht
/-- A value under construction. -/
def outB (k : Int) (vn vi : Value) : Array Value := #[.int .i64 k, .int .i64 0, .string ⟨#[]⟩, vn, vi]
theorem outB.set3 (k : Int) (vn vi u : Value) : (outB k vn vi).setIfInBounds 3 u = outB k u vi := by simp [outB]
theorem outB.set4 (k : Int) (vn vi u : Value) : (outB k vn vi).setIfInBounds 4 u = outB k vn u := by simp [outB]
/-- Where put stands. -/
structure PutS (w w0 wr : World) (gv go : Nat) (Vc Xc : Array Value) (k : Int) (vn vi : Value) (ns : List ByteArray) (is : List LV) : Prop where
  v : Blk wr gv 25 Vc
  x : Blk wr (gv + 1) 25 Xc
  r : Blk wr (gv + 2) 25 zeroBlk
  o : Blk wr go 25 (outB k vn vi)
  on : SOwn wr (go + 1) vn ns
  oi : VOwn wr (go + 1) vi is
  le : w.heap.size ≤ gv
  lo : gv + 2 < go
  lt : go + 1 ≤ wr.heap.size
  b : Below w.heap.size w wr
  bg : Below go w0 wr
section
variable {w w0 wr w2 : World} {gv go : Nat} {Vc Xc : Array Value} {k : Int} {vn vi u : Value} {ns ns' : List ByteArray} {is is' : List LV}
theorem PutS.alloc (h : PutS w w0 wr gv go Vc Xc k vn vi ns is) (o : Obj) : PutS w w0 (wr.alloc o) gv go Vc Xc k vn vi ns is :=
  ⟨h.v.alloc o, h.x.alloc o, h.r.alloc o, h.o.alloc o, h.on.alloc o, h.oi.alloc o, h.le, h.lo, by have := h.lt; simp; omega, h.b.alloc h.b.size o, h.bg.alloc (by have := h.lt; omega) o⟩
theorem PutS.drew (h : PutS w w0 wr gv go Vc Xc k vn vi ns is) : PutS w w0 wr.drew gv go Vc Xc k vn vi ns is :=
  ⟨h.v.drew, h.x.drew, h.r.drew, h.o.drew, h.on.drew, h.oi.drew, h.le, h.lo, h.lt, h.b.drew, h.bg.drew⟩
theorem PutS.drewN (h : PutS w w0 wr gv go Vc Xc k vn vi ns is) (n : Nat) : PutS w w0 (wr.drewN n) gv go Vc Xc k vn vi ns is :=
  ⟨h.v.drewN n, h.x.drewN n, h.r.drewN n, h.o.drewN n, h.on, h.oi, h.le, h.lo, h.lt, ⟨h.b.os, h.b.tape, h.b.output, h.b.size, h.b.block⟩, ⟨h.bg.os, h.bg.tape, h.bg.output, h.bg.size, h.bg.block⟩⟩
/-- The names have grown. -/
theorem PutS.names (h : PutS w w0 wr gv go Vc Xc k vn vi ns is) (hO : SOwn w2 (go + 1) u ns') (hG : Grew wr vn w2 u) : PutS w w0 (w2.setCell ⟨go, 3, none⟩ u) gv go Vc Xc k u vi ns' is := by
  have lo := h.lo
  have le := h.le
  have g1 := h.v.grew h.on (by omega) hG
  have g2 := h.x.grew h.on (by omega) hG
  have g3 := h.r.grew h.on (by omega) hG
  have g4 := h.o.grew h.on (by omega) hG
  have hi : VOwn w2 (go + 1) vi is := owns_grown h.oi hG.by_ (owns_apart h.oi h.on (by decide))
  have g5 := g4.set_ 3 u
  rw [outB.set3] at g5
  exact ⟨g1.far (by show gv ≠ go; omega) _, g2.far (by show gv + 1 ≠ go; omega) _, g3.far (by show gv + 2 ≠ go; omega) _, g5, owns_store hO (by omega) _ _, owns_store hi (by omega) _ _, le, lo,
    by rw [World.setCell]; simp; exact Nat.le_trans h.lt hG.by_.size, (h.b.trans ((grew_below h.on h.lt hG).mono (by omega))).setCell (p := ⟨go, 3, none⟩) (by show w.heap.size ≤ go; omega) _, (h.bg.trans ((grew_below h.on h.lt hG).mono (by omega))).setCell (p := ⟨go, 3, none⟩) (Nat.le_refl _) _⟩
/-- The items have grown. -/
theorem PutS.items (h : PutS w w0 wr gv go Vc Xc k vn vi ns is) (hO : VOwn w2 (go + 1) u is') (hG : Grew wr vi w2 u) : PutS w w0 (w2.setCell ⟨go, 4, none⟩ u) gv go Vc Xc k vn u ns is' := by
  have lo := h.lo
  have le := h.le
  have g1 := h.v.grew h.oi (by omega) hG
  have g2 := h.x.grew h.oi (by omega) hG
  have g3 := h.r.grew h.oi (by omega) hG
  have g4 := h.o.grew h.oi (by omega) hG
  have hi : SOwn w2 (go + 1) vn ns := owns_grown h.on hG.by_ (owns_apart h.on h.oi (by decide))
  have g5 := g4.set_ 4 u
  rw [outB.set4] at g5
  exact ⟨g1.far (by show gv ≠ go; omega) _, g2.far (by show gv + 1 ≠ go; omega) _, g3.far (by show gv + 2 ≠ go; omega) _, g5, owns_store hi (by omega) _ _, owns_store hO (by omega) _ _, le, lo,
    by rw [World.setCell]; simp; exact Nat.le_trans h.lt hG.by_.size, (h.b.trans ((grew_below h.oi h.lt hG).mono (by omega))).setCell (p := ⟨go, 4, none⟩) (by show w.heap.size ≤ go; omega) _, (h.bg.trans ((grew_below h.oi h.lt hG).mono (by omega))).setCell (p := ⟨go, 4, none⟩) (Nat.le_refl _) _⟩
end
theorem Cells.left {w : World} {B : Nat} {A : Option Addr} {xs ys : List Value} (h : Cells w B A (xs ++ ys)) : Cells w B A xs := fun k u hu => h k u (by rw [List.getElem?_append_left (List.getElem?_eq_some_iff.1 hu).1]; exact hu)
theorem Cells.right {w : World} {B b off : Nat} {xs ys : List Value} (h : Cells w B (some ⟨b, off, none⟩) (xs ++ ys)) : Cells w B (some ⟨b, off + xs.length, none⟩) ys := by
  have := h.sub xs.length
  rwa [List.drop_left] at this
theorem flat_split (is : List LV) (p : Nat) : is.flatMap LV.cells = (is.take p).flatMap LV.cells ++ (is.drop p).flatMap LV.cells := by rw [← List.flatMap_append, List.take_append_drop]
theorem text_split (ns : List ByteArray) (p : Nat) : ns.map Value.string = (ns.take p).map Value.string ++ (ns.drop p).map Value.string := by rw [← List.map_append, List.take_append_drop]
theorem own_blk {w : World} {base : Nat} {e : TypeId} {size n n' c : Nat} {A : Option Addr} {xs : List Value} (h : w.ownsRow base e size (.slice A n' c) n xs) {a : Addr} (ha : A = some a) : base ≤ a.block := by
  subst ha
  exact (h.lt a.block rfl).1
theorem put_done {w w0 wr W9 : World} {gv go : Nat} {Vc Xc : Array Value} {k : Int} {A A' : Option Addr} {c c' : Nat} {Nn : List ByteArray} {Ni : List LV} {v x : LV}
    (hP : PutS w w0 wr gv go Vc Xc k (.slice A Nn.length c) (.slice A' Ni.length c') Nn Ni) (hW : Chg wr W9 (fun b => b = gv + 2)) (hk : -9223372036854775808 ≤ k ∧ k ≤ 9223372036854775807) (hn : ∀ s ∈ Nn, s.size ≤ 9223372036854775807)
    (hi : ∀ y ∈ Ni, y.At wr ∧ y.On (fun b => b ≠ gv + 2) ∧ Near v x y w.heap.size) :
    (LV.mk k 0 ⟨#[]⟩ A Nn c A' Ni c').At W9 ∧ Near v x (LV.mk k 0 ⟨#[]⟩ A Nn c A' Ni c') w.heap.size := by
  have lo := hP.lo
  have le := hP.le
  have h1 : SOwn W9 (go + 1) (.slice A Nn.length c) Nn := row_chgP hP.on hW (by omega)
  have h2 : VOwn W9 (go + 1) (.slice A' Ni.length c') Ni := row_chgP hP.oi hW (by omega)
  obtain ⟨c1, c2, c3, _⟩ := h1.cells
  obtain ⟨d1, d2, d3, _⟩ := h2.cells
  unfold maxLen at c3 d3
  refine ⟨?_, fun S hv hx => ?_⟩
  · unfold LV.At
    refine ⟨c1, d1, LV.allAt.2 fun y hy => ?_, hk, by omega, by decide, hn, ⟨c2, by omega⟩, ⟨d2, by omega⟩⟩
    obtain ⟨a1, a2, _⟩ := hi y hy
    exact LV.At.move (S := fun b => b ≠ gv + 2) (fun b hb hl => hW.block b hl hb) hW.size _ a1 a2
  · unfold LV.On
    refine ⟨fun a ha _ => .inr ?_, fun a ha _ => .inr ?_, LV.allOn.2 fun y hy => (hi y hy).2.2 S hv hx⟩
    · have := own_blk hP.on ha; omega
    · have := own_blk hP.oi ha; omega
/-- An item of v, as put keeps it. -/
theorem put_item {w w0 wr : World} {gv go : Nat} {Vc Xc : Array Value} {k : Int} {vn vi : Value} {Nn : List ByteArray} {Ni : List LV} {k' n' : Int} {s' : ByteArray} {An : Option Addr} {ns : List ByteArray} {cn : Nat} {Ai : Option Addr} {is : List LV} {ci : Nat} {x y : LV}
    (hP : PutS w w0 wr gv go Vc Xc k vn vi Nn Ni) (hv : (LV.mk k' n' s' An ns cn Ai is ci).At w) (hy : y ∈ is) : y.At wr ∧ y.On (fun b => b ≠ gv + 2) ∧ Near (LV.mk k' n' s' An ns cn Ai is ci) x y w.heap.size := by
  unfold LV.At at hv
  have h := LV.allAt.1 hv.2.2.1 y hy
  have le := hP.le
  refine ⟨h.below hP.b _, LV.On.mono (fun b hb => by omega) _ h.on, fun S h1 _ => ?_⟩
  unfold LV.On at h1
  exact LV.On.mono (fun b hb => .inl hb) _ (LV.allOn.1 h1.2.2 y hy)
/-- What is put, as put keeps it. -/
theorem put_new {w w0 wr : World} {gv go : Nat} {Vc Xc : Array Value} {k : Int} {vn vi : Value} {Nn : List ByteArray} {Ni : List LV} {v x z : LV}
    (hP : PutS w w0 wr gv go Vc Xc k vn vi Nn Ni) (hgv : gv = w.heap.size) (hgo : w0.heap.size = go) (hz : z.At w0) (hv : v.At w) (hx : x.At w) (hN : Near v x z (w.heap.size + 3)) : z.At wr ∧ z.On (fun b => b ≠ gv + 2) ∧ Near v x z w.heap.size := by
  refine ⟨hz.below (by have := hP.bg; rw [← hgo] at this; exact this) _, LV.On.mono (fun b hb => by rcases hb with h | h <;> omega) _ (hN (fun k => k < w.heap.size) hv.on hx.on), hN.up (fun _ h => h) (by omega)⟩
theorem one_text (w : World) (st : ByteArray) : Cells (w.alloc (.cells #[.string st] 9)) (w.heap.size + 1) (some ⟨w.heap.size, 0, none⟩) ([st].map Value.string) := cells_blk w #[.string st] 9
theorem one_val (w : World) (z : LV) (xs : Array Value) (h : xs.toList = z.cells) : Cells (w.alloc (.cells xs 25)) (w.heap.size + 1) (some ⟨w.heap.size, 0, none⟩) ([z].flatMap LV.cells) := by
  have := cells_blk w xs 25
  rw [h] at this
  simpa using this
theorem formed_sizes {k n : Int} {s : ByteArray} {ns : List ByteArray} {is : List JV} {left : Nat} (hf : FormedP (.mk k n s ns is) left) : ns.length ≤ 24 ∧ is.length ≤ 24 ∧ (k = 6 → ns.length = is.length) := by
  rw [FormedP] at hf
  obtain ⟨_, ⟨h0, h1, _, _, _, h5, h6⟩, _⟩ := hf
  by_cases hk : k < 5
  · have := h5 hk; omega
  · have := h6 (by omega)
    by_cases hk6 : k = 6
    · have := this.2.1 hk6; omega
    · have := this.2.2 hk6; omega
theorem SOwn.any {ops : Array Oper} {rest : List Oper} {w : World} {o : Oper} {a : Act} {Q : Exit → Act → World → Prop} (hgd : o.guard = none) (s x : Operand)
    (ho : o.op = .call { callee := .builtin .append, args := #[s, x], argTypes := #[22, 22] })
    (base : Nat) (v : Value) (ns : List ByteArray) (hs : a.eval s = v) (hown : SOwn w base v ns) (B : Nat) (A : Option Addr) (m c : Nat) (news : List ByteArray) (hx : a.eval x = .slice A m c) (hm : m = news.length) (hc : Cells w B A (news.map Value.string))
    (hlen : ns.length + news.length ≤ 1000000000) (hbase : base ≤ w.heap.size)
    (h : ∀ A' c' w', SOwn w' base (.slice A' (ns.length + m) c') (ns ++ news) → Grew w v w' (.slice A' (ns.length + m) c') → wpList Tryd.prog ops Q rest (a.put o.dst (.slice A' (ns.length + m) c')) w') : wpList Tryd.prog ops Q (o :: rest) a w := by
  subst hm
  refine appG_any Tryd.underlying22 info_text rfl (by decide) hgd s x ho base v ns.length _ hs hown B A news.length c _ hx hc (by simp) (texts_one news) (by unfold maxLen; omega) (by omega) hbase fun v' w' h1 h2 => ?_
  obtain ⟨A', c', e, _⟩ := ownsRow_shape h1
  subst e
  exact h A' c' w' (SOwn.of h1) h2
end Go.Proofs.YtpnbmgfnnmmokaaDoor
