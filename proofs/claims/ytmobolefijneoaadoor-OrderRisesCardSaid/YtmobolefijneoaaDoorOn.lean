/-
  A row of values that is moved about in memory: where its values lie, two of them exchanged.
-/
import Derived.Test.YtmobolefijneoaaDoorOm
import Derived.Test.YtmobolefijneoaaDoorWv
import Derived.Laws.IdiomCopy
set_option linter.unusedVariables false
namespace Go.Proofs.YtmobolefijneoaaDoor
open Go.RowKit

mutual
/-- In which blocks it lies. -/
def LV.On (S : Nat → Prop) : LV → Prop
  | .mk _ _ _ An ns _ Ai is _ => (∀ a, An = some a → ns ≠ [] → S a.block) ∧ (∀ a, Ai = some a → is ≠ [] → S a.block) ∧ LV.AllOn S is
def LV.AllOn (S : Nat → Prop) : List LV → Prop
  | [] => True
  | v :: vs => v.On S ∧ LV.AllOn S vs
end
theorem LV.allOn {S : Nat → Prop} : ∀ {is : List LV}, LV.AllOn S is ↔ ∀ x ∈ is, x.On S
  | [] => by simp [LV.AllOn]
  | v :: vs => by simp [LV.AllOn, LV.allOn (is := vs)]
mutual
theorem LV.On.mono {S S' : Nat → Prop} (h : ∀ k, S k → S' k) : ∀ v : LV, v.On S → v.On S'
  | .mk k n s An ns cn Ai is ci, hv => by
    unfold LV.On at hv ⊢
    exact ⟨fun a e hn => h _ (hv.1 a e hn), fun a e hn => h _ (hv.2.1 a e hn), LV.AllOn.mono h is hv.2.2⟩
theorem LV.AllOn.mono {S S' : Nat → Prop} (h : ∀ k, S k → S' k) : ∀ is : List LV, LV.AllOn S is → LV.AllOn S' is
  | [], _ => trivial
  | v :: vs, hv => ⟨LV.On.mono h v hv.1, LV.AllOn.mono h vs hv.2⟩
end
theorem Cells.lt {w : World} {B : Nat} {A : Option Addr} {xs : List Value} (h : Cells w B A xs) (hx : xs ≠ []) {a : Addr} (ha : A = some a) : a.block < B := by
  obtain ⟨b, off, e, hb, _⟩ := h.form hx
  rw [ha] at e
  injection e with e
  subst e
  exact hb
theorem flat_ne {is : List LV} (h : is ≠ []) : is.flatMap LV.cells ≠ [] := fun e => by
  have := flat_len is
  rw [e] at this
  rcases is with _ | ⟨x, r⟩
  · exact h rfl
  · simp at this
theorem map_ne {ns : List ByteArray} (h : ns ≠ []) : ns.map Value.string ≠ [] := by simpa using h
mutual
theorem LV.At.on {w : World} : ∀ v : LV, v.At w → v.On (fun k => k < w.heap.size)
  | .mk k n s An ns cn Ai is ci, hv => by
    unfold LV.At at hv
    unfold LV.On
    exact ⟨fun a e hn => hv.1.lt (map_ne hn) e, fun a e hn => hv.2.1.lt (flat_ne hn) e, LV.AllAt.on is hv.2.2.1⟩
theorem LV.AllAt.on {w : World} : ∀ is : List LV, LV.AllAt w is → LV.AllOn (fun k => k < w.heap.size) is
  | [], _ => trivial
  | v :: vs, hv => ⟨LV.At.on v hv.1, LV.AllAt.on vs hv.2⟩
end
theorem Cells.move {w w' : World} {A : Option Addr} {xs : List Value} {S : Nat → Prop} (h : Cells w w.heap.size A xs) (hS : ∀ a, A = some a → xs ≠ [] → S a.block) (hk : ∀ k, S k → k < w.heap.size → w'.heap[k]? = w.heap[k]?) (hs : w.heap.size ≤ w'.heap.size) : Cells w' w'.heap.size A xs := fun k u hu => by
  obtain ⟨b, off, e, hb, hc⟩ := h k u hu
  have hne : xs ≠ [] := fun e => by rw [e] at hu; cases hu
  exact ⟨b, off, e, by omega, (World.cell?_of_block (hk b (hS _ e hne) hb)).trans hc⟩
mutual
theorem LV.At.move {w w' : World} {S : Nat → Prop} (hk : ∀ k, S k → k < w.heap.size → w'.heap[k]? = w.heap[k]?) (hs : w.heap.size ≤ w'.heap.size) : ∀ v : LV, v.At w → v.On S → v.At w'
  | .mk k n s An ns cn Ai is ci, hv, ho => by
    unfold LV.At at hv ⊢
    unfold LV.On at ho
    obtain ⟨h1, h2, h3, h4⟩ := hv
    exact ⟨h1.move (fun a e hn => ho.1 a e (fun e2 => hn (by rw [e2]; rfl))) hk hs, h2.move (fun a e hn => ho.2.1 a e (fun e2 => hn (by rw [e2]; rfl))) hk hs, LV.AllAt.move hk hs is h3 ho.2.2, h4⟩
theorem LV.AllAt.move {w w' : World} {S : Nat → Prop} (hk : ∀ k, S k → k < w.heap.size → w'.heap[k]? = w.heap[k]?) (hs : w.heap.size ≤ w'.heap.size) : ∀ is : List LV, LV.AllAt w is → LV.AllOn S is → LV.AllAt w' is
  | [], _, _ => trivial
  | v :: vs, hv, ho => ⟨LV.At.move hk hs v hv.1 ho.1, LV.AllAt.move hk hs vs hv.2 ho.2⟩
end
/-- The q-th of some values. -/
def nth (is : List LV) (q : Nat) : LV := is.getD q (.mk 0 0 ⟨#[]⟩ none [] 0 none [] 0)
theorem nth_lt {is : List LV} {q : Nat} (h : q < is.length) : nth is q = is[q] := by unfold nth; rw [List.getD_eq_getElem?_getD, List.getElem?_eq_getElem h]; rfl
theorem nth_mem {is : List LV} {q : Nat} (h : q < is.length) : nth is q ∈ is := by rw [nth_lt h]; exact List.getElem_mem h
theorem nth_j {is : List LV} {q : Nat} (h : q < is.length) : (nth is q).j = jat (LV.js is) q := by
  rw [nth_lt h, jat_lt (by rw [LV.js_map]; simpa using h)]
  simp [LV.js_map]
/-- Two of them exchanged. -/
def swapV (is : List LV) (i k : Nat) : List LV := (is.set i (nth is k)).set k (nth is i)
theorem swapV_len (is : List LV) (i k : Nat) : (swapV is i k).length = is.length := by unfold swapV; simp
theorem nth_set {is : List LV} {i : Nat} (x : LV) (h : i < is.length) (q : Nat) : nth (is.set i x) q = if q = i then x else nth is q := by
  unfold nth
  rw [List.getD_eq_getElem?_getD, List.getElem?_set, List.getD_eq_getElem?_getD]
  by_cases e : i = q
  · subst e; rw [if_pos rfl, if_pos h, if_pos rfl]; rfl
  · rw [if_neg e, if_neg (fun h => e h.symm)]
theorem nth_swap {is : List LV} {i k : Nat} (hi : i < is.length) (hk : k < is.length) (q : Nat) : nth (swapV is i k) q = if q = k then nth is i else if q = i then nth is k else nth is q := by
  unfold swapV
  rw [nth_set _ (by simpa using hk)]
  split
  · rfl
  · rw [nth_set _ hi]
theorem swapV_mem {is : List LV} {i k : Nat} (hi : i < is.length) (hk : k < is.length) : ∀ v ∈ swapV is i k, v ∈ is := fun v hv => by
  unfold swapV at hv
  rcases List.mem_or_eq_of_mem_set hv with h | h
  · rcases List.mem_or_eq_of_mem_set h with h | h
    · exact h
    · rw [h]; exact nth_mem hk
  · rw [h]; exact nth_mem hi
theorem swapV_js {is : List LV} {i k : Nat} (hi : i < is.length) (hk : k < is.length) : LV.js (swapV is i k) = swapL (LV.js is) i k := by
  unfold swapV swapL
  rw [← nth_j hi, ← nth_j hk, LV.js_map, LV.js_map, List.map_set, List.map_set]
theorem js_length (is : List LV) : (LV.js is).length = is.length := by rw [LV.js_map]; simp

/-- A value that may stand in the row of block g. -/
structure Fit (w : World) (g : Nat) (v : LV) : Prop where
  at_ : v.At w
  on : v.On (fun b => b ≠ g)
  form : ∃ left, FormedP v.j left
/-- The row of block g holds these values, and nothing older than w0 has changed but that. -/
structure RowIs (w0 : World) (g : Nat) (is : List LV) (w : World) : Prop where
  chg : Chg w0 w (fun k => k = g)
  lt : g < w0.heap.size
  cell : ∀ q c, q < is.length → c < 5 → w.cell? ⟨g, q * 5 + c, none⟩ = (nth is q).cells[c]? ∧ w.frozen? ⟨g, q * 5 + c, none⟩ = false
  fit : ∀ v ∈ is, Fit w0 g v
theorem RowIs.below {w0 w w' : World} {g : Nat} {is : List LV} (h : RowIs w0 g is w) (hb : Below w.heap.size w w') : RowIs w0 g is w' :=
  ⟨h.chg.trans (Chg.of_below hb (fun k => k = g)) fun i hi => .inl hi, h.lt, fun q c hq hc => by
    have hg := hb.block g (by have := h.lt; have := h.chg.size; omega)
    obtain ⟨h1, h2⟩ := h.cell q c hq hc
    exact ⟨(World.cell?_of_block hg).trans h1, (World.frozen?_of_block hg).trans h2⟩, h.fit⟩
theorem RowIs.drew {w0 w : World} {g : Nat} {is : List LV} (h : RowIs w0 g is w) : RowIs w0 g is w.drew := h.below (Below.refl _ _).drew
theorem RowIs.at {w0 w : World} {g : Nat} {is : List LV} (h : RowIs w0 g is w) {q : Nat} (hq : q < is.length) : (nth is q).At w := by
  have hf := h.fit _ (nth_mem hq)
  exact LV.At.move (S := fun b => b ≠ g) (fun k hk hlt => h.chg.block k hlt hk) h.chg.size _ hf.at_ hf.on
/-- The cells of a value that stands at q. -/
theorem RowIs.five {w0 w : World} {g : Nat} {is : List LV} (h : RowIs w0 g is w) {q : Nat} (hq : q < is.length) {x0 x1 x2 x3 x4 : Value} (e : (nth is q).cells = [x0, x1, x2, x3, x4]) :
    (w.cell? ⟨g, q * 5, none⟩ = some x0 ∧ w.cell? ⟨g, q * 5 + 1, none⟩ = some x1 ∧ w.cell? ⟨g, q * 5 + 2, none⟩ = some x2 ∧ w.cell? ⟨g, q * 5 + 3, none⟩ = some x3 ∧ w.cell? ⟨g, q * 5 + 4, none⟩ = some x4) ∧
    w.frozen? ⟨g, q * 5, none⟩ = false ∧ w.frozen? ⟨g, q * 5 + 1, none⟩ = false ∧ w.frozen? ⟨g, q * 5 + 2, none⟩ = false ∧ w.frozen? ⟨g, q * 5 + 3, none⟩ = false ∧ w.frozen? ⟨g, q * 5 + 4, none⟩ = false := by
  have c := fun c hc => h.cell q c hq hc
  rw [e] at c
  exact ⟨⟨(c 0 (by omega)).1, (c 1 (by omega)).1, (c 2 (by omega)).1, (c 3 (by omega)).1, (c 4 (by omega)).1⟩, (c 0 (by omega)).2, (c 1 (by omega)).2, (c 2 (by omega)).2, (c 3 (by omega)).2, (c 4 (by omega)).2⟩
theorem Chg.setCells (g : Nat) : ∀ (vs : List Value) (o : Nat) (w : World), Chg w (w.setCells g o vs) (fun k => k = g)
  | [], _, w => Chg.refl w _
  | v :: r, o, w => (Chg.setCell w ⟨g, o, none⟩ v).trans (Chg.setCells g r (o + 1) _) fun i hi => .inl hi
/-- order.compare of two values of the row. -/
theorem RowIs.cmp {w0 w : World} {g : Nat} {is : List LV} (h : RowIs w0 g is w) {p q : Nat} (hp : p < is.length) (hq : q < is.length) (w' : World) (hb : Below w.heap.size w w') :
    Calls Tryd.prog 23 #[(nth is p).val, (nth is q).val] w' fun e w'' => e = .returned (.int .i64 (cmpJ (jat (LV.js is) p) (jat (LV.js is) q))) ∧ Below w'.heap.size w' w'' := by
  obtain ⟨l1, f1⟩ := (h.fit _ (nth_mem hp)).form
  obtain ⟨l2, f2⟩ := (h.fit _ (nth_mem hq)).form
  rw [← nth_j hp, ← nth_j hq]
  exact compare_any _ (nth is p) (nth is q) l1 l2 w' (Nat.lt_succ_self _) ((h.at hp).below hb _) ((h.at hq).below hb _) f1 f2
/-- Five cells laid at p: what stands at r is as it was. -/
theorem past5 {w : World} {g p r : Nat} (hne : p ≠ r) {x0 x1 x2 x3 x4 : Value} (h : w.cell? ⟨g, r * 5, none⟩ = some x0 ∧ w.cell? ⟨g, r * 5 + 1, none⟩ = some x1 ∧ w.cell? ⟨g, r * 5 + 2, none⟩ = some x2 ∧ w.cell? ⟨g, r * 5 + 3, none⟩ = some x3 ∧ w.cell? ⟨g, r * 5 + 4, none⟩ = some x4) (y0 y1 y2 y3 y4 : Value) :
    (((((w.setCell ⟨g, p * 5, none⟩ y0).setCell ⟨g, p * 5 + 1, none⟩ y1).setCell ⟨g, p * 5 + 2, none⟩ y2).setCell ⟨g, p * 5 + 3, none⟩ y3).setCell ⟨g, p * 5 + 4, none⟩ y4).cell? ⟨g, r * 5, none⟩ = some x0 ∧
    (((((w.setCell ⟨g, p * 5, none⟩ y0).setCell ⟨g, p * 5 + 1, none⟩ y1).setCell ⟨g, p * 5 + 2, none⟩ y2).setCell ⟨g, p * 5 + 3, none⟩ y3).setCell ⟨g, p * 5 + 4, none⟩ y4).cell? ⟨g, r * 5 + 1, none⟩ = some x1 ∧
    (((((w.setCell ⟨g, p * 5, none⟩ y0).setCell ⟨g, p * 5 + 1, none⟩ y1).setCell ⟨g, p * 5 + 2, none⟩ y2).setCell ⟨g, p * 5 + 3, none⟩ y3).setCell ⟨g, p * 5 + 4, none⟩ y4).cell? ⟨g, r * 5 + 2, none⟩ = some x2 ∧
    (((((w.setCell ⟨g, p * 5, none⟩ y0).setCell ⟨g, p * 5 + 1, none⟩ y1).setCell ⟨g, p * 5 + 2, none⟩ y2).setCell ⟨g, p * 5 + 3, none⟩ y3).setCell ⟨g, p * 5 + 4, none⟩ y4).cell? ⟨g, r * 5 + 3, none⟩ = some x3 ∧
    (((((w.setCell ⟨g, p * 5, none⟩ y0).setCell ⟨g, p * 5 + 1, none⟩ y1).setCell ⟨g, p * 5 + 2, none⟩ y2).setCell ⟨g, p * 5 + 3, none⟩ y3).setCell ⟨g, p * 5 + 4, none⟩ y4).cell? ⟨g, r * 5 + 4, none⟩ = some x4 := by
  obtain ⟨h0, h1, h2, h3, h4⟩ := h
  have out : ∀ c, c < 5 → (w.setCells g (p * 5) [y0, y1, y2, y3, y4]).cell? ⟨g, r * 5 + c, none⟩ = w.cell? ⟨g, r * 5 + c, none⟩ := fun c hc => World.cell?_setCells_out g _ (p * 5) w _ fun _ _ => by
    show r * 5 + c < p * 5 ∨ p * 5 + 5 ≤ r * 5 + c
    omega
  exact ⟨(out 0 (by omega)).trans h0, (out 1 (by omega)).trans h1, (out 2 (by omega)).trans h2, (out 3 (by omega)).trans h3, (out 4 (by omega)).trans h4⟩
/-- Five cells laid at i, and at k. -/
theorem RowIs.swapped {w0 w : World} {g : Nat} {is : List LV} (h : RowIs w0 g is w) {i k : Nat} (hi : i < is.length) (hk : k < is.length) :
    RowIs w0 g (swapV is i k) ((w.setCells g (i * 5) (nth is k).cells).setCells g (k * 5) (nth is i).cells) := by
  have li := LV.cells_len (nth is i)
  have lk := LV.cells_len (nth is k)
  have one : ∀ (W : World) (p : Nat) (v : LV), (∀ q c, q < is.length → c < 5 → (W.cell? ⟨g, q * 5 + c, none⟩).isSome = true) → p < is.length →
      ∀ q c, q < is.length → c < 5 → (W.setCells g (p * 5) v.cells).cell? ⟨g, q * 5 + c, none⟩ = if q = p then v.cells[c]? else W.cell? ⟨g, q * 5 + c, none⟩ := fun W p v hW hp q c hq hc => by
    have lv := LV.cells_len v
    by_cases e : q = p
    · subst e
      rw [if_pos rfl, World.cell?_setCells_in g v.cells (q * 5) W (fun j hj => hW q j hq (by omega)) c (by omega), List.getElem?_eq_getElem (by omega)]
    · rw [if_neg e, World.cell?_setCells_out g v.cells (p * 5) W _ (fun _ _ => by
        show q * 5 + c < p * 5 ∨ p * 5 + v.cells.length ≤ q * 5 + c
        rw [lv]
        omega)]
  have some1 : ∀ q c, q < is.length → c < 5 → (w.cell? ⟨g, q * 5 + c, none⟩).isSome = true := fun q c hq hc => by
    rw [(h.cell q c hq hc).1, List.getElem?_eq_getElem (by rw [LV.cells_len]; omega)]; rfl
  have some2 : ∀ q c, q < is.length → c < 5 → ((w.setCells g (i * 5) (nth is k).cells).cell? ⟨g, q * 5 + c, none⟩).isSome = true := fun q c hq hc => by
    rw [one w i _ some1 hi q c hq hc]
    split
    · rw [List.getElem?_eq_getElem (by omega)]; rfl
    · exact some1 q c hq hc
  refine ⟨h.chg.trans ((Chg.setCells g _ _ _).trans (Chg.setCells g _ _ _) fun i hi => .inl hi) fun i hi => .inl hi, h.lt, fun q c hq hc => ⟨?_, ?_⟩, fun v hv => h.fit v (swapV_mem hi hk v hv)⟩
  · rw [swapV_len] at hq
    rw [one _ k _ some2 hk q c hq hc, one _ i _ some1 hi q c hq hc, nth_swap hi hk q, (h.cell q c hq hc).1]
    by_cases e : q = k
    · rw [if_pos e, if_pos e]
    · rw [if_neg e, if_neg e]
      by_cases e2 : q = i
      · rw [if_pos e2, if_pos e2]
      · rw [if_neg e2, if_neg e2]
  · rw [swapV_len] at hq
    rw [World.frozen?_setCells, World.frozen?_setCells]
    exact (h.cell q c hq hc).2
end Go.Proofs.YtmobolefijneoaaDoor
