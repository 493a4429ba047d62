/-
  More words for cells.
-/
import Derived.Test.YtkjbicenhncpeaaKit
set_option linter.unusedVariables false
namespace Go.Proofs.Ytkjbicenhncpeaa
open Go.RowKit

theorem Cells.known {w : World} {B b off : Nat} {xs : List Value} (h : Cells w B (some ⟨b, off, none⟩) xs) {k : Nat} {u : Value} (hu : xs[k]? = some u) : w.cell? ⟨b, off + k, none⟩ = some u := by
  obtain ⟨b', off', e, _, hc⟩ := h k u hu
  injection e with e
  injection e with e1 e2
  subst e1 e2
  exact hc
theorem Cells.knownU {w : World} {B b off : Nat} {l : List Int} (h : Cells w B (some ⟨b, off, none⟩) (U8 l)) {k : Nat} (hk : k < l.length) : w.cell? ⟨b, off + k, none⟩ = some (.int .u8 (l[k]'hk)) :=
  h.known (by rw [U8, List.getElem?_map, List.getElem?_eq_getElem hk]; rfl)
/-- A piece of what lies there. -/
theorem Cells.sub {w : World} {B b off : Nat} {xs : List Value} (h : Cells w B (some ⟨b, off, none⟩) xs) (i : Nat) : Cells w B (some ⟨b, off + i, none⟩) (xs.drop i) := fun k u hu => by
  rw [List.getElem?_drop] at hu
  obtain ⟨b', off', e, hb, hc⟩ := h _ u hu
  injection e with e
  injection e with e1 e2
  subst e1 e2
  exact ⟨b, off + i, rfl, hb, by rw [Nat.add_assoc]; exact hc⟩
theorem U8_drop (l : List Int) (i : Nat) : U8 (l.drop i) = (U8 l).drop i := by simp [U8, List.map_drop]
theorem U8_take (l : List Int) (i : Nat) : U8 (l.take i) = (U8 l).take i := by simp [U8, List.map_take]
theorem Cells.subU {w : World} {B b off : Nat} {l : List Int} (h : Cells w B (some ⟨b, off, none⟩) (U8 l)) (i : Nat) : Cells w B (some ⟨b, off + i, none⟩) (U8 (l.drop i)) := by
  rw [U8_drop]; exact h.sub i
theorem Cells.takeU {w : World} {B : Nat} {A : Option Addr} {l : List Int} (h : Cells w B A (U8 l)) (i : Nat) : Cells w B A (U8 (l.take i)) := by
  rw [U8_take]; exact h.take i
theorem Blk.second (w : World) (o : Obj) (t : TypeId) (cs : Array Value) : Blk ((w.alloc o).alloc (.cells cs t)) (w.heap.size + 1) t cs := by
  have := Blk.new (w.alloc o) t cs
  rwa [World.size_alloc] at this
/-- A struct of three cells stored whole. -/
theorem Blk.three {w : World} {g : Nat} {t : TypeId} {x y z : Value} (h : Blk w g t #[x, y, z]) (a b c : Value) :
    Blk (((w.setCell ⟨g, 0, none⟩ a).setCell ⟨g, 1, none⟩ b).setCell ⟨g, 2, none⟩ c) g t #[a, b, c] := by
  have := ((h.set_ 0 a).set_ 1 b).set_ 2 c
  simpa using this
theorem Own.storeT {w : World} {base : Nat} {v : Value} {l : List Int} {g : Nat} {t : TypeId} {cs : Array Value} (h : Own w base v l) (hg : Blk w g t cs) (hne : 5 ≠ t) (a b c : Value) :
    Own (((w.setCell ⟨g, 0, none⟩ a).setCell ⟨g, 1, none⟩ b).setCell ⟨g, 2, none⟩ c) base v l :=
  ((h.store hg hne 0 a).store (hg.set_ 0 a) hne 1 b).store ((hg.set_ 0 a).set_ 1 b) hne 2 c
theorem below_three {B g : Nat} {w w' : World} (h : Below B w w') (hg : B ≤ g) (a b c : Value) : Below B w (((w'.setCell ⟨g, 0, none⟩ a).setCell ⟨g, 1, none⟩ b).setCell ⟨g, 2, none⟩ c) :=
  ((h.setCell (p := ⟨g, 0, none⟩) hg a).setCell (p := ⟨g, 1, none⟩) hg b).setCell (p := ⟨g, 2, none⟩) hg c

/-- append of bytes, in a region that draws its order: the new slice written out. -/
theorem app_stepS {ops : Array Oper} {o : Oper} {a : Act} {K : Act → World → Prop} {Q : Exit → Act → World → Prop} {E : Prop} {w : World} (hgd : o.guard = none) (s x : Operand)
    (ho : o.op = .call { callee := .builtin .append, args := #[s, x], argTypes := #[37, 37] })
    (base : Nat) (v : Value) (l : List Int) (hs : a.eval s = v) (hown : Own w base v l)
    (B : Nat) (A : Option Addr) (c : Nat) (news : List Int) (hx : a.eval x = .slice A news.length c) (hc : Cells w B A (U8 news))
    (hlen : l.length + news.length ≤ 140737488355328) (hbase : base ≤ w.heap.size)
    (h : ∀ A' c' w', Own w' base (.slice A' (l.length + news.length) c') (l ++ news) → Grew w v w' (.slice A' (l.length + news.length) c') → K (a.put o.dst (.slice A' (l.length + news.length) c')) w') :
    if Region.wanted o (yielded ops a.tmps) = true then Oper.wp Try.prog o a w K Q else E :=
  app_step hgd s x ho base v l hs hown B A c news hx hc hlen hbase fun v' w' h1 h2 => by
    obtain ⟨A', c', e, _⟩ := h1.shape
    rw [List.length_append] at e
    subst e
    exact h A' c' w' h1 h2
def lenOf : Value → Nat | .slice _ n _ => n | _ => 0
end Go.Proofs.Ytkjbicenhncpeaa
