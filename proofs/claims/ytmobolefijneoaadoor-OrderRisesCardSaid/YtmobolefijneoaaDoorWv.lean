/-
  Rows of values, and of strings, that the call owns; append onto them.
-/
import Derived.Test.YtmobolefijneoaaDoorWb
set_option linter.unusedVariables false
namespace Go.Proofs.YtmobolefijneoaaDoor
open Go.RowKit

theorem info_val : (Tryd.prog.info? 25).map (fun i => (i.zero, i.size, i.bytes)) = some (some (.agg #[.int .i64 0, .int .i64 0, .string ByteArray.empty, .slice none 0 0, .slice none 0 0]), 5, 80) := by kernel_rfl
theorem info_text : (Tryd.prog.info? 9).map (fun i => (i.zero, i.size, i.bytes)) = some (some (.string ByteArray.empty), 1, 16) := by kernel_rfl
theorem val_one (v : LV) : ∀ u ∈ v.cells, u.oneCell' = true := by
  obtain ⟨k, n, s, An, ns, cn, Ai, is, ci⟩ := v
  intro u hu
  simp only [LV.cells, List.mem_cons, List.not_mem_nil, or_false] at hu
  rcases hu with rfl | rfl | rfl | rfl | rfl <;> rfl
theorem vals_one (is : List LV) : ∀ u ∈ is.flatMap LV.cells, u.oneCell' = true := fun u hu => by
  obtain ⟨v, _, h⟩ := List.mem_flatMap.1 hu
  exact val_one v u h
theorem texts_one (ns : List ByteArray) : ∀ u ∈ ns.map Value.string, u.oneCell' = true := fun u hu => by
  obtain ⟨v, _, rfl⟩ := List.mem_map.1 hu
  rfl
theorem flat_len (is : List LV) : (is.flatMap LV.cells).length = is.length * 5 := by
  induction is with
  | nil => rfl
  | cons v vs ih => rw [List.flatMap_cons, List.length_append, LV.cells_len, ih, List.length_cons]; omega

theorem owns_below {w w' : World} {base : Nat} {e : TypeId} {size n : Nat} {v : Value} {xs : List Value} (h : w.ownsRow base e size v n xs) (hb : Below w.heap.size w w') : w'.ownsRow base e size v n xs :=
  World.ownsRow.kept (row := none) h ⟨hb.os, hb.tape, hb.output, hb.size, fun k hk _ => hb.block k hk⟩ (by cases v.ownBlock <;> simp)
/-- Another block was grown. -/
theorem owns_grown {w w' : World} {base : Nat} {e : TypeId} {size n : Nat} {v : Value} {xs : List Value} {row : Option Nat} (h : w.ownsRow base e size v n xs) (hg : w.grownBy w' row) (hne : v.ownBlock = none ∨ v.ownBlock ≠ row) : w'.ownsRow base e size v n xs :=
  World.ownsRow.kept h hg hne
/-- A cell of a block ahead of the row was stored. -/
theorem owns_store {w : World} {base : Nat} {e : TypeId} {size n : Nat} {v : Value} {xs : List Value} {g : Nat} (h : w.ownsRow base e size v n xs) (hg : g < base) (i : Nat) (u : Value) : (w.setCell ⟨g, i, none⟩ u).ownsRow base e size v n xs :=
  World.ownsRow.kept (row := some g) h ⟨rfl, rfl, rfl, by simp [World.setCell], fun k hk hk' => Below.heap_setCell _ _ _ _ (fun e => hk' (by rw [e]))⟩
    (Or.inr fun e => by have := (h.lt g e).1; omega)
theorem owns_base {w : World} {base b' : Nat} {e : TypeId} {size n : Nat} {v : Value} {xs : List Value} (h : w.ownsRow base e size v n xs) (hb : b' ≤ base) : w.ownsRow b' e size v n xs := by
  refine ⟨h.1, ?_⟩
  rcases h.2 with h1 | ⟨g, cap, cur, e, hb', rest⟩
  · exact .inl h1
  · exact .inr ⟨g, cap, cur, e, by omega, rest⟩
theorem grew_below {w w' : World} {base : Nat} {e : TypeId} {size n : Nat} {v v' : Value} {xs : List Value} (h : w.ownsRow base e size v n xs) (hb : base ≤ w.heap.size) (hg : Grew w v w' v') : Below base w w' :=
  (Below.refl _ _).grown hg.by_ hb fun g hgk => (h.lt g hgk).1
/-- A block ahead of the row is as it was. -/
theorem Blk.grew {w w' : World} {base : Nat} {e : TypeId} {size n : Nat} {v v' : Value} {xs : List Value} {g : Nat} {t : TypeId} {cs : Array Value} (hg : Blk w g t cs) (h : w.ownsRow base e size v n xs) (hlt : g < base) (hG : Grew w v w' v') : Blk w' g t cs :=
  hg.grown hG.by_ fun e => by have := (h.lt g e.symm).1; omega
theorem Grew.undrewN {w w' : World} {v v' : Value} (h : Grew w.drew v w' v') : Grew w v w' v' := ⟨⟨h.by_.os, h.by_.tape, h.by_.output, h.by_.size, h.by_.block⟩, h.at_⟩

/-- A row of values that the call owns. -/
def VOwn (w : World) (base : Nat) (v : Value) (is : List LV) : Prop := w.ownsRow base 25 5 v is.length (is.flatMap LV.cells)
theorem VOwn.nil (w : World) (base : Nat) : VOwn w base (.slice none 0 0) [] := World.ownsRow_nil _ _ _ _
theorem VOwn.alloc {w : World} {base : Nat} {v : Value} {is : List LV} (h : VOwn w base v is) (o : Obj) : VOwn (w.alloc o) base v is := World.ownsRow.alloc h o
theorem VOwn.drew {w : World} {base : Nat} {v : Value} {is : List LV} (h : VOwn w base v is) : VOwn w.drew base v is := h
theorem VOwn.below {w w' : World} {base : Nat} {v : Value} {is : List LV} (h : VOwn w base v is) (hb : Below w.heap.size w w') : VOwn w' base v is := owns_below h hb
theorem VOwn.shape {w : World} {base : Nat} {v : Value} {is : List LV} (h : VOwn w base v is) : ∃ A c, v = .slice A is.length c ∧ is.length ≤ c ∧ c ≤ maxLen ∧ Cells w w.heap.size A (is.flatMap LV.cells) := ownsRow_shape h
theorem VOwn.cells {w : World} {base : Nat} {A : Option Addr} {n c : Nat} {is : List LV} (h : VOwn w base (.slice A n c) is) : Cells w w.heap.size A (is.flatMap LV.cells) ∧ is.length ≤ c ∧ c ≤ maxLen ∧ n = is.length := by
  obtain ⟨A', c', e, h1, h2, hc⟩ := h.shape
  injection e with e1 e2 e3
  subst e1 e2 e3
  exact ⟨hc, h1, h2, rfl⟩
theorem VOwn.of {w : World} {base : Nat} {v : Value} {is news : List LV} (h : w.ownsRow base 25 5 v (is.length + news.length) (is.flatMap LV.cells ++ news.flatMap LV.cells)) : VOwn w base v (is ++ news) := by
  unfold VOwn
  rw [List.length_append, List.flatMap_append]
  exact h
/-- append of values onto a row, in a region that draws its order. -/
theorem VOwn.step {ops : Array Oper} {w : World} {o : Oper} {a : Act} {K : Act → World → Prop} {Q : Exit → Act → World → Prop} {E : Prop} (hgd : o.guard = none) (s x : Operand)
    (ho : o.op = .call { callee := .builtin .append, args := #[s, x], argTypes := #[23, 23] })
    (base : Nat) (v : Value) (is : List LV) (hs : a.eval s = v) (hown : VOwn w base v is) (B : Nat) (A : Option Addr) (m c : Nat) (news : List LV) (hx : a.eval x = .slice A m c) (hm : m = news.length) (hc : Cells w B A (news.flatMap LV.cells))
    (hlen : is.length + news.length ≤ 1000000000) (hbase : base ≤ w.heap.size)
    (h : ∀ A' c' w', VOwn w' base (.slice A' (is.length + m) c') (is ++ news) → Grew w v w' (.slice A' (is.length + m) c') → K (a.put o.dst (.slice A' (is.length + m) c')) w') :
    if Region.wanted o (yielded ops a.tmps) = true then Oper.wp Tryd.prog o a w K Q else E := by
  subst hm
  refine appG_step Tryd.underlying23 info_val rfl (by decide) hgd s x ho base v is.length _ hs hown B A news.length c _ hx hc (flat_len news) (vals_one news) (by unfold maxLen; omega) (by omega) hbase fun v' w' h1 h2 => ?_
  obtain ⟨A', c', e, _⟩ := ownsRow_shape h1
  subst e
  exact h A' c' w' (VOwn.of h1) h2
/-- append of values onto a row, in a plain region. -/
theorem VOwn.any {ops : Array Oper} {rest : List Oper} {w : World} {o : Oper} {a : Act} {Q : Exit → Act → World → Prop} (hgd : o.guard = none) (s x : Operand)
    (ho : o.op = .call { callee := .builtin .append, args := #[s, x], argTypes := #[23, 23] })
    (base : Nat) (v : Value) (is : List LV) (hs : a.eval s = v) (hown : VOwn w base v is) (B : Nat) (A : Option Addr) (m c : Nat) (news : List LV) (hx : a.eval x = .slice A m c) (hm : m = news.length) (hc : Cells w B A (news.flatMap LV.cells))
    (hlen : is.length + news.length ≤ 1000000000) (hbase : base ≤ w.heap.size)
    (h : ∀ A' c' w', VOwn w' base (.slice A' (is.length + m) c') (is ++ news) → Grew w v w' (.slice A' (is.length + m) c') → wpList Tryd.prog ops Q rest (a.put o.dst (.slice A' (is.length + m) c')) w') : wpList Tryd.prog ops Q (o :: rest) a w := by
  subst hm
  refine appG_any Tryd.underlying23 info_val rfl (by decide) hgd s x ho base v is.length _ hs hown B A news.length c _ hx hc (flat_len news) (vals_one news) (by unfold maxLen; omega) (by omega) hbase fun v' w' h1 h2 => ?_
  obtain ⟨A', c', e, _⟩ := ownsRow_shape h1
  subst e
  exact h A' c' w' (VOwn.of h1) h2

/-- A row of strings that the call owns. -/
def SOwn (w : World) (base : Nat) (v : Value) (ns : List ByteArray) : Prop := w.ownsRow base 9 1 v ns.length (ns.map Value.string)
theorem SOwn.nil (w : World) (base : Nat) : SOwn w base (.slice none 0 0) [] := World.ownsRow_nil _ _ _ _
theorem SOwn.alloc {w : World} {base : Nat} {v : Value} {ns : List ByteArray} (h : SOwn w base v ns) (o : Obj) : SOwn (w.alloc o) base v ns := World.ownsRow.alloc h o
theorem SOwn.drew {w : World} {base : Nat} {v : Value} {ns : List ByteArray} (h : SOwn w base v ns) : SOwn w.drew base v ns := h
theorem SOwn.below {w w' : World} {base : Nat} {v : Value} {ns : List ByteArray} (h : SOwn w base v ns) (hb : Below w.heap.size w w') : SOwn w' base v ns := owns_below h hb
theorem SOwn.shape {w : World} {base : Nat} {v : Value} {ns : List ByteArray} (h : SOwn w base v ns) : ∃ A c, v = .slice A ns.length c ∧ ns.length ≤ c ∧ c ≤ maxLen ∧ Cells w w.heap.size A (ns.map Value.string) := ownsRow_shape h
theorem SOwn.cells {w : World} {base : Nat} {A : Option Addr} {n c : Nat} {ns : List ByteArray} (h : SOwn w base (.slice A n c) ns) : Cells w w.heap.size A (ns.map Value.string) ∧ ns.length ≤ c ∧ c ≤ maxLen ∧ n = ns.length := by
  obtain ⟨A', c', e, h1, h2, hc⟩ := h.shape
  injection e with e1 e2 e3
  subst e1 e2 e3
  exact ⟨hc, h1, h2, rfl⟩
theorem SOwn.of {w : World} {base : Nat} {v : Value} {ns news : List ByteArray} (h : w.ownsRow base 9 1 v (ns.length + news.length) (ns.map Value.string ++ news.map Value.string)) : SOwn w base v (ns ++ news) := by
  unfold SOwn
  rw [List.length_append, List.map_append]
  exact h
theorem SOwn.step {ops : Array Oper} {w : World} {o : Oper} {a : Act} {K : Act → World → Prop} {Q : Exit → Act → World → Prop} {E : Prop} (hgd : o.guard = none) (s x : Operand)
    (ho : o.op = .call { callee := .builtin .append, args := #[s, x], argTypes := #[22, 22] })
    (base : Nat) (v : Value) (ns : List ByteArray) (hs : a.eval s = v) (hown : SOwn w base v ns) (B : Nat) (A : Option Addr) (m c : Nat) (news : List ByteArray) (hx : a.eval x = .slice A m c) (hm : m = news.length) (hc : Cells w B A (news.map Value.string))
    (hlen : ns.length + news.length ≤ 1000000000) (hbase : base ≤ w.heap.size)
    (h : ∀ A' c' w', SOwn w' base (.slice A' (ns.length + m) c') (ns ++ news) → Grew w v w' (.slice A' (ns.length + m) c') → K (a.put o.dst (.slice A' (ns.length + m) c')) w') :
    if Region.wanted o (yielded ops a.tmps) = true then Oper.wp Tryd.prog o a w K Q else E := by
  subst hm
  refine appG_step Tryd.underlying22 info_text rfl (by decide) hgd s x ho base v ns.length _ hs hown B A news.length c _ hx hc (by simp) (texts_one news) (by unfold maxLen; omega) (by omega) hbase fun v' w' h1 h2 => ?_
  obtain ⟨A', c', e, _⟩ := ownsRow_shape h1
  subst e
  exact h A' c' w' (SOwn.of h1) h2
end Go.Proofs.YtmobolefijneoaaDoor
