/-
  Rows of rows of bytes that the call owns.
-/
import Derived.Test.YtbngcinhjoigaaaOw
import Derived.Test.YtbngcinhjoigaaaVa
set_option linter.unusedVariables false
namespace Go.Proofs.Ytbngcinhjoigaaa
open Go.RowKit

/-- All blocks of bytes are as they were. -/
def BK (w w' : World) : Prop := ∀ (k : Nat) (cur : Array Value) (mk : Nat × Nat), w.heap[k]? = some (Obj.cells cur 5 mk) → w'.heap[k]? = w.heap[k]?
theorem row_block {w : World} {base : Nat} {e : TypeId} {size n k : Nat} {v : Value} {xs : List Value} (h : w.ownsRow base e size v n xs) (hk : v.ownBlock = some k) : ∃ cur, w.heap[k]? = some (.cells cur e (0, 0)) := by
  rcases h.2 with ⟨rfl, _⟩ | ⟨g', cap, cur, rfl, _, hh, _⟩
  · cases hk
  · injection hk with hk
    subst hk
    exact ⟨cur, hh⟩
/-- Bytes l at the address A, in a row of bytes. -/
def Bytes (w : World) (A : Option Addr) (l : List Int) : Prop := Cells w w.heap.size A (U8 l) ∧ ∀ ad, A = some ad → ∃ cur mk, w.heap[ad.block]? = some (Obj.cells cur 5 mk)
theorem Bytes.keep {w w' : World} {A : Option Addr} {l : List Int} (h : Bytes w A l) (hk : BK w w') : Bytes w' A l := by
  refine ⟨fun k u hu => ?_, fun ad e => ?_⟩
  · obtain ⟨b, off, rfl, hb, hc⟩ := h.1 k u hu
    obtain ⟨cur, mk, hh⟩ := h.2 _ rfl
    have hc' : w'.cell? ⟨b, off + k, none⟩ = some u := (World.cell?_of_block (a := ⟨b, off + k, none⟩) (hk b cur mk hh)).trans hc
    exact ⟨b, off, rfl, World.block_lt_of_cell? w' _ hc', hc'⟩
  · obtain ⟨cur, mk, hh⟩ := h.2 ad e
    exact ⟨cur, mk, (hk _ cur mk hh).trans hh⟩
theorem Own.bytes {w : World} {base : Nat} {A : Option Addr} {n c : Nat} {l : List Int} (h : Own w base (.slice A n c) l) : Bytes w A l := by
  refine ⟨h.cells, fun ad e => ?_⟩
  subst e
  obtain ⟨cur, hb⟩ := row_block (k := ad.block) h rfl
  exact ⟨cur, _, hb⟩
theorem BK.of_below {w w' : World} (h : Below w.heap.size w w') : BK w w' := fun k cur mk hk => h.block k (by
  rcases Nat.lt_or_ge k w.heap.size with h | h
  · exact h
  · rw [Array.getElem?_eq_none h] at hk; cases hk)

/-- The slice v has the bytes l, in a row of bytes. -/
def RowV (w : World) (v : Value) (l : List Int) : Prop := ∃ A c, v = .slice A l.length c ∧ Bytes w A l ∧ l.length ≤ c ∧ c ≤ 9223372036854775807 ∧ Oct l
theorem RowV.keep {w w' : World} {v : Value} {l : List Int} (h : RowV w v l) (hk : BK w w') : RowV w' v l := by
  obtain ⟨A, c, rfl, h1, h2⟩ := h
  exact ⟨A, c, rfl, h1.keep hk, h2⟩
/-- Rows of bytes. -/
def RowsV (w : World) : List Value → List (List Int) → Prop
  | [], [] => True
  | v :: vs, l :: ls => RowV w v l ∧ RowsV w vs ls
  | _, _ => False
theorem RowsV.len {w : World} : ∀ {vs : List Value} {ls : List (List Int)}, RowsV w vs ls → vs.length = ls.length
  | [], [], _ => rfl
  | _ :: _, _ :: _, h => by simp [h.2.len]
  | [], _ :: _, h => h.elim
  | _ :: _, [], h => h.elim
theorem RowsV.keep {w w' : World} (hk : BK w w') : ∀ {vs : List Value} {ls : List (List Int)}, RowsV w vs ls → RowsV w' vs ls
  | [], [], _ => trivial
  | _ :: _, _ :: _, h => ⟨h.1.keep hk, h.2.keep hk⟩
  | [], _ :: _, h => h.elim
  | _ :: _, [], h => h.elim
theorem RowsV.snoc {w : World} {v : Value} {l : List Int} (hv : RowV w v l) : ∀ {vs : List Value} {ls : List (List Int)}, RowsV w vs ls → RowsV w (vs ++ [v]) (ls ++ [l])
  | [], [], _ => ⟨hv, trivial⟩
  | _ :: _, _ :: _, h => ⟨h.1, h.2.snoc hv⟩
  | [], _ :: _, h => h.elim
  | _ :: _, [], h => h.elim
theorem RowsV.at_ {w : World} : ∀ {vs : List Value} {ls : List (List Int)}, RowsV w vs ls → ∀ (k : Nat) (h : k < vs.length) (h' : k < ls.length), RowV w (vs[k]) (ls[k])
  | _ :: _, _ :: _, h, 0, _, _ => h.1
  | _ :: _, _ :: _, h, k + 1, h1, h2 => h.2.at_ k (by simpa using h1) (by simpa using h2)
  | [], _, _, k, h1, _ => absurd h1 (by simp)
  | _ :: _, [], h, _, _, _ => h.elim
theorem RowV.one {w : World} {v : Value} {l : List Int} (h : RowV w v l) : v.oneCell' = true := by obtain ⟨A, c, rfl, _⟩ := h; rfl
theorem RowsV.ones {w : World} : ∀ {vs : List Value} {ls : List (List Int)}, RowsV w vs ls → ∀ u ∈ vs, u.oneCell' = true
  | [], _, _, u, hu => by simp at hu
  | v :: vs, l :: ls, h, u, hu => by
    rcases List.mem_cons.1 hu with rfl | hu
    · exact h.1.one
    · exact h.2.ones u hu
  | _ :: _, [], h, _, _ => h.elim
/-- A row of rows of bytes that the call owns. -/
def OwnR (w : World) (base : Nat) (v : Value) (ls : List (List Int)) : Prop := ∃ vs, w.ownsRow base 26 1 v vs.length vs ∧ RowsV w vs ls
theorem OwnR.nil (w : World) (base : Nat) : OwnR w base (.slice none 0 0) [] := ⟨[], World.ownsRow_nil _ _ _ _, trivial⟩
theorem OwnR.shape {w : World} {base : Nat} {v : Value} {ls : List (List Int)} (h : OwnR w base v ls) : ∃ A c vs, v = .slice A ls.length c ∧ ls.length ≤ c ∧ c ≤ maxLen ∧ Cells w w.heap.size A vs ∧ RowsV w vs ls := by
  obtain ⟨vs, h1, h2⟩ := h
  obtain ⟨A, c, e, hc1, hc2, hc⟩ := ownsRow_shape h1
  rw [h2.len] at e hc1
  exact ⟨A, c, vs, e, hc1, hc2, hc, h2⟩
theorem OwnR.keep {w w' : World} {base : Nat} {v : Value} {ls : List (List Int)} (h : OwnR w base v ls) (hb : BK w w') {row : Option Nat} (hg : w.grownBy w' row) (hne : v.ownBlock = none ∨ v.ownBlock ≠ row) : OwnR w' base v ls := by
  obtain ⟨vs, h1, h2⟩ := h
  exact ⟨vs, World.ownsRow.kept h1 hg hne, h2.keep hb⟩
theorem OwnR.below {w w' : World} {base : Nat} {v : Value} {ls : List (List Int)} (h : OwnR w base v ls) (hb : Below w.heap.size w w') : OwnR w' base v ls :=
  h.keep (BK.of_below hb) (row := none) ⟨hb.os, hb.tape, hb.output, hb.size, fun k hk _ => hb.block k hk⟩ (by cases v.ownBlock <;> simp)
theorem row_type {w : World} {base : Nat} {e : TypeId} {size n b : Nat} {v : Value} {xs : List Value} {cur : Array Value} {t : TypeId} {mk : Nat × Nat} (h : w.ownsRow base e size v n xs) (hb : w.heap[b]? = some (.cells cur t mk)) (ht : t ≠ e) : some b ≠ v.ownBlock := by
  intro hk
  obtain ⟨c2, h2⟩ := row_block h hk.symm
  rw [hb] at h2
  injection h2 with h2
  injection h2 with _ h2
  exact ht h2
theorem row_grew {w w' : World} {base base' : Nat} {e e' : TypeId} {size n size' n' : Nat} {v u u' : Value} {xs ys : List Value} (h : w.ownsRow base e size v n xs) (hu : w.ownsRow base' e' size' u n' ys) (hg : Grew w u w' u') (ht : e ≠ e') : w'.ownsRow base e size v n xs := by
  refine World.ownsRow.kept h hg.by_ ?_
  cases ho : v.ownBlock with
  | none => exact .inl rfl
  | some b =>
    obtain ⟨cur, hb⟩ := row_block h ho
    exact .inr (row_type hu hb ht)
theorem OwnR.len {w : World} {base : Nat} {v : Value} {ls : List (List Int)} (h : OwnR w base v ls) : ∃ A c vs, v = .slice A ls.length c ∧ ls.length ≤ c ∧ c ≤ maxLen ∧ vs.length = ls.length ∧ w.ownsRow base 26 1 (.slice A ls.length c) ls.length vs ∧ RowsV w vs ls := by
  obtain ⟨vs, h1, h2⟩ := h
  obtain ⟨A, c, e, h3, h4, _⟩ := ownsRow_shape h1
  have hl := h2.len
  rw [hl] at h1 e h3
  subst e
  exact ⟨A, c, vs, rfl, h3, h4, hl, h1, h2⟩
theorem BK.grew {w w' : World} {base size n : Nat} {e : TypeId} {v v' : Value} {xs : List Value} (ho : w.ownsRow base e size v n xs) (h : Grew w v w' v') (he : 5 ≠ e) : BK w w' := fun k cur mk hk => by
  refine h.by_.block k ?_ (row_type ho hk he)
  rcases Nat.lt_or_ge k w.heap.size with h | h
  · exact h
  · rw [Array.getElem?_eq_none h] at hk; cases hk
theorem Own.rowV {w : World} {base : Nat} {A : Option Addr} {c : Nat} {l : List Int} (h : Own w base (.slice A l.length c) l) (ho : Oct l) : RowV w (.slice A l.length c) l := by
  obtain ⟨A', c', e, h1, h2, _⟩ := h.shape
  injection e with e1 e2 e3
  subst e1 e3
  unfold maxLen at h2
  exact ⟨A, c, rfl, h.bytes, h1, by omega, ho⟩
theorem grew_low {w w' : World} {base size n : Nat} {e : TypeId} {v v' : Value} {xs : List Value} (h : Grew w v w' v') (ho : w.ownsRow base e size v n xs) (hb : base ≤ w.heap.size) : Below base w w' :=
  (Below.refl _ _).grown h.by_ hb fun g hg => (ho.lt g hg).1
theorem info_rows : (Try.prog.info? 26).map (fun i => (i.zero, i.size, i.bytes)) = some (some (.slice none 0 0), 1, 24) := by kernel_rfl
theorem OwnR.snocV {W w6 : World} {base : Nat} {v v6 u : Value} {ls : List (List Int)} {l : List Int} {vs : List Value} (hr : W.ownsRow base 26 1 v ls.length vs) (hv : RowsV W vs ls) (hl : RowV W u l) (hr6 : w6.ownsRow base 26 1 v6 (ls.length + 1) (vs ++ [u])) (hg6 : Grew W v w6 v6) : OwnR w6 base v6 (ls ++ [l]) := by
  have hb := BK.grew hr hg6 (by decide)
  refine ⟨vs ++ [u], ?_, (hv.keep hb).snoc (hl.keep hb)⟩
  rw [List.length_append, hv.len]
  exact hr6
theorem OwnR.parts {w : World} {base : Nat} {A : Option Addr} {n c : Nat} {ls : List (List Int)} (h : OwnR w base (.slice A n c) ls) : n = ls.length ∧ ∃ vs, Cells w w.heap.size A vs ∧ RowsV w vs ls := by
  obtain ⟨A', c', vs, e, _, _, hc, hr⟩ := h.shape
  injection e with e1 e2 e3
  subst e1
  exact ⟨e2, vs, hc, hr⟩
/-- What an owned row of rows reads as. -/
theorem OwnR.rowsC {w : World} {base : Nat} {A : Option Addr} {n c : Nat} {ls : List (List Int)} (h : OwnR w base (.slice A n c) ls) : RowsC w A ls := fun k hk => by
  obtain ⟨A', c', vs, e, h1, h2, hc, hr⟩ := h.shape
  injection e with e1 e2 e3
  subst e1
  have hv : k < vs.length := by rw [hr.len]; exact hk
  obtain ⟨Ak, ck, ek, hb, hl, hcm, ho⟩ := hr.at_ k hv hk
  obtain ⟨b, off, e, hlt, hcell⟩ := hc k _ (List.getElem?_eq_getElem hv)
  rw [ek] at hcell
  exact ⟨b, off, Ak, ck, e, hlt, hcell, hb.1, ho, hl, hcm⟩
end Go.Proofs.Ytbngcinhjoigaaa
