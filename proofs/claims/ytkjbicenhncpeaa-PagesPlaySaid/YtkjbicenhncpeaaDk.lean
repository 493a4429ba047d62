/-
  A disk in memory: what it holds, told by plain data.
-/
import Derived.Test.YtkjbicenhncpeaaOw
import Derived.Test.YtkjbicenhncpeaaIm
import Derived.Laws.LoneSync
set_option linter.unusedVariables false
namespace Go.Proofs.Ytkjbicenhncpeaa
open Go.RowKit

/-- A disk's state: its sectors, what is read, what lasts, the writes that may not last yet (the first one first), the fuse, whether it is down, and how often was read, written, synced. -/
structure DS where
  size : Int
  now : Int → Option (List Int)
  lasts : Int → Option (List Int)
  pend : List (Int × List Int)
  fuse : Int
  down : Bool
  a0 : Int
  a1 : Int
  a2 : Int

/-- All rows of bytes are as they were. -/
def BK (w w' : World) : Prop := ∀ (k : Nat) (cur : Array Value) (mk : Nat × Nat), w.heap[k]? = some (Obj.cells cur 5 mk) → w'.heap[k]? = w.heap[k]?
/-- The slice v is a sector: 256 bytes l, in a row of bytes. -/
def Sec (w : World) (v : Value) (l : List Int) : Prop :=
  ∃ b off c cur mk, v = .slice (some ⟨b, off, none⟩) 256 c ∧ w.heap[b]? = some (.cells cur 5 mk) ∧ 256 ≤ c ∧ c ≤ maxLen ∧ Cells w w.heap.size (some ⟨b, off, none⟩) (U8 l) ∧ l.length = 256 ∧ Oct l
theorem Sec.keep {w w' : World} {v : Value} {l : List Int} (h : Sec w v l) (hk : BK w w') (hs : w.heap.size ≤ w'.heap.size) : Sec w' v l := by
  obtain ⟨b, off, c, cur, mk, rfl, hb, h1, h2, hc, hl, ho⟩ := h
  refine ⟨b, off, c, cur, mk, rfl, (hk b cur mk hb).trans hb, h1, h2, fun k u hu => ?_, hl, ho⟩
  obtain ⟨b', off', e, hlt, hcell⟩ := hc k u hu
  injection e with e
  injection e with e1 e2
  subst e1 e2
  exact ⟨b, off, rfl, by omega, (World.cell?_of_block (a := ⟨b, off + k, none⟩) (hk b cur mk hb)).trans hcell⟩

/-- The rows of a list of writes. -/
def flat : List (Int × Value) → List Value
  | [] => []
  | p :: r => .int .i64 p.1 :: p.2 :: flat r
theorem flat_len (ps : List (Int × Value)) : (flat ps).length = ps.length * 2 := by
  induction ps with
  | nil => rfl
  | cons p r ih => simp [flat, ih]; omega
theorem flat_app (a b : List (Int × Value)) : flat (a ++ b) = flat a ++ flat b := by
  induction a with
  | nil => rfl
  | cons p r ih => simp [flat, ih]
theorem flat_fst {ps : List (Int × Value)} {k : Nat} (h : k < ps.length) : (flat ps)[k * 2]? = some (.int .i64 (ps[k]).1) := by
  induction ps generalizing k with
  | nil => simp at h
  | cons p r ih =>
    cases k with
    | zero => simp [flat]
    | succ k =>
      have := ih (k := k) (by simpa using h)
      rw [show (k + 1) * 2 = k * 2 + 1 + 1 by omega]
      simpa [flat] using this
theorem flat_snd {ps : List (Int × Value)} {k : Nat} (h : k < ps.length) : (flat ps)[k * 2 + 1]? = some (ps[k]).2 := by
  induction ps generalizing k with
  | nil => simp at h
  | cons p r ih =>
    cases k with
    | zero => simp [flat]
    | succ k =>
      have := ih (k := k) (by simpa using h)
      rw [show (k + 1) * 2 + 1 = k * 2 + 1 + 1 + 1 by omega]
      simpa [flat] using this

/-- The writes in memory are the writes told. -/
def Pend (w : World) : List (Int × Value) → List (Int × List Int) → Prop
  | [], [] => True
  | p :: r, q :: s => p.1 = q.1 ∧ Sec w p.2 q.2 ∧ Pend w r s
  | _, _ => False
theorem Pend.len {w : World} : ∀ {ps : List (Int × Value)} {qs : List (Int × List Int)}, Pend w ps qs → ps.length = qs.length
  | [], [], _ => rfl
  | p :: r, q :: s, h => by simp [Pend.len h.2.2]
theorem Pend.keep {w w' : World} (hk : BK w w') (hs : w.heap.size ≤ w'.heap.size) : ∀ {ps : List (Int × Value)} {qs : List (Int × List Int)}, Pend w ps qs → Pend w' ps qs
  | [], [], _ => trivial
  | p :: r, q :: s, h => ⟨h.1, h.2.1.keep hk hs, Pend.keep hk hs h.2.2⟩
theorem Pend.snoc {w : World} {n : Int} {v : Value} {l : List Int} (hv : Sec w v l) : ∀ {ps : List (Int × Value)} {qs : List (Int × List Int)}, Pend w ps qs → Pend w (ps ++ [(n, v)]) (qs ++ [(n, l)])
  | [], [], _ => ⟨rfl, hv, trivial⟩
  | p :: r, q :: s, h => ⟨h.1, h.2.1, Pend.snoc hv h.2.2⟩
theorem Pend.at_ {w : World} : ∀ {ps : List (Int × Value)} {qs : List (Int × List Int)}, Pend w ps qs → ∀ (k : Nat) (h : k < ps.length) (h' : k < qs.length), (ps[k]).1 = (qs[k]).1 ∧ Sec w (ps[k]).2 (qs[k]).2
  | p :: r, q :: s, h, 0, _, _ => ⟨h.1, h.2.1⟩
  | p :: r, q :: s, h, k + 1, h1, h2 => Pend.at_ h.2.2 k (by simpa using h1) (by simpa using h2)

/-- What a map of sectors holds. -/
def Holds (w : World) (f : Int → Option Value) (c : Int → Option (List Int)) : Prop :=
  ∀ k, (f k = none ∧ c k = none) ∨ ∃ v l, f k = some v ∧ c k = some l ∧ Sec w v l
theorem Holds.keep {w w' : World} {f : Int → Option Value} {c : Int → Option (List Int)} (h : Holds w f c) (hk : BK w w') (hs : w.heap.size ≤ w'.heap.size) : Holds w' f c := fun k => by
  rcases h k with h1 | ⟨v, l, h1, h2, h3⟩
  · exact .inl h1
  · exact .inr ⟨v, l, h1, h2, h3.keep hk hs⟩
def updC (c : Int → Option (List Int)) (k : Int) (l : List Int) : Int → Option (List Int) := fun j => if j = k then some l else c j
theorem Holds.put {w : World} {f : Int → Option Value} {c : Int → Option (List Int)} (h : Holds w f c) {k : Int} {v : Value} {l : List Int} (hv : Sec w v l) : Holds w (updM f k v) (updC c k l) := fun j => by
  unfold updM updC
  by_cases e : j = k
  · simp only [if_pos e]; exact .inr ⟨v, l, rfl, rfl, hv⟩
  · simp only [if_neg e]; exact h j

/-- The parts of a disk in memory: its maps' blocks, its list of writes. -/
structure DP where
  gn : Nat
  gl : Nat
  vp : Value
  ps : List (Int × Value)
  fn : Int → Option Value
  fl : Int → Option Value

/-- The nine cells of a disk. -/
def dcells (s : DS) (p : DP) : Array Value :=
  #[.int .i64 s.size, .map (some p.gn), .map (some p.gl), p.vp, .int .i64 s.fuse, .bool s.down, .int .i64 s.a0, .int .i64 s.a1, .int .i64 s.a2]

/-- Block g is a disk in the state s, its parts p. -/
structure DiskOf (w : World) (g : Nat) (s : DS) (p : DP) : Prop where
  blk : Blk w g 65 (dcells s p)
  now : MapIs w p.gn p.fn
  lasts : MapIs w p.gl p.fl
  two : p.gn ≠ p.gl
  row : w.ownsRow 0 86 2 p.vp p.ps.length (flat p.ps)
  hnow : Holds w p.fn s.now
  hlasts : Holds w p.fl s.lasts
  pend : Pend w p.ps s.pend

/-- The blocks that a disk may write. -/
def Foot (g : Nat) (p : DP) (k : Nat) : Prop := k = g ∨ k = p.gn ∨ k = p.gl ∨ p.vp.ownBlock = some k

/-- Block g is a disk in the state s; F: the blocks that it may write. -/
def DiskAt (w : World) (g : Nat) (s : DS) (F : Nat → Prop) : Prop := ∃ p, DiskOf w g s p ∧ ∀ k, F k ↔ Foot g p k

section
variable {w w' : World} {g : Nat} {s : DS} {p : DP}
theorem DiskOf.lt (h : DiskOf w g s p) (k : Nat) (hk : Foot g p k) : k < w.heap.size := by
  rcases hk with rfl | rfl | rfl | hk
  · exact h.blk.lt
  · exact h.now.lt
  · exact h.lasts.lt
  · exact (h.row.lt k hk).2
theorem MapIs.notCells {f : Int → Option Value} (h : MapIs w g f) {cur : Array Value} {t : TypeId} {mk : Nat × Nat} : w.heap[g]? ≠ some (.cells cur t mk) := by
  obtain ⟨L, clk, hb, _⟩ := h
  rw [hb]; intro e; cases e
theorem row_block {base : Nat} {e : TypeId} {size n k : Nat} {v : Value} {xs : List Value} (h : w.ownsRow base e size v n xs) (hk : v.ownBlock = some k) : ∃ cur, w.heap[k]? = some (.cells cur e (0, 0)) := by
  rcases h.2 with ⟨rfl, _⟩ | ⟨g', cap, cur, rfl, _, hh, _⟩
  · cases hk
  · injection hk with hk
    subst hk
    exact ⟨cur, hh⟩
theorem DiskOf.notByte (h : DiskOf w g s p) (k : Nat) (hk : Foot g p k) (cur : Array Value) (mk : Nat × Nat) : w.heap[k]? ≠ some (.cells cur 5 mk) := by
  rcases hk with rfl | rfl | rfl | hk
  · have := h.blk
    unfold Blk at this
    rw [this]
    intro e
    injection e with e
    injection e with _ e
    exact absurd e (by decide)
  · exact h.now.notCells
  · exact h.lasts.notCells
  · obtain ⟨cur', hb⟩ := row_block h.row hk
    rw [hb]
    intro e
    injection e with e
    injection e with _ e
    exact absurd e (by decide)
theorem DiskOf.bytes (h : DiskOf w g s p) (hc : Chg w w' (Foot g p)) : BK w w' := fun k cur mk hk => by
  refine hc.block k ?_ (fun hf => h.notByte k hf cur mk hk)
  rcases Nat.lt_or_ge k w.heap.size with h | h
  · exact h
  · rw [Array.getElem?_eq_none h] at hk; cases hk
/-- A disk whose own blocks are as they were, and all rows of bytes, is as it was. -/
theorem DiskOf.keep (h : DiskOf w g s p) (hf : ∀ k, Foot g p k → w'.heap[k]? = w.heap[k]?) (hk : BK w w') (hs : w.heap.size ≤ w'.heap.size) : DiskOf w' g s p where
  blk := (hf g (.inl rfl)).trans h.blk
  now := h.now.block (hf _ (.inr (.inl rfl)))
  lasts := h.lasts.block (hf _ (.inr (.inr (.inl rfl))))
  two := h.two
  row := by
    refine ⟨h.row.1, ?_⟩
    rcases h.row.2 with h1 | ⟨b, cap, cur, e, hb, hh, rest⟩
    · exact .inl h1
    · exact .inr ⟨b, cap, cur, e, hb, (hf b (.inr (.inr (.inr (by rw [e]; rfl))))).trans hh, rest⟩
  hnow := h.hnow.keep hk hs
  hlasts := h.hlasts.keep hk hs
  pend := h.pend.keep hk hs
theorem DiskOf.below (h : DiskOf w g s p) (hb : Below w.heap.size w w') : DiskOf w' g s p :=
  h.keep (fun k hk => hb.block k (h.lt k hk)) (fun k cur mk hk => hb.block k (by
    rcases Nat.lt_or_ge k w.heap.size with h | h
    · exact h
    · rw [Array.getElem?_eq_none h] at hk; cases hk)) hb.size
end
/-- Where only another disk's blocks have changed. -/
theorem DiskAt.chg {w w' : World} {g : Nat} {s : DS} {F S : Nat → Prop} (h : DiskAt w g s F) (hc : Chg w w' S) (hd : ∀ k, F k → ¬ S k) (hb : ∀ (k : Nat) (cur : Array Value) (mk : Nat × Nat), S k → w.heap[k]? ≠ some (Obj.cells cur 5 mk)) : DiskAt w' g s F := by
  obtain ⟨p, h, hF⟩ := h
  refine ⟨p, h.keep (fun k hk => hc.block k (h.lt k hk) (hd k ((hF k).2 hk))) (fun k cur mk hk => hc.block k ?_ (fun hs => hb k cur mk hs hk)) hc.size, hF⟩
  rcases Nat.lt_or_ge k w.heap.size with h | h
  · exact h
  · rw [Array.getElem?_eq_none h] at hk; cases hk
theorem DiskAt.below {w w' : World} {g : Nat} {s : DS} {F : Nat → Prop} (h : DiskAt w g s F) (hb : Below w.heap.size w w') : DiskAt w' g s F := by
  obtain ⟨p, h, hF⟩ := h
  exact ⟨p, h.below hb, hF⟩
theorem DiskAt.lt {w : World} {g : Nat} {s : DS} {F : Nat → Prop} (h : DiskAt w g s F) (k : Nat) (hk : F k) : k < w.heap.size := by
  obtain ⟨p, h, hF⟩ := h
  exact h.lt k ((hF k).1 hk)
theorem DiskAt.notByte {w : World} {g : Nat} {s : DS} {F : Nat → Prop} (h : DiskAt w g s F) (k : Nat) (cur : Array Value) (mk : Nat × Nat) (hk : F k) : w.heap[k]? ≠ some (.cells cur 5 mk) := by
  obtain ⟨p, h, hF⟩ := h
  exact h.notByte k ((hF k).1 hk) cur mk
end Go.Proofs.Ytkjbicenhncpeaa
