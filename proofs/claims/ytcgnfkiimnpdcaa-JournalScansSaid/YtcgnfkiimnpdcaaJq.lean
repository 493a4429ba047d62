/-
  Plain words: the records that are found in an area, and the law of a front.
-/
import Derived.Test.YtcgnfkiimnpdcaaJp
set_option linter.unusedVariables false
namespace Go.Proofs.Ytcgnfkiimnpdcaa
open Go.RowKit

/-- The bytes of a record, part by part. -/
def gather (R : Nat → List Int) (at_ n : Nat) : List Int := ((List.range n).map fun p => body (R (at_ + p))).flatten
theorem gather_succ (R : Nat → List Int) (at_ n : Nat) : gather R at_ (n + 1) = gather R at_ n ++ body (R (at_ + n)) := by
  unfold gather
  rw [List.range_succ, List.map_append, List.flatten_append]
  simp
/-- A record of sectors: R is the area. -/
def IsRec (R : Nat → List Int) (count at_ : Nat) (E : Int) (num : Nat) (b : List Int) : Prop :=
  0 < b.length ∧ b.length ≤ 8000 ∧ at_ + partsN b.length ≤ count ∧ ∀ p, p < partsN b.length → R (at_ + p) = jsec E (at_ + p) num p b
theorem partsN_pos {n : Nat} (h : 0 < n) : 0 < partsN n := by unfold partsN; omega
theorem partsN_lt {n p : Nat} (h : p < partsN n) : 234 * p < n := by unfold partsN at h; omega
theorem partsN_le {n : Nat} (h : n ≤ 8000) : partsN n ≤ 35 := by unfold partsN; omega
theorem pieces (b : List Int) : ∀ k, ((List.range k).map fun p => piece b p).flatten = b.take (234 * k)
  | 0 => by simp
  | k + 1 => by
    rw [List.range_succ, List.map_append, List.flatten_append, pieces b k]
    simp only [List.map_cons, List.map_nil, List.flatten_cons, List.flatten_nil, List.append_nil]
    unfold piece
    rw [show 234 * (k + 1) = 234 * k + 234 by omega, List.take_add]
theorem gather_jsec {R : Nat → List Int} {at_ : Nat} {E : Int} {num : Nat} {b : List Int} {k : Nat} (h : ∀ p, p < k → R (at_ + p) = jsec E (at_ + p) num p b) : gather R at_ k = b.take (234 * k) := by
  rw [← pieces b k]
  unfold gather
  congr 1
  apply List.map_congr_left
  intro p hp
  rw [h p (List.mem_range.1 hp), jsec_body]
theorem IsRec.gather_ {R : Nat → List Int} {count at_ : Nat} {E : Int} {num : Nat} {b : List Int} (h : IsRec R count at_ E num b) : gather R at_ (partsN b.length) = b := by
  rw [gather_jsec h.2.2.2, List.take_of_length_le]
  unfold partsN
  omega
theorem IsRec.parts {R : Nat → List Int} {count at_ : Nat} {E : Int} {num : Nat} {b : List Int} (h : IsRec R count at_ E num b) : at16 (R at_) 18 = partsN b.length := by
  have := h.2.2.2 0 (partsN_pos h.1)
  rw [Nat.add_zero] at this
  rw [this, jsec_parts]
  have := partsN_le h.2.1
  omega
theorem IsRec.one {R : Nat → List Int} {count at_ : Nat} {E : Int} {num : Nat} {b b' : List Int} (h : IsRec R count at_ E num b) (h' : IsRec R count at_ E num b') : b = b' := by
  rw [← h.gather_, ← h'.gather_, ← h.parts, ← h'.parts]
open Classical in
/-- The record at a place, if there is one. -/
noncomputable def recAt (R : Nat → List Int) (count at_ : Nat) (E : Int) (num : Nat) : Option (List Int) :=
  if h : ∃ b, IsRec R count at_ E num b then some h.choose else none
theorem recAt_some {R : Nat → List Int} {count at_ : Nat} {E : Int} {num : Nat} {b : List Int} (h : IsRec R count at_ E num b) : recAt R count at_ E num = some b := by
  unfold recAt
  have hx : ∃ b, IsRec R count at_ E num b := ⟨b, h⟩
  rw [dif_pos hx, hx.choose_spec.one h]
theorem recAt_none {R : Nat → List Int} {count at_ : Nat} {E : Int} {num : Nat} (h : ∀ b, ¬ IsRec R count at_ E num b) : recAt R count at_ E num = none := by
  unfold recAt
  rw [dif_neg]
  rintro ⟨b, hb⟩
  exact h b hb
theorem recAt_of {R : Nat → List Int} {count at_ : Nat} {E : Int} {num : Nat} {b : List Int} (h : recAt R count at_ E num = some b) : IsRec R count at_ E num b := by
  unfold recAt at h
  split at h
  · rename_i hx
    injection h with h
    rw [← h]
    exact hx.choose_spec
  · cases h
/-- All records from a place on. -/
noncomputable def scanF (R : Nat → List Int) (count : Nat) (E : Int) : Nat → Nat → Nat → List (List Int)
  | 0, _, _ => []
  | f + 1, at_, num => if at_ < count then (match recAt R count at_ E num with | none => [] | some b => b :: scanF R count E f (at_ + partsN b.length) (num + 1)) else []

/-- The sectors of records, from a place on. -/
def lay (E : Int) : Nat → Nat → List (List Int) → List (List Int)
  | _, _, [] => []
  | at_, num, b :: t => ((List.range (partsN b.length)).map fun p => jsec E (at_ + p) num p b) ++ lay E (at_ + partsN b.length) (num + 1) t
def total (l : List (List Int)) : Nat := (l.map fun b => partsN b.length).sum
theorem lay_len (E : Int) : ∀ (at_ num : Nat) (l : List (List Int)), (lay E at_ num l).length = total l
  | _, _, [] => rfl
  | at_, num, b :: t => by
    unfold lay total
    rw [List.length_append, List.length_map, List.length_range, lay_len E _ _ t]
    simp [total]
theorem total_cons (b : List Int) (t : List (List Int)) : total (b :: t) = partsN b.length + total t := by simp [total]
theorem total_app (a b : List (List Int)) : total (a ++ b) = total a + total b := by simp [total]
theorem lay_app (E : Int) : ∀ (at_ num : Nat) (a b : List (List Int)), lay E at_ num (a ++ b) = lay E at_ num a ++ lay E (at_ + total a) (num + a.length) b
  | _, _, [], b => by simp [lay, total]
  | at_, num, x :: t, b => by
    simp only [List.cons_append, lay, lay_app E _ _ t b, List.append_assoc, total_cons, List.length_cons]
    congr 3
    · omega
    · omega
/-- A sector that is no part of the epoch. -/
def Bad (E : Int) (s : List Int) : Prop := s.take 8 ≠ be64 E ∨ at16 s 20 = 0
theorem not_bad {E : Int} {n r p : Nat} {b : List Int} (h : 234 * p < b.length) : ¬ Bad E (jsec E n r p b) := by
  rintro (h1 | h1)
  · exact h1 (jsec_take8 _ _ _ _ _)
  · rw [jsec_n, plen_eq] at h1
    omega
theorem lay_at (E : Int) (at_ num : Nat) (b : List Int) (t : List (List Int)) (p : Nat) (h : p < partsN b.length) : (lay E at_ num (b :: t))[p]? = some (jsec E (at_ + p) num p b) := by
  unfold lay
  rw [List.getElem?_append_left (by simpa using h), List.getElem?_map, List.getElem?_range h]
  rfl
theorem lay_cons (E : Int) (at_ num : Nat) (b : List Int) (t : List (List Int)) : lay E at_ num (b :: t) = ((List.range (partsN b.length)).map fun p => jsec E (at_ + p) num p b) ++ lay E (at_ + partsN b.length) (num + 1) t := rfl
theorem lay_past (E : Int) (at_ num : Nat) (b : List Int) (t : List (List Int)) (p : Nat) (h : partsN b.length ≤ p) : (lay E at_ num (b :: t))[p]? = (lay E (at_ + partsN b.length) (num + 1) t)[p - partsN b.length]? := by
  rw [lay_cons, List.getElem?_append_right (by simpa using h), List.length_map, List.length_range]
/-- The law of a front: each sector is the one that was written there, below N, or bad; those below M are good. -/
theorem scan_front (R : Nat → List Int) (count : Nat) (E : Int) (N M : Nat) : ∀ (l : List (List Int)) (f at_ num : Nat), total l < f →
    (∀ b ∈ l, 0 < b.length ∧ b.length ≤ 8000) → N ≤ at_ + total l → N ≤ count →
    (∀ i, at_ ≤ i → i < count → (i < N ∧ (lay E at_ num l)[i - at_]? = some (R i)) ∨ Bad E (R i)) →
    (∀ i, at_ ≤ i → i < M → i < N ∧ ¬ Bad E (R i)) →
    ∃ k, k ≤ l.length ∧ scanF R count E f at_ num = l.take k ∧ (0 < k → at_ + total (l.take k) ≤ N) ∧ ∀ j, j ≤ l.length → (∀ h : 0 < j, at_ + total (l.take j) ≤ M) → j ≤ k := by
  intro l
  induction l with
  | nil =>
    intro f at_ num hf hl hN hc hR hM
    refine ⟨0, Nat.le_refl _, ?_, fun h => absurd h (by omega), fun j hj _ => hj⟩
    cases f with
    | zero => rfl
    | succ f =>
      unfold scanF
      by_cases h : at_ < count
      · rw [if_pos h, recAt_none]
        · rfl
        · intro b hb
          have h0 := hR at_ (Nat.le_refl _) h
          have he := hb.2.2.2 0 (partsN_pos hb.1)
          rw [Nat.add_zero] at he
          rcases h0 with h0 | h0
          · simp [lay] at h0
          · rw [he] at h0
            exact not_bad (by have := hb.1; omega) h0
      · rw [if_neg h]; rfl
  | cons b t ih =>
    intro f at_ num hf hl hN hc hR hM
    have hb := hl b List.mem_cons_self
    have hpp := partsN_pos hb.1
    rw [total_cons] at hf hN
    cases f with
    | zero => omega
    | succ f =>
      by_cases hall : at_ + partsN b.length ≤ N ∧ ∀ p, p < partsN b.length → ¬ Bad E (R (at_ + p))
      · have hrec : IsRec R count at_ E num b := ⟨hb.1, hb.2, by omega, fun p hp => by
          rcases hR (at_ + p) (by omega) (by omega) with h | h
          · have := h.2
            rw [Nat.add_sub_cancel_left, lay_at E at_ num b t p hp] at this
            injection this with this
            exact this.symm
          · exact absurd h (hall.2 p hp)⟩
        obtain ⟨k, hk, hs, hkN, hkM⟩ := ih f (at_ + partsN b.length) (num + 1) (by omega) (fun x hx => hl x (List.mem_cons_of_mem _ hx)) (by omega) hc
          (fun i h1 h2 => by
            rcases hR i (by omega) h2 with h | h
            · refine .inl ⟨h.1, ?_⟩
              have := h.2
              rw [lay_past E at_ num b t (i - at_) (by omega)] at this
              rw [← this]
              congr 1
              omega
            · exact .inr h)
          (fun i h1 h2 => hM i (by omega) h2)
        refine ⟨k + 1, by simp; omega, ?_, ?_, ?_⟩
        · unfold scanF
          rw [if_pos (by omega), recAt_some hrec]
          show b :: _ = _
          rw [hs, List.take_succ_cons]
        · intro _
          rw [List.take_succ_cons, total_cons]
          rcases Nat.eq_zero_or_pos k with h | h
          · subst h
            have := hall.1
            simpa [total] using this
          · have := hkN h
            omega
        · intro j hj h
          cases j with
          | zero => omega
          | succ j =>
            have h' := h (by omega)
            rw [List.take_succ_cons, total_cons] at h'
            have := hkM j (by simpa using hj) (fun _ => by omega)
            omega
      · refine ⟨0, Nat.zero_le _, ?_, fun h => absurd h (by omega), ?_⟩
        · unfold scanF
          by_cases h : at_ < count
          · rw [if_pos h, recAt_none]
            · rfl
            · intro b' hb'
              have hp' := partsN_pos hb'.1
              have he0 := hb'.2.2.2 0 hp'
              rw [Nat.add_zero] at he0
              have hg : ∀ p, p < partsN b'.length → ¬ Bad E (R (at_ + p)) := fun p hp => by
                rw [hb'.2.2.2 p hp]
                exact not_bad (partsN_lt hp)
              have heq : partsN b'.length = partsN b.length := by
                rcases hR at_ (Nat.le_refl _) h with h1 | h1
                · have := h1.2
                  rw [Nat.sub_self, lay_at E at_ num b t 0 hpp] at this
                  injection this with this
                  rw [← hb'.parts, ← this, jsec_parts]
                  have := partsN_le hb.2
                  omega
                · exact absurd h1 (hg 0 hp')
              apply hall
              refine ⟨?_, fun p hp => hg p (by omega)⟩
              have hlast := hR (at_ + (partsN b.length - 1)) (by omega) (by have := hb'.2.2.1; omega)
              rcases hlast with h1 | h1
              · omega
              · exact absurd h1 (hg _ (by omega))
          · rw [if_neg h]; rfl
        · intro j hj h
          rcases Nat.eq_zero_or_pos j with h0 | h0
          · omega
          · exfalso
            have h' := h h0
            obtain ⟨j, rfl⟩ : ∃ i, j = i + 1 := ⟨j - 1, by omega⟩
            rw [List.take_succ_cons, total_cons] at h'
            apply hall
            have h2 := hM (at_ + (partsN b.length - 1)) (by omega) (by omega)
            exact ⟨by omega, fun p hp => (hM (at_ + p) (by omega) (by omega)).2⟩
end Go.Proofs.Ytcgnfkiimnpdcaa
