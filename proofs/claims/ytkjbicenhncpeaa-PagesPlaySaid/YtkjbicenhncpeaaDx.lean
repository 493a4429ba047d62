/-
  Many disks at once: a list of disks, their blocks apart.
-/
import Derived.Test.YtkjbicenhncpeaaDf
set_option linter.unusedVariables false
namespace Go.Proofs.Ytkjbicenhncpeaa
open Go.RowKit

theorem own_blk {w : World} {g base : Nat} {l : List Int} (h : Blk w g 5 (U8 l).toArray) (hb : base ≤ g) (hl : l.length ≤ maxLen) : Own w base (.slice (some ⟨g, 0, none⟩) l.length l.length) l := by
  refine ⟨by simp [U8], .inr ⟨g, l.length, (U8 l).toArray, rfl, hb, h, Nat.le_refl _, hl, ?_, ?_⟩⟩
  · simp [U8]
  · simp only [U8]
    exact List.take_of_length_le (by simp)

theorem DiskAt.quiet {g : Nat} {w w' : World} {F : Nat → Prop} {s' : DS} {B : Nat} (hF : ∀ k, F k → B ≤ k) (hB : B ≤ w.heap.size) (h : OnD g w F s' w') : ∃ F', DiskAt w' g s' F' ∧ (∀ k, F' k → B ≤ k) ∧ Below B w w' := by
  obtain ⟨F', h1, h2, h3⟩ := h
  refine ⟨F', h1, fun k hk => ?_, h2.below hB hF⟩
  rcases h3 k hk with h | h
  · exact hF k h
  · omega

/-- The type of a block that no disk writes. -/
def Free (t : TypeId) : Prop := t ≠ 65 ∧ t ≠ 86
/-- All blocks of cells that no disk writes are as they were. -/
def BKA (w w' : World) : Prop := ∀ (k : Nat) (cur : Array Value) (t : TypeId) (mk : Nat × Nat), Free t → w.heap[k]? = some (Obj.cells cur t mk) → w'.heap[k]? = w.heap[k]?
theorem BKA.b {w w' : World} (h : BKA w w') : BK w w' := fun k cur mk hk => h k cur _ mk ⟨by decide, by decide⟩ hk
theorem BKA.blk {w w' : World} (h : BKA w w') {g : Nat} {t : TypeId} {cs : Array Value} (hb : Blk w g t cs) (ht : Free t) : Blk w' g t cs := (h g cs t (0, 0) ht hb).trans hb
theorem BKA.of_below {w w' : World} (h : Below w.heap.size w w') : BKA w w' := fun k cur t mk _ hk => h.block k (by
  rcases Nat.lt_or_ge k w.heap.size with h | h
  · exact h
  · rw [Array.getElem?_eq_none h] at hk; cases hk)
theorem DiskOf.notT {w : World} {g : Nat} {s : DS} {p : DP} (h : DiskOf w g s p) (k : Nat) (hk : Foot g p k) (cur : Array Value) (t : TypeId) (mk : Nat × Nat) (ht : Free t) : w.heap[k]? ≠ some (.cells cur t mk) := by
  rcases hk with rfl | rfl | rfl | hk
  · have := h.blk
    unfold Blk at this
    rw [this]
    intro e
    injection e with e
    injection e with _ e
    exact ht.1 e.symm
  · exact h.now.notCells
  · exact h.lasts.notCells
  · obtain ⟨cur', hb⟩ := row_block h.row hk
    rw [hb]
    intro e
    injection e with e
    injection e with _ e
    exact ht.2 e.symm
theorem DiskAt.notT {w : World} {g : Nat} {s : DS} {F : Nat → Prop} (h : DiskAt w g s F) (k : Nat) (cur : Array Value) (t : TypeId) (mk : Nat × Nat) (ht : Free t) (hk : F k) : w.heap[k]? ≠ some (.cells cur t mk) := by
  obtain ⟨p, h, hF⟩ := h
  exact h.notT k ((hF k).1 hk) cur t mk ht

/-- The disks of L (block, state) lie in memory, apart, in blocks from B on. -/
def Many (B : Nat) (w : World) (L : List (Nat × DS)) : Prop :=
  ∃ F : Nat → Nat → Prop, (∀ i g s, L[i]? = some (g, s) → DiskAt w g s (F i) ∧ ∀ k, F i k → B ≤ k) ∧ ∀ i j, i ≠ j → i < L.length → j < L.length → ∀ k, F i k → ¬ F j k
theorem Many.nil (B : Nat) (w : World) : Many B w [] := ⟨fun _ _ => False, fun i g s h => (by cases h), fun i j _ h => (by cases h)⟩
theorem Many.below {B : Nat} {w w' : World} {L : List (Nat × DS)} (h : Many B w L) (hb : Below w.heap.size w w') : Many B w' L := by
  obtain ⟨F, h1, h2⟩ := h
  exact ⟨F, fun i g s e => ⟨(h1 i g s e).1.below hb, (h1 i g s e).2⟩, h2⟩
theorem Many.drew {B : Nat} {w : World} {L : List (Nat × DS)} (h : Many B w L) : Many B w.drew L := h.below (Below.refl _ _).drew
theorem DiskAt.bka {w w' : World} {g : Nat} {s : DS} {F : Nat → Prop} (h : DiskAt w g s F) (hc : Chg w w' F) : BKA w w' := fun k cur t mk ht hk => by
  refine hc.block k ?_ (fun hf => h.notT k cur t mk ht hf hk)
  rcases Nat.lt_or_ge k w.heap.size with h | h
  · exact h
  · rw [Array.getElem?_eq_none h] at hk; cases hk
/-- A cell is stored that is no disk's and no byte. -/
theorem Many.store {B : Nat} {w : World} {L : List (Nat × DS)} (h : Many B w L) {b : Nat} {t : TypeId} {cs : Array Value} (hb : Blk w b t cs) (ht : Free t) (h8 : t ≠ 5) (i : Nat) (u : Value) : Many B (w.setCell ⟨b, i, none⟩ u) L := by
  obtain ⟨F, h1, h2⟩ := h
  refine ⟨F, fun j g s e => ⟨(h1 j g s e).1.chg (Chg.setCell w ⟨b, i, none⟩ u) (fun k hk hkb => ?_) (fun k cur mk hkb hk => ?_), (h1 j g s e).2⟩, h2⟩
  · have hkb : k = b := hkb
    subst hkb
    exact (h1 j g s e).1.notT k cs t (0, 0) ht hk hb
  · have hkb : k = b := hkb
    subst hkb
    have hb' : w.heap[k]? = some (.cells cs t (0, 0)) := hb
    rw [hb'] at hk
    injection hk with hk
    injection hk with _ hk
    exact h8 hk
theorem Bytes.store {w : World} {A : Option Addr} {l : List Int} (h : Bytes w A l) {b : Nat} {t : TypeId} {cs : Array Value} (hb : Blk w b t cs) (h8 : t ≠ 5) (i : Nat) (u : Value) : Bytes (w.setCell ⟨b, i, none⟩ u) A l :=
  h.keep fun k cur mk hk => Below.heap_setCell w ⟨b, i, none⟩ u k (fun e => by
    have e : k = b := e
    subst e
    have hb' : w.heap[k]? = some (.cells cs t (0, 0)) := hb
    rw [hb'] at hk
    injection hk with hk
    injection hk with _ hk
    exact h8 hk)
theorem Many.push {B : Nat} {w w' : World} {L : List (Nat × DS)} (h : Many B w L) {g : Nat} {s : DS} (hB : B ≤ w.heap.size) {F' : Nat → Prop} (hD : DiskAt w' g s F') (hF : ∀ k, F' k → w.heap.size ≤ k) (hb : Below w.heap.size w w') : Many B w' (L ++ [(g, s)]) := by
  obtain ⟨F, h1, h2⟩ := h
  have hlt : ∀ i, i < L.length → ∀ k, F i k → k < w.heap.size := fun i hi k hk => by
    obtain ⟨h3, _⟩ := h1 i (L[i]).1 (L[i]).2 (by rw [List.getElem?_eq_getElem hi])
    exact h3.lt k hk
  refine ⟨fun i => if i = L.length then F' else F i, fun i g' s' e => ?_, fun i j hij hi hj k hk => ?_⟩
  · by_cases hi : i = L.length
    · subst hi
      rw [List.getElem?_append_right (Nat.le_refl _), Nat.sub_self] at e
      injection e with e
      injection e with e1 e2
      subst e1 e2
      simp only [if_pos]
      exact ⟨hD, fun k hk => Nat.le_trans hB (hF k hk)⟩
    · have hi' : i < L.length := by
        have : i < (L ++ [(g, s)]).length := by
          rcases Nat.lt_or_ge i (L ++ [(g, s)]).length with h | h
          · exact h
          · rw [List.getElem?_eq_none h] at e; cases e
        simp at this; omega
      rw [List.getElem?_append_left hi'] at e
      simp only [if_neg hi]
      exact ⟨(h1 i g' s' e).1.below hb, (h1 i g' s' e).2⟩
  · simp at hi hj
    by_cases e1 : i = L.length
    · by_cases e2 : j = L.length
      · omega
      · simp only [if_pos e1] at hk
        simp only [if_neg e2]
        intro hj'
        have := hlt j (by omega) k hj'
        have := hF k hk
        omega
    · simp only [if_neg e1] at hk
      by_cases e2 : j = L.length
      · simp only [if_pos e2]
        intro hj'
        have := hlt i (by omega) k hk
        have := hF k hj'
        omega
      · simp only [if_neg e2]
        exact h2 i j hij (by omega) (by omega) k hk
/-- One of the disks acts. -/
theorem Many.act {B : Nat} {w w' : World} {L : List (Nat × DS)} {F : Nat → Nat → Prop} (h1 : ∀ i g s, L[i]? = some (g, s) → DiskAt w g s (F i) ∧ ∀ k, F i k → B ≤ k) (h2 : ∀ i j, i ≠ j → i < L.length → j < L.length → ∀ k, F i k → ¬ F j k) (hB : B ≤ w.heap.size) {i g : Nat} {s s' : DS} (hi : L[i]? = some (g, s)) (hO : OnD g w (F i) s' w') :
    Many B w' (L.set i (g, s')) ∧ Below B w w' ∧ BKA w w' := by
  obtain ⟨F', hD, hC, hF⟩ := hO
  obtain ⟨hi1, hi2⟩ := h1 i g s hi
  have hil : i < L.length := by
    rcases Nat.lt_or_ge i L.length with h | h
    · exact h
    · rw [List.getElem?_eq_none h] at hi; cases hi
  have hlt : ∀ j, j < L.length → ∀ k, F j k → k < w.heap.size := fun j hj k hk => by
    obtain ⟨h3, _⟩ := h1 j (L[j]).1 (L[j]).2 (by rw [List.getElem?_eq_getElem hj])
    exact h3.lt k hk
  refine ⟨⟨fun j => if j = i then F' else F j, fun j g' s2 e => ?_, fun a b hab ha hb k hk => ?_⟩, hC.below hB hi2, hi1.bka hC⟩
  · by_cases hj : j = i
    · subst hj
      rw [List.getElem?_set_self hil] at e
      injection e with e
      injection e with e1 e2
      subst e1 e2
      simp only [if_pos]
      exact ⟨hD, fun k hk => by
        rcases hF k hk with h | h
        · exact hi2 k h
        · omega⟩
    · rw [List.getElem?_set_ne (Ne.symm hj)] at e
      simp only [if_neg hj]
      have hjl : j < L.length := by
        rcases Nat.lt_or_ge j L.length with h | h
        · exact h
        · rw [List.getElem?_eq_none h] at e; cases e
      obtain ⟨h3, h4⟩ := h1 j g' s2 e
      exact ⟨h3.chg hC (fun k => h2 j i hj hjl hil k) (fun k cur mk hk => hi1.notByte k cur mk hk), h4⟩
  · simp at ha hb
    have other : ∀ j, j ≠ i → j < L.length → F' k → F j k → False := fun j hj hjl x y => by
      rcases hF k x with h | h
      · exact h2 i j (Ne.symm hj) hil hjl k h y
      · have := hlt j hjl k y; omega
    by_cases e1 : a = i
    · by_cases e2 : b = i
      · omega
      · simp only [if_pos e1] at hk
        simp only [if_neg e2]
        exact fun y => other b e2 hb hk y
    · simp only [if_neg e1] at hk
      by_cases e2 : b = i
      · simp only [if_pos e2]
        exact fun y => other a e1 ha y hk
      · simp only [if_neg e2]
        exact h2 a b hab ha hb k hk

theorem DiskAt.rd_len {w : World} {g : Nat} {s : DS} {F : Nat → Prop} (h : DiskAt w g s F) (n : Int) : (rd s n).length = 256 ∧ Oct (rd s n) := by
  obtain ⟨p, h, _⟩ := h
  unfold rd
  rcases h.hnow n with ⟨_, e⟩ | ⟨v, l, _, e, hs⟩
  · rw [e]; exact ⟨zeroSec_len, zeroSec_oct⟩
  · rw [e]
    obtain ⟨_, _, _, _, _, _, _, _, _, _, hl, ho⟩ := hs
    exact ⟨hl, ho⟩

section
variable {B : Nat} {w : World} {L : List (Nat × DS)} (h : Many B w L) (hB : B ≤ w.heap.size) {i g : Nat} {s : DS} (hi : L[i]? = some (g, s))
include h hi
theorem many_size : Calls Try.prog 26 #[.pointer (some ⟨g, 0, none⟩)] w fun e w' => e = .returned (.int .i64 s.size) ∧ w = w' := by
  obtain ⟨F, h1, h2⟩ := h; exact size_w g s (F i) w (h1 i g s hi).1
theorem many_down : Calls Try.prog 15 #[.pointer (some ⟨g, 0, none⟩)] w fun e w' => e = .returned (.bool s.down) ∧ w = w' := by
  obtain ⟨F, h1, h2⟩ := h; exact down_w g s (F i) w (h1 i g s hi).1
theorem many_len (n : Int) : (rd s n).length = 256 ∧ Oct (rd s n) := by
  obtain ⟨F, h1, h2⟩ := h; exact (h1 i g s hi).1.rd_len n
include hB
theorem many_read (n : Int) :
    Calls Try.prog 33 #[.pointer (some ⟨g, 0, none⟩), .int .i64 n] w fun e w' => ∃ A c, e = .returned (.tuple #[.slice A (readL s n).length c, .int .i64 (readE s n).1]) ∧ (readL s n).length ≤ c ∧ Bytes w' A (readL s n) ∧ Many B w' (L.set i (g, (readE s n).2)) ∧ Below B w w' ∧ BKA w w' := by
  obtain ⟨F, h1, h2⟩ := h
  refine (read_w g s (F i) n w (h1 i g s hi).1).mono ?_
  rintro e w' ⟨v, rfl, hown, hO⟩
  obtain ⟨m1, m2, m3⟩ := Many.act h1 h2 hB hi hO
  obtain ⟨A, c, rfl, hc, _, _⟩ := hown.shape
  exact ⟨A, c, rfl, hc, hown.bytes, m1, m2, m3⟩
theorem many_write (n : Int) (A : Option Addr) (l : List Int) (c : Nat) (hf : s.fuse ≤ 9223372036854775807) (hc : Bytes w A l) (ho : Oct l) (hp : s.pend.length ≤ 1000000000) (hl : l.length ≤ 9223372036854775807) :
    Calls Try.prog 46 #[.pointer (some ⟨g, 0, none⟩), .int .i64 n, .slice A l.length c] w fun e w' => e = .returned (.int .i64 (writeE s n l).1) ∧ Many B w' (L.set i (g, (writeE s n l).2)) ∧ Below B w w' ∧ BKA w w' := by
  obtain ⟨F, h1, h2⟩ := h
  refine (write_w g s (F i) n A l c w (h1 i g s hi).1 hf hc ho hp hl).mono ?_
  rintro e w' ⟨rfl, hO⟩
  exact ⟨rfl, Many.act h1 h2 hB hi hO⟩
theorem many_sync (hf : s.fuse ≤ 9223372036854775807) (hp : s.pend.length ≤ 1000000000) :
    Calls Try.prog 40 #[.pointer (some ⟨g, 0, none⟩)] w fun e w' => e = .returned (.int .i64 (syncE s).1) ∧ Many B w' (L.set i (g, (syncE s).2)) ∧ Below B w w' ∧ BKA w w' := by
  obtain ⟨F, h1, h2⟩ := h
  refine (sync_w g s (F i) w (h1 i g s hi).1 hf hp).mono ?_
  rintro e w' ⟨rfl, hO⟩
  exact ⟨rfl, Many.act h1 h2 hB hi hO⟩
theorem many_fuse (n : Int) :
    Calls Try.prog 8 #[.pointer (some ⟨g, 0, none⟩), .int .i64 n] w fun e w' => e = .returned (.tuple #[]) ∧ Many B w' (L.set i (g, { s with fuse := max n (-1) })) ∧ Below B w w' ∧ BKA w w' := by
  obtain ⟨F, h1, h2⟩ := h
  refine (fuse_w g s (F i) n w (h1 i g s hi).1).mono ?_
  rintro e w' ⟨rfl, hO⟩
  exact ⟨rfl, Many.act h1 h2 hB hi hO⟩
end
theorem many_new {B : Nat} {w : World} {L : List (Nat × DS)} (h : Many B w L) (hB : B ≤ w.heap.size) (n : Int) :
    Calls Try.prog 6 #[.int .i64 n] w fun e w' => ∃ g', e = .returned (.pointer (some ⟨g', 0, none⟩)) ∧ Many B w' (L ++ [(g', newDS n)]) ∧ Below w.heap.size w w' := by
  refine (new_w n w).mono ?_
  rintro e w' ⟨g', F', rfl, hD, hF, hb⟩
  exact ⟨g', rfl, h.push hB hD hF hb, hb⟩
/-- A disk of the list is let go. -/
theorem Many.drop {B : Nat} {w : World} {L L' : List (Nat × DS)} (h : Many B w L) (f : Nat → Nat) (hf : ∀ i j, i < L'.length → j < L'.length → f i = f j → i = j) (hl : ∀ i, i < L'.length → f i < L.length) (he : ∀ i, i < L'.length → L'[i]? = L[f i]?) : Many B w L' := by
  obtain ⟨F, h1, h2⟩ := h
  refine ⟨fun i => F (f i), fun i g s e => ?_, fun i j hij hi hj k => h2 (f i) (f j) (fun e => hij (hf i j hi hj e)) (hl i hi) (hl j hj) k⟩
  have hi : i < L'.length := by
    rcases Nat.lt_or_ge i L'.length with h | h
    · exact h
    · rw [List.getElem?_eq_none h] at e; cases e
  exact h1 (f i) g s (by rw [← he i hi]; exact e)
end Go.Proofs.Ytkjbicenhncpeaa
