/-
  Plain: pages on a disk. lost, of, write.
-/
import Derived.Test.YtkjbicenhncpeaaPk
set_option linter.unusedVariables false
namespace Go.Proofs.Ytkjbicenhncpeaa
open Go.RowKit

/-- A disk that answers. -/
def Healthy (ds : DS) : Prop := ds.down = false ∧ ds.fuse < 0
/-- A page's k-th sector. -/
def secP (l : List Int) (k : Nat) : List Int := (l.drop (k * 256)).take 256
/-- Four sectors. -/
def pg (ds : DS) (a : Int) : List Int := rd ds a ++ (rd ds (a + 1) ++ (rd ds (a + 2) ++ rd ds (a + 3)))
/-- What a page holds: its frame, or the disk. -/
def content (s : PG) (ds : DS) (n : Int) : List Int := ((s.fr n).map (·.1)).getD (pg ds (s.frm + 4 * n))
theorem secP_len {l : List Int} (hl : l.length = 1024) {k : Nat} (hk : k < 4) : (secP l k).length = 256 := by
  unfold secP
  rw [List.length_take, List.length_drop, hl]
  omega
theorem secP_oct {l : List Int} (ho : Oct l) (k : Nat) : Oct (secP l k) := (ho.drop _).take _
theorem secP_all {l : List Int} (hl : l.length = 1024) : secP l 0 ++ (secP l 1 ++ (secP l 2 ++ secP l 3)) = l := by
  unfold secP
  have e3 : (l.drop (3 * 256)).take 256 = l.drop 768 := List.take_of_length_le (by rw [List.length_drop]; omega)
  rw [e3]
  have h2 : (l.drop (2 * 256)).take 256 ++ l.drop 768 = l.drop 512 := by
    have := List.take_append_drop 256 (l.drop 512)
    rw [List.drop_drop] at this
    exact this
  rw [h2]
  have h1 : (l.drop (1 * 256)).take 256 ++ l.drop 512 = l.drop 256 := by
    have := List.take_append_drop 256 (l.drop 256)
    rw [List.drop_drop] at this
    exact this
  rw [h1, Nat.zero_mul, List.drop_zero]
  exact List.take_append_drop 256 l

/-- k sectors of a page were written at a. -/
structure W4 (ds t : DS) (a : Int) (l : List Int) (k : Nat) : Prop where
  size : t.size = ds.size
  rd_ : ∀ j, rd t j = if a ≤ j ∧ j < a + k then secP l (j - a).toNat else rd ds j
  pend : t.pend.length = ds.pend.length + k
  fuse : t.fuse ≤ ds.fuse
  ok : Healthy ds → Healthy t
theorem W4.start (ds : DS) (a : Int) (l : List Int) : W4 ds ds a l 0 := ⟨rfl, fun j => by rw [if_neg (by omega)], rfl, Int.le_refl _, id⟩
theorem burn_now (t : DS) : (burnS t).now = t.now ∧ (burnS t).size = t.size ∧ (burnS t).pend = t.pend ∧ (burnS t).fuse ≤ t.fuse ∧ (Healthy t → Healthy (burnS t)) := by
  unfold burnS
  split
  · rename_i h
    exact ⟨rfl, rfl, rfl, Int.le_refl _, fun hh => by unfold Healthy at hh; omega⟩
  · split
    · rename_i h
      exact ⟨rfl, rfl, rfl, by show t.fuse - 1 ≤ t.fuse; omega, fun hh => by unfold Healthy at hh; omega⟩
    · exact ⟨rfl, rfl, rfl, Int.le_refl _, id⟩
theorem W4.step {ds t : DS} {a : Int} {l : List Int} {k : Nat} (h : W4 ds t a l k) : W4 ds (wroteS (burnS t) (a + k) (secP l k)) a l (k + 1) := by
  obtain ⟨b1, b2, b3, b4, b5⟩ := burn_now t
  refine ⟨b2.trans h.size, fun j => ?_, ?_, Int.le_trans b4 h.fuse, fun hh => b5 (h.ok hh)⟩
  · have e : rd (wroteS (burnS t) (a + k) (secP l k)) j = if j = a + k then secP l k else rd t j := by
      show (updC (burnS t).now (a + k) (secP l k) j).getD zeroSec = _
      rw [b1]
      unfold updC
      split
      · rfl
      · rfl
    rw [e, h.rd_]
    by_cases e1 : j = a + k
    · rw [if_pos e1, if_pos (by omega), show (j - a).toNat = k by omega]
    · rw [if_neg e1]
      by_cases e2 : a ≤ j ∧ j < a + k
      · rw [if_pos e2, if_pos (by omega)]
      · rw [if_neg e2, if_neg (by omega)]
  · show ((burnS t).pend ++ [_]).length = _
    rw [b3, List.length_append, h.pend]
    simp; omega
theorem W4.page {ds t : DS} {a : Int} {l : List Int} (h : W4 ds t a l 4) (hl : l.length = 1024) : pg t a = l := by
  have e : ∀ i : Nat, i < 4 → rd t (a + i) = secP l i := fun i hi => by rw [h.rd_, if_pos (by omega), show (a + (i : Int) - a).toNat = i by omega]
  have e0 := e 0 (by omega)
  rw [show a + ((0 : Nat) : Int) = a by simp] at e0
  unfold pg
  rw [e0, show a + 1 = a + ((1 : Nat) : Int) from rfl, e 1 (by omega), show a + 2 = a + ((2 : Nat) : Int) from rfl, e 2 (by omega), show a + 3 = a + ((3 : Nat) : Int) from rfl, e 3 (by omega)]
  exact secP_all hl
theorem W4.far {ds t : DS} {a : Int} {l : List Int} (h : W4 ds t a l 4) {c : Int} (hc : c + 4 ≤ a ∨ a + 4 ≤ c) : pg t c = pg ds c := by
  unfold pg
  rw [h.rd_, h.rd_, h.rd_, h.rd_, if_neg (by omega), if_neg (by omega), if_neg (by omega), if_neg (by omega)]

theorem PagesOf.drewP {w : World} {g gd : Nat} {s : PG} {p : PP} (h : PagesOf w g gd s p) : PagesOf w.drew g gd s p := h.below (Below.refl _ _).drew
theorem DiskAt.drewD {w : World} {gd : Nat} {ds : DS} {D : Nat → Prop} (h : DiskAt w gd ds D) : DiskAt w.drew gd ds D := h.below (Below.refl _ _).drew
/-- The pages are over, the disk is down; nothing but blocks of F was changed. -/
def Dead (g gd : Nat) (w : World) (F : Nat → Prop) (w' : World) : Prop :=
  w'.cell? ⟨g, 6, none⟩ = some (.bool true) ∧ F g ∧ (∃ t D, DiskAt w' gd t D ∧ t.down = true ∧ ¬ D g ∧ ∀ k, D k → F k ∨ w.heap.size ≤ k) ∧ Chg w w' F

set_option maxHeartbeats 1000000 in
theorem lost_any (g : Nat) (b : Bool) (w : World) (hc : w.cell? ⟨g, 6, none⟩ = some (.bool b)) :
    Calls Try.prog 27 #[.pointer (some ⟨g, 0, none⟩)] w fun e w' => e = .returned (.bool b) ∧ w = w' := by
  go_enter Try.func27, Try.ntmps27
  go_wp2
  go_ret
  exact ⟨rfl, rfl⟩
set_option maxHeartbeats 1000000 in
theorem lost_nil (w : World) :
    Calls Try.prog 27 #[.pointer none] w fun e w' => e = .returned (.bool true) ∧ w = w' := by
  go_enter Try.func27, Try.ntmps27
  go_wp2
  go_ret
  exact ⟨rfl, rfl⟩
theorem PagesOf.alive {w : World} {g gd : Nat} {s : PG} {p : PP} (h : PagesOf w g gd s p) : w.cell? ⟨g, 6, none⟩ = some (.bool false) := h.blk.cell 6

/-- What a page is. -/
def isOf (is : List Int) (n : Int) : Int := if n < 0 ∨ (is.length : Int) ≤ n then 0 else is.getD n.toNat 0
theorem isOf_lt {is : List Int} {k : Nat} (h : k < is.length) : isOf is k = is[k] := by
  unfold isOf
  rw [if_neg (by omega), Int.toNat_natCast, List.getD_eq_getElem?_getD, List.getElem?_eq_getElem h]
  rfl
theorem PagesOf.stateAt {w : World} {g gd : Nat} {s : PG} {p : PP} (h : PagesOf w g gd s p) {k : Nat} (hk : k < s.is.length) : w.cell? ⟨p.gi, k, none⟩ = some (.int .i64 s.is[k]) := by
  rw [h.row.cell k]
  simp [hk]
set_option maxHeartbeats 1000000 in
theorem of_any (g gd : Nat) (s : PG) (p : PP) (n : Int) (w : World) (h : PagesOf w g gd s p) :
    Calls Try.prog 30 #[.pointer (some ⟨g, 0, none⟩), .int .i64 n] w fun e w' => e = .returned (.int .i64 (isOf s.is n)) ∧ w = w' := by
  have c3 : w.cell? ⟨g, 3, none⟩ = some (.slice (some ⟨p.gi, 0, none⟩) s.is.length s.is.length) := h.blk.cell 3
  by_cases h0 : n < 0
  · have HE : Hid (isOf s.is n = 0) := Lib.hid (by unfold isOf; rw [if_pos (.inl h0)])
    clear h
    go_enter Try.func30, Try.ntmps30
    go_wp2
    go_ret
    exact ⟨by rw [HE.out] <;> rfl, rfl⟩
  by_cases h1 : (s.is.length : Int) ≤ n
  · have HE : Hid (isOf s.is n = 0) := Lib.hid (by unfold isOf; rw [if_pos (.inr h1)])
    clear h
    go_enter Try.func30, Try.ntmps30
    go_wp2
    go_ret
    exact ⟨by rw [HE.out] <;> rfl, rfl⟩
  · obtain ⟨k, rfl⟩ : ∃ k : Nat, n = k := ⟨n.toNat, by omega⟩
    have hk : k < s.is.length := by omega
    have hc := h.stateAt hk
    have HE : Hid (isOf s.is k = s.is[k]) := Lib.hid (isOf_lt hk)
    obtain ⟨x, hx⟩ : ∃ x, s.is[k] = x := ⟨_, rfl⟩
    rw [hx] at hc HE
    have hkI : (k : Int) < (s.is.length : Int) := by omega
    have hk0 : (0 : Int) ≤ (k : Int) := by omega
    clear h hx
    go_enter Try.func30, Try.ntmps30
    go_wp2
    go_ret
    exact ⟨by rw [HE.out] <;> rfl, rfl⟩

/-- A sector of a page as bytes. -/
theorem PageB.sec {w : World} {b off c N : Nat} {l : List Int} (h : PageB w (.slice (some ⟨b, off, none⟩) N c) l) (k : Nat) (hk : k < 4) : Bytes w (some ⟨b, off + k * 256, none⟩) (secP l k) ∧ (N = 1024 ∧ 1024 ≤ c ∧ c ≤ 9223372036854775807) := by
  obtain ⟨b', off', c', cur, mk, e, hb, h1, h2, hc, hl, ho⟩ := h
  unfold maxLen at h2
  injection e with e1 e2 e3
  injection e1 with e1
  injection e1 with e1 e4
  subst e1 e2 e3 e4
  refine ⟨⟨fun j u hu => ?_, fun ad e => ?_⟩, rfl, h1, by omega⟩
  · have hj : j < 256 := by
      have := (List.getElem?_eq_some_iff.1 hu).1
      rw [List.length_map, secP_len hl hk] at this
      exact this
    have hu' : (U8 l)[k * 256 + j]? = some u := by
      rw [List.getElem?_map] at hu ⊢
      unfold secP at hu
      rw [List.getElem?_take, if_pos hj, List.getElem?_drop] at hu
      exact hu
    obtain ⟨b2, off2, e, hlt, hcell⟩ := hc (k * 256 + j) u hu'
    injection e with e
    injection e with e1 e2
    subst e1 e2
    exact ⟨b, off + k * 256, rfl, hlt, by rw [Nat.add_assoc]; exact hcell⟩
  · injection e with e
    subst e
    exact ⟨cur, mk, hb⟩
end Go.Proofs.Ytkjbicenhncpeaa
