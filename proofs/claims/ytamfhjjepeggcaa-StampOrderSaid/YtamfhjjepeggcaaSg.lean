/-
  The contracts of bytes.Compare, cmp.Compare, cmp.Or, stamp.Compare, munimentref05.Compare.
-/
import Derived.Test.YtamfhjjepeggcaaLb
import Derived.Test.YtamfhjjepeggcaaSd
import Derived.Lib.Bytealg
import Derived.Lib.BytesEntry
import Derived.Lib.Walk
import Derived.Deep.DeepCutAuto
set_option linter.unusedVariables false
namespace Go.Proofs.Ytamfhjjepeggcaa
open Go.RowKit

def cmpN (x y : Int) : Int := if x < y then -1 else if y < x then 1 else 0
def cmpB (a b : List Int) : Int := if lessB a b = true then -1 else if lessB b a = true then 1 else 0
def keyCmp (sp : Int) (l : List Int) (t sp' : Int) (l' : List Int) (t' : Int) : Int :=
  if cmpN sp sp' ≠ 0 then cmpN sp sp' else if cmpB l l' ≠ 0 then cmpB l l' else cmpN t' t

theorem cmp_bytes (a b : List Int) (ha : Oct a) (hb : Oct b) : Lib.compareBytes (a.map fun n => UInt8.ofNat n.toNat) (b.map fun n => UInt8.ofNat n.toNat) = cmpB a b := by
  induction a generalizing b with
  | nil => rcases b with _ | ⟨y, s⟩ <;> simp [Lib.compareBytes, cmpB, lessB]
  | cons x r ih =>
    rcases b with _ | ⟨y, s⟩
    · simp [Lib.compareBytes, cmpB, lessB]
    · have hx := ha x (by simp)
      have hy := hb y (by simp)
      have ih' := ih s (fun z hz => ha z (by simp [hz])) (fun z hz => hb z (by simp [hz]))
      have e1 : (UInt8.ofNat x.toNat < UInt8.ofNat y.toNat) ↔ x < y := by
        rw [UInt8.lt_iff_toNat_lt]; simp; omega
      have e2 : (UInt8.ofNat y.toNat < UInt8.ofNat x.toNat) ↔ y < x := by
        rw [UInt8.lt_iff_toNat_lt]; simp; omega
      simp only [List.map_cons, Lib.compareBytes, e1, e2, ih', cmpB, lessB]
      by_cases h : x = y
      · subst h; simp
      · have h' : ¬ y = x := fun e => h e.symm
        simp only [if_neg h, if_neg h', decide_eq_true_eq]
        by_cases h1 : x < y
        · simp [h1]
        · have h2 : y < x := by omega
          simp [h1, h2]

theorem ext_bytes (A : Option Addr) (a : List Int) (c : Nat) (w : World) (ha : Cells w w.heap.size A (U8 a)) : (Extern.Bytes.bytesOf (.slice A a.length c)).run Try.prog w = .ok ⟨(Lib.bytesOf a).toArray⟩ w := by
  rcases A with _ | ad
  · rcases a with _ | ⟨x, r⟩
    · rfl
    · obtain ⟨b, off, e, _⟩ := ha 0 (.int .u8 x) rfl
      cases e
  · have h := Lib.run_loadBytesX (P := Try.prog) w a ad .empty (fun j x hj => by
      obtain ⟨b, off, e, _, hc⟩ := ha j (.int .u8 x) (by rw [U8, List.getElem?_map, hj]; rfl)
      injection e with e
      subst e
      rw [add_mk]; exact hc)
    have he : (⟨ByteArray.empty.data ++ (Lib.bytesOf a).toArray⟩ : ByteArray) = ⟨(Lib.bytesOf a).toArray⟩ := by
      apply ByteArray.ext
      show (#[] : Array UInt8) ++ (Lib.bytesOf a).toArray = (Lib.bytesOf a).toArray
      simp
    rw [he] at h
    exact h

theorem ext_compare (A B : Option Addr) (a b : List Int) (c d : Nat) (w : World) (ha : Cells w w.heap.size A (U8 a)) (hb : Cells w w.heap.size B (U8 b)) (hoa : Oct a) (hob : Oct b) :
    (Extern.BytealgCompare.compare #[.slice A a.length c, .slice B b.length d]).run Try.prog w = .ok (.int .i64 (cmpB a b)) w := by
  have h1 := ext_bytes A a c w ha
  have h2 := ext_bytes B b d w hb
  change Sem.run Try.prog (do pure (goInt (Extern.BytealgCompare.cmp (← Extern.Bytes.bytesOf (.slice A a.length c)) (← Extern.Bytes.bytesOf (.slice B b.length d))))) w = _
  simp only [Sem.run_bind, Sem.run_pure, h1, h2, Result.andThen]
  rw [Lib.cmp_eq]
  have e : ∀ l : List Int, (⟨(Lib.bytesOf l).toArray⟩ : ByteArray).data.toList = l.map fun n => UInt8.ofNat n.toNat := fun l => by simp [Lib.bytesOf]
  rw [e, e, cmp_bytes a b hoa hob]
  rfl

set_option maxHeartbeats 1000000 in
set_option maxRecDepth 100000 in
theorem bytes_compare (A B : Option Addr) (a b : List Int) (c d : Nat) (w : World) (ha : Cells w w.heap.size A (U8 a)) (hb : Cells w w.heap.size B (U8 b)) (hoa : Oct a) (hob : Oct b) :
    Calls Try.prog 31 #[.slice A a.length c, .slice B b.length d] w fun e w' => e = .returned (.int .i64 (cmpB a b)) ∧ w = w' := by
  have hx := ext_compare A B a b c d w ha hb hoa hob
  have HX := Lib.hid hx
  clear hx
  go_enter Try.func31, Try.ntmps31
  go_wp2
  rw [run_callFunc_extern Try.func34 (by kernel_rfl) (by kernel_rfl) (by kernel_rfl) (e := Extern.BytealgCompare.compare) (by kernel_rfl), HX.out]
  simp only [Result.andThen]
  rw [Oper.upon_value]
  go_wp2
  go_ret
  exact ⟨rfl, rfl⟩

set_option maxHeartbeats 1000000 in
theorem cmp_int (x y : Int) (w : World) : Calls Try.prog 30 #[.int .i64 x, .int .i64 y] w fun e w' => e = .returned (.int .i64 (cmpN x y)) ∧ w = w' := by
  rcases Int.lt_trichotomy x y with h | h | h
  · have e : cmpN x y = -1 := by simp [cmpN, h]
    have E := Lib.hid e; clear e
    go_enter Try.func30, Try.ntmps30
    go_wp2
    go_ret
    exact ⟨ret_int E.out.symm, rfl⟩
  · subst h
    have e : cmpN x x = 0 := by simp [cmpN]
    have E := Lib.hid e; clear e
    go_enter Try.func30, Try.ntmps30
    go_wp2
    go_ret
    exact ⟨ret_int E.out.symm, rfl⟩
  · have h' : ¬ x < y := by omega
    have e : cmpN x y = 1 := by simp [cmpN, h, h']
    have E := Lib.hid e; clear e
    go_enter Try.func30, Try.ntmps30
    go_wp2
    go_ret
    exact ⟨ret_int E.out.symm, rfl⟩
set_option maxHeartbeats 1000000 in
theorem cmp_u64 (x y : Int) (w : World) : Calls Try.prog 32 #[.int .u64 x, .int .u64 y] w fun e w' => e = .returned (.int .i64 (cmpN x y)) ∧ w = w' := by
  rcases Int.lt_trichotomy x y with h | h | h
  · have e : cmpN x y = -1 := by simp [cmpN, h]
    have E := Lib.hid e; clear e
    go_enter Try.func32, Try.ntmps32
    go_wp2
    go_ret
    exact ⟨ret_int E.out.symm, rfl⟩
  · subst h
    have e : cmpN x x = 0 := by simp [cmpN]
    have E := Lib.hid e; clear e
    go_enter Try.func32, Try.ntmps32
    go_wp2
    go_ret
    exact ⟨ret_int E.out.symm, rfl⟩
  · have h' : ¬ x < y := by omega
    have e : cmpN x y = 1 := by simp [cmpN, h, h']
    have E := Lib.hid e; clear e
    go_enter Try.func32, Try.ntmps32
    go_wp2
    go_ret
    exact ⟨ret_int E.out.symm, rfl⟩

/-- The first one that is not 0. -/
def orN (x y z : Int) : Int := if x ≠ 0 then x else if y ≠ 0 then y else z
set_option maxHeartbeats 2000000 in
theorem cmp_or (g : Nat) (x y z : Int) (w : World) (h0 : w.cell? ⟨g, 0, none⟩ = some (.int .i64 x)) (h1 : w.cell? ⟨g, 1, none⟩ = some (.int .i64 y)) (h2 : w.cell? ⟨g, 2, none⟩ = some (.int .i64 z)) :
    Calls Try.prog 29 #[.slice (some ⟨g, 0, none⟩) 3 3] w fun e w' => e = .returned (.int .i64 (orN x y z)) ∧ w = w' := by
  by_cases hx : x = 0
  · subst hx
    by_cases hy : y = 0
    · subst hy
      have e : orN 0 0 z = z := by simp [orN]
      have E := Lib.hid e; clear e
      by_cases hz : z = 0
      · subst hz
        go_enter Try.func29, Try.ntmps29
        go_wp2
        refine wp_loop_rounds 4 ?_
        iterate 4 (rw [rounds_succ]; go_wp2)
        go_ret
        exact ⟨ret_int E.out.symm, rfl⟩
      · have hb : (z != 0) = true := by simpa using hz
        go_enter Try.func29, Try.ntmps29
        go_wp2
        refine wp_loop_rounds 3 ?_
        iterate 3 (rw [rounds_succ]; go_wp2)
        go_ret
        exact ⟨ret_int E.out.symm, rfl⟩
    · have e : orN 0 y z = y := by simp [orN, hy]
      have E := Lib.hid e; clear e
      have hb : (y != 0) = true := by simpa using hy
      go_enter Try.func29, Try.ntmps29
      go_wp2
      refine wp_loop_rounds 2 ?_
      iterate 2 (rw [rounds_succ]; go_wp2)
      go_ret
      exact ⟨ret_int E.out.symm, rfl⟩
  · have e : orN x y z = x := by simp [orN, hx]
    have E := Lib.hid e; clear e
    have hb : (x != 0) = true := by simpa using hx
    go_enter Try.func29, Try.ntmps29
    go_wp2
    refine wp_loop_rounds 1 ?_
    rw [rounds_succ]
    go_wp2
    go_ret
    exact ⟨ret_int E.out.symm, rfl⟩
end Go.Proofs.Ytamfhjjepeggcaa
