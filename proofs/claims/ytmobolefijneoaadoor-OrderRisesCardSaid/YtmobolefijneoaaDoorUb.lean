/-
  The contracts of munimentref01.broken (of a valid text) and munimentref01.Valid.
-/
import Derived.Test.YtmobolefijneoaaDoorUa
import Derived.Test.YtmobolefijneoaaDoorOw
import Derived.Laws.RangeAny
import Derived.LoopTactic
import Derived.Laws.DeepStrings4
set_option linter.unusedVariables false
namespace Go.Proofs.YtmobolefijneoaaDoor
open Go.RowKit Go.Lib

/-- A valid text's U+FFFD stands there whole. -/
theorem fffd_whole (l : List UInt8) (hne : l ≠ []) (hv : validD l = true) (hc : (decodeL l).1 = 65533) : 3 ≤ l.length ∧ l.take 3 = [239, 191, 189] ∧ (decodeL l).2 = 3 := by
  rw [validD_step l hne] at hv
  have he : ¬ ((decodeL l).1 = 65533 ∧ (decodeL l).2 = 1) := fun h => by rw [if_pos h] at hv; cases hv
  obtain ⟨h1, h2⟩ := enc_dec l hne he
  rw [hc, show (Utf8.encode ((65533 : Nat) : Int)).data.toList = [239, 191, 189] from enc_err] at h1
  have h3 := congrArg List.length h1
  rw [List.length_take, Nat.min_eq_left h2] at h3
  simp only [List.length_cons, List.length_nil] at h3
  rw [← h3] at h1 h2
  exact ⟨h2, h1.symm, h3.symm⟩
theorem valid_next (l : List UInt8) (hne : l ≠ []) (hv : validD l = true) : validD (l.drop (decodeL l).2) = true := by
  rw [validD_step l hne] at hv
  split at hv
  · cases hv
  · exact hv

theorem ext_toList (s : ByteArray) (a b : Nat) : (s.extract a b).toList = (s.data.toList.drop a).take (b - a) := by
  rw [ByteArray.toList_eq]
  simp [ByteArray.data_extract, List.take_drop]
set_option maxHeartbeats 2000000 in
theorem broken_any (s : ByteArray) (w : World) (hs : s.size ≤ 70368744177664) (hv : validD s.data.toList = true) :
    Calls Tryd.prog 57 #[.string s] w fun e w' => e = .returned (.bool false) ∧ Below w.heap.size w w' := by
  have HV := Lib.hid hv
  clear hv
  go_enter Tryd.func57, Tryd.ntmps57
  go_wp2
  go_loopw [] (fun wr => ∃ pos : Nat, pos ≤ s.size ∧ Hid (validD (s.data.toList.drop pos) = true) ∧ wr = w.iter s pos) (fun wr => s.size - wr.iterPos w.heap.size)
  case atStart => exact ⟨0, Nat.zero_le _, HV, rfl⟩
  case round =>
    obtain ⟨pos, hp, hV, rfl⟩ := hrel
    by_cases hlt : pos < s.size
    · have hn := fun ty => run_next_any (P := Tryd.prog) w s pos ty hlt
      have hne : s.data.toList.drop pos ≠ [] := by
        intro e
        have := congrArg List.length e
        rw [List.length_drop, ← size_eq] at this
        simp only [List.length_nil] at this
        omega
      have hd := decodeL_drop s pos
      have HN := Lib.hid (valid_next _ hne hV.out)
      have hw := decodeL_width (s.data.toList.drop pos)
      have hle := decodeL_le _ hne
      rw [List.length_drop, ← size_eq] at hle
      have HF := Lib.hid (fffd_whole _ hne hV.out)
      rw [hd] at HN hw hle HF
      rw [List.drop_drop] at HN
      clear hd hne
      generalize (Utf8.decode s pos).2 = wd at *
      generalize (Utf8.decode s pos).1 = c at *
      by_cases hc : c = 65533
      · obtain ⟨h3, htake, rfl⟩ := HF.out hc
        subst hc
        rw [List.length_drop, ← size_eq] at h3
        have g1 : ¬ (s.size : Int) < (pos : Int) + 3 := by omega
        have g2 : (pos : Int) + 3 ≤ (s.size : Int) := by omega
        have hx : ((s.extract pos (pos + 3)).toList == [239, 191, 189]) = true := by
          rw [ext_toList, Nat.add_sub_cancel_left, htake]; rfl
        clear HF htake
        go_wp2
        go_roundw
        case rel => exact ⟨pos + 3, by omega, HN, rfl⟩
        case measure => rw [World.iterPos_iter, World.iterPos_iter]; omega
      · have hcI : ((c : Int) == 65533) = false := by simp; omega
        go_wp2
        go_roundw
        case rel => exact ⟨pos + wd, by omega, HN, rfl⟩
        case measure => rw [World.iterPos_iter, World.iterPos_iter]; omega
    · have hn := fun ty => run_next_end (P := Tryd.prog) w s pos ty hlt
      go_wp2
      go_ret
      exact ⟨rfl, (Below.refl _ _).alloc (Nat.le_refl _) _⟩

theorem runes_array (s : ByteArray) : Conv.runesFrom s s.size 0 #[] = ((codesL s.size s.data.toList).map (Value.int .i32)).toArray := by
  apply Array.ext'
  rw [runesFrom_codes]
  simp
theorem bytes_inj {a b : ByteArray} (h : a.data.toList = b.data.toList) : a = b := by
  cases a; cases b; simp only [ByteArray.mk.injEq]; exact Array.ext' h
set_option maxHeartbeats 2000000 in
theorem rvalid_any (s : ByteArray) (w : World) (hs : s.size ≤ 70368744177664) :
    Calls Tryd.prog 54 #[.string s] w fun e w' => e = .returned (.bool (validD s.data.toList)) ∧ Below w.heap.size w w' := by
  have hsz := size_eq s
  obtain ⟨ns, hns⟩ : ∃ ns, codesL s.size s.data.toList = ns := ⟨_, rfl⟩
  have hlen : ns.length ≤ s.size := by rw [← hns]; exact codes_len _ _
  have hRsz : (Conv.runesFrom s s.size 0 #[]).size = ns.length := by rw [runes_array, hns]; simp
  obtain ⟨cap, hcap⟩ : ∃ cap, grownCap w ns.length 0 21 = cap := ⟨_, rfl⟩
  have h1 := run_runes_of_string (P := Tryd.prog) w 9 66 21 s Tryd.underlying9 Tryd.underlying66 Tryd.underlying21 (by rw [hRsz]; omega)
  rw [hRsz, hcap, runes_array, hns] at h1
  obtain ⟨zs, hzs⟩ : ∃ zs : List Int, zs = ns ++ List.replicate (cap - ns.length) 0 := ⟨_, rfl⟩
  have hrow : (ns.map (Value.int .i32)).toArray ++ Array.replicate (cap - ns.length) (Value.int .i32 0) = (zs.map (Value.int .i32)).toArray := by
    rw [hzs]; apply Array.ext'; simp
  rw [hrow] at h1
  have h2 : (convert 66 9 (.slice (some ⟨w.heap.size, 0, none⟩) ns.length cap)).run Tryd.prog (w.drew.alloc (.cells (zs.map (Value.int .i32)).toArray 21)) = .ok (.string (runesBytes ns)) (w.drew.alloc (.cells (zs.map (Value.int .i32)).toArray 21)) := by
    have := run_convert_runes (P := Tryd.prog) (w.drew.alloc (.cells (zs.map (Value.int .i32)).toArray 21)) 66 9 21 ⟨w.heap.size, 0, none⟩ ns.length cap zs (by rw [hzs]; simp) Tryd.underlying66 Tryd.underlying21 Tryd.underlying9 (fun j hj => by
      rw [add_mk, Nat.zero_add]
      have := cell_of_row (w.drew.alloc (.cells (zs.map (Value.int .i32)).toArray 21)) w.heap.size j (zs.map (Value.int .i32)).toArray 21 (0, 0) (heap_alloc_new w.drew _)
      rw [this]
      simp [List.getD, List.getElem?_eq_getElem hj])
    rwa [hzs, List.take_left, ← hzs] at this
  have hbytes : runesBytes ns = s ↔ validD s.data.toList = true := by
    have h := codes_iff s.data.toList
    rw [← hsz, hns, ← runesBytes_flat] at h
    rw [← h, decide_eq_true_eq]
    exact ⟨fun e => by rw [e], fun e => bytes_inj e⟩
  have HB0 : Below w.heap.size w (w.drew.alloc (.cells (zs.map (Value.int .i32)).toArray 21)) := ((Below.refl _ _).drew).alloc (Nat.le_refl _) _
  obtain ⟨W, hW⟩ : ∃ W, W = w.drew.alloc (.cells (zs.map (Value.int .i32)).toArray 21) := ⟨_, rfl⟩
  rw [← hW] at h1 h2 HB0
  clear hW hrow hzs hRsz hlen hsz
  cases hv : validD s.data.toList with
  | true =>
    have hbt := hbytes.2 hv
    rw [hbt] at h2
    have HBR := Lib.hid (broken_any s W hs hv)
    clear hbytes hv hbt
    have hx : (s.toList == s.toList) = true := by simp
    go_enter Tryd.func54, Tryd.ntmps54
    go_wp2_with (first | (go_at_call 57; refine HBR.out.mono ?_; rintro e w2 ⟨rfl, hb2⟩))
    go_ret
    exact ⟨rfl, HB0.trans (hb2.mono HB0.size)⟩
  | false =>
    have hbt : runesBytes ns ≠ s := fun e => by have := hbytes.1 e; rw [hv] at this; cases this
    have hx : ((runesBytes ns).toList == s.toList) = false := by
      rw [beq_eq_false_iff_ne]
      intro e
      rw [ByteArray.toList_eq, ByteArray.toList_eq] at e
      exact hbt (bytes_inj e)
    clear hbytes hv
    generalize runesBytes ns = r at *
    go_enter Tryd.func54, Tryd.ntmps54
    go_wp2
    go_ret
    exact ⟨rfl, HB0⟩
end Go.Proofs.YtmobolefijneoaaDoor
