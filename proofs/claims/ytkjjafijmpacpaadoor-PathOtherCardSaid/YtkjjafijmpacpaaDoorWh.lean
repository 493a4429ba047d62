/-
  Plain: a step's number, its place in a value; the contracts of number and place, of path and of munimentref02.
-/
import Derived.Test.YtkjjafijmpacpaaDoorWg
import Derived.LoopTactic
set_option linter.unusedVariables false
namespace Go.Proofs.YtkjjafijmpacpaaDoor
open Go.RowKit

def numGo (s : ByteArray) : Nat → Nat → Nat → Int
  | 0, _, n => n
  | f + 1, i, n => if h : i < s.size then (if s[i].toNat < 48 ∨ 57 < s[i].toNat then -1 else numGo s f (i + 1) (n * 10 + (s[i].toNat - 48))) else n
/-- A step's number; -1: none. -/
def numP (s : ByteArray) : Int := if s.size = 0 ∨ 4 < s.size ∨ (∃ h : 1 < s.size, (s[0]'(Nat.lt_trans Nat.zero_lt_one h)).toNat = 48) then -1 else numGo s (s.size + 1) 0 0
def findGo (st : ByteArray) : List ByteArray → Nat → Int
  | [], _ => -1
  | x :: xs, q => if x = st then q else findGo st xs (q + 1)
/-- The place of a step in a value; -1: none. -/
def placeP : JV → ByteArray → Int
  | .mk k _ _ ns is, st => if k = 5 then (if numP st < is.length then numP st else -1) else if k = 6 then findGo st ns 0 else -1
def LeadIs (s : ByteArray) (b : Bool) : Prop := b = true ↔ ∃ h : 1 < s.size, (s[0]'(Nat.lt_trans Nat.zero_lt_one h)).toNat = 48
theorem pow_bound {n q : Nat} (h : n < 10 ^ q) (hq : q < 4) : n ≤ 999 := by
  have := Nat.pow_le_pow_right (show 0 < 10 by omega) (show q ≤ 3 by omega)
  have : 10 ^ 3 = 1000 := rfl
  omega
theorem findGo_ge (st : ByteArray) : ∀ (l : List ByteArray) (q : Nat), findGo st l q = -1 ∨ ((q : Int) ≤ findGo st l q ∧ findGo st l q < (q + l.length : Nat))
  | [], _ => .inl rfl
  | x :: xs, q => by
    rw [findGo]
    split
    · exact .inr ⟨by omega, by simp only [List.length_cons]; omega⟩
    · rcases findGo_ge st xs (q + 1) with h | ⟨h1, h2⟩
      · exact .inl h
      · exact .inr ⟨by omega, by simp only [List.length_cons]; omega⟩

set_option maxHeartbeats 4000000 in
theorem number_any (s : ByteArray) (w : World) : Calls Tryd.prog 30 #[.string s] w fun e w' => e = .returned (.int .i64 (numP s)) ∧ Below w.heap.size w w' := by
  obtain ⟨X, hX⟩ : ∃ X, numP s = X := ⟨_, rfl⟩
  rw [hX]
  have HX := Lib.hid hX
  clear hX
  by_cases a1 : s.size = 0
  · have b1 : ((s.size : Int) == 0) = true := by rw [beq_iff_eq]; omega
    have HE : Hid (X = -1) := Lib.hid (by rw [← HX.out, numP, if_pos (.inl a1)])
    clear a1
    go_enter Tryd.func30, Tryd.ntmps30
    go_wp2
    go_ret
    exact ⟨by rw [HE.out] <;> rfl, Below.refl _ _⟩
  have b1 : ((s.size : Int) == 0) = false := by rw [beq_eq_false_iff_ne]; omega
  by_cases a2 : 4 < s.size
  · have a2I : (4 : Int) < (s.size : Int) := by omega
    have HE : Hid (X = -1) := Lib.hid (by rw [← HX.out, numP, if_pos (.inr (.inl a2))])
    clear a1
    go_enter Tryd.func30, Tryd.ntmps30
    go_wp2
    go_ret
    exact ⟨by rw [HE.out] <;> rfl, Below.refl _ _⟩
  have a2I : ¬ (4 : Int) < (s.size : Int) := by omega
  have p0 : 0 < s.size := by omega
  have p0I : (0 : Int) < (s.size : Int) := by omega
  obtain ⟨x0, hx0⟩ : ∃ x, (s[0]'p0).toNat = x := ⟨_, rfl⟩
  go_enter Tryd.func30, Tryd.ntmps30
  go_upto_region 1 with fail
  go_cut [22] (fun c wx => ∃ b : Bool, c = .bool b ∧ LeadIs s b ∧ wx = w)
  case first =>
    by_cases a3 : 1 < s.size
    · have a3I : (1 : Int) < (s.size : Int) := by omega
      by_cases a4 : x0 = 48
      · have b4 : ((x0 : Int) == 48) = true := by rw [beq_iff_eq]; omega
        have HH : LeadIs s true := ⟨fun _ => ⟨a3, by rw [hx0, a4]⟩, fun _ => rfl⟩
        clear a4 a1
        go_wp2
        go_meet
        exact ⟨true, rfl, HH, rfl⟩
      · have b4 : ((x0 : Int) == 48) = false := by rw [beq_eq_false_iff_ne]; omega
        have HH : LeadIs s false := ⟨(fun h => by cases h), fun ⟨h, he⟩ => absurd (hx0.symm.trans he) a4⟩
        clear a4 a1
        go_wp2
        go_meet
        exact ⟨false, rfl, HH, rfl⟩
    · have a3I : ¬ (1 : Int) < (s.size : Int) := by omega
      have HH : LeadIs s false := ⟨(fun h => by cases h), fun ⟨h, he⟩ => absurd h a3⟩
      clear a1
      go_wp2
      go_meet
      exact ⟨false, rfl, HH, rfl⟩
  case rest =>
  obtain ⟨b, rfl, HB, hwc⟩ := hcut
  have hwc2 := hwc.symm
  clear hwc
  subst hwc2
  clear hx0
  cases b with
  | true =>
    have HE : Hid (X = -1) := Lib.hid (by rw [← HX.out, numP, if_pos (.inr (.inr (HB.1 rfl)))])
    clear HB a1
    go_wp2
    go_ret
    exact ⟨by rw [HE.out] <;> rfl, Below.refl _ _⟩
  | false =>
  have HG : Hid (numGo s (s.size + 1) 0 0 = X) := Lib.hid (by
    rw [← HX.out, numP, if_neg]
    rintro (h | h | h)
    · exact a1 h
    · exact a2 h
    · have := HB.2 h; cases this)
  clear HB a1 HX
  go_wp2
  go_loopw [3, 4] (fun x i wr => ∃ n q : Nat, x = .int .i64 n ∧ i = .int .i64 q ∧ q ≤ s.size ∧ n < 10 ^ q ∧ Hid (numGo s (s.size + 1 - q) q n = X) ∧ Below w.heap.size w wr) (fun _ i _ => s.size - (RowKit.intOf i).toNat)
  case atStart => exact ⟨0, 0, rfl, rfl, Nat.zero_le _, by simp, HG, Below.refl _ _⟩
  case round =>
    obtain ⟨n, q, rfl, rfl, hq, hn, HQ, hB⟩ := hrel
    have HN := Lib.hid hn
    clear hn
    by_cases hlt : q < s.size
    · have hqI : (q : Int) < (s.size : Int) := by omega
      have hq0 : (0 : Int) ≤ (q : Int) := by omega
      have hn9 : n ≤ 999 := pow_bound HN.out (by omega)
      have HQ2 : Hid ((if s[q].toNat < 48 ∨ 57 < s[q].toNat then -1 else numGo s (s.size - q) (q + 1) (n * 10 + (s[q].toNat - 48))) = X) := Lib.hid (by
        rw [← HQ.out, show s.size + 1 - q = (s.size - q) + 1 by omega, numGo, dif_pos hlt])
      obtain ⟨x, hx⟩ : ∃ x, (s[q]'hlt).toNat = x := ⟨_, rfl⟩
      rw [hx] at HQ2
      have hx256 : x < 256 := by rw [← hx]; exact UInt8.toNat_lt _
      clear HQ
      by_cases c1 : x < 48
      · have c1I : (x : Int) < 48 := by omega
        have HE : Hid (X = -1) := Lib.hid (by rw [← HQ2.out, if_pos (.inl c1)])
        go_wp2
        go_ret
        exact ⟨by rw [HE.out] <;> rfl, hB⟩
      have c1I : ¬ (x : Int) < 48 := by omega
      by_cases c2 : 57 < x
      · have c2I : (57 : Int) < (x : Int) := by omega
        have HE : Hid (X = -1) := Lib.hid (by rw [← HQ2.out, if_pos (.inr c2)])
        go_wp2
        go_ret
        exact ⟨by rw [HE.out] <;> rfl, hB⟩
      have c2I : ¬ (57 : Int) < (x : Int) := by omega
      have HE : Hid (numGo s (s.size + 1 - (q + 1)) (q + 1) (n * 10 + (x - 48)) = X) := Lib.hid (by
        rw [← HQ2.out, if_neg (by omega), show s.size + 1 - (q + 1) = s.size - q by omega])
      have HN2 : Hid (n * 10 + (x - 48) < 10 ^ (q + 1)) := Lib.hid (by have := HN.out; rw [Nat.pow_succ]; omega)
      clear HQ2
      have hw8 : IntKind.u8.wrap ((x : Int) - 48) = (x : Int) - 48 := by rw [IntKind.wrap_u8]; omega
      have hw64 : IntKind.i64.wrap ((x : Int) - 48) = (x : Int) - 48 := by rw [IntKind.wrap_i64]; omega
      go_wp2
      go_roundw
      case rel => exact ⟨n * 10 + (x - 48), q + 1, congrArg (Value.int .i64) (by omega), by go_num, by omega, HN2.out, HE, hB⟩
      case measure => simp [RowKit.intOf]; omega
    · have hqI : ¬ (q : Int) < (s.size : Int) := by omega
      have HE : Hid (X = n) := Lib.hid (by
        rw [← HQ.out, show s.size + 1 - q = (s.size - q) + 1 by omega, numGo, dif_neg hlt])
      go_wp2
      go_ret
      exact ⟨by rw [HE.out] <;> rfl, hB⟩

set_option maxHeartbeats 4000000 in
theorem place_any (v : LV) (st : ByteArray) (w : World) (hv : v.At w) : Calls Tryd.prog 21 #[v.val, .string st] w fun e w' => e = .returned (.int .i64 (placeP v.j st)) ∧ Below w.heap.size w w' := by
  obtain ⟨k, n, s, An, ns, cn, Ai, is, ci⟩ := v
  obtain ⟨W, hW⟩ : ∃ W, W = w.alloc (.cells (valBlk k n s An ns cn Ai is ci) 30) := ⟨_, rfl⟩
  have hB0 : Below w.heap.size w W := by rw [hW]; exact (Below.refl _ _).alloc (Nat.le_refl _) _
  have hF : Blk W w.heap.size 30 (valBlk k n s An ns cn Ai is ci) := by rw [hW]; exact Blk.new w _ _
  have hvW := hv.below hB0 _
  have hnc : Cells W W.heap.size An (ns.map Value.string) := by have := hvW; unfold LV.At at this; exact this.1
  obtain ⟨hn1, hi1⟩ : (ns.length ≤ cn ∧ cn ≤ 9223372036854775807) ∧ is.length ≤ ci ∧ ci ≤ 9223372036854775807 := by unfold LV.At at hv; exact hv.2.2.2.2.2.2.2
  have HNU := Lib.hid (number_any st W)
  obtain ⟨X, hX⟩ : ∃ X, placeP (LV.mk k n s An ns cn Ai is ci).j st = X := ⟨_, rfl⟩
  rw [hX]
  have HX : Hid ((if k = 5 then (if numP st < is.length then numP st else -1) else if k = 6 then findGo st ns 0 else -1) = X) := Lib.hid (by rw [← hX, LV.j, placeP, LV.js_len])
  have HW := Lib.hid hW
  clear hW hv hX
  obtain ⟨c0, c3, c4⟩ : W.cell? ⟨w.heap.size, 0, none⟩ = some (.int .i64 k) ∧ W.cell? ⟨w.heap.size, 3, none⟩ = some (.slice An ns.length cn) ∧ W.cell? ⟨w.heap.size, 4, none⟩ = some (.slice Ai is.length ci) := ⟨hF.cell 0, hF.cell 3, hF.cell 4⟩
  show Calls Tryd.prog 21 #[.agg (valBlk k n s An ns cn Ai is ci), .string st] w _
  by_cases a5 : k = 5
  · subst a5
    have HX5 : Hid ((if numP st < is.length then numP st else -1) = X) := Lib.hid (by rw [← HX.out, if_pos rfl])
    clear HX
    generalize numP st = N at *
    clear c0 c3 c4
    go_enter Tryd.func21, Tryd.ntmps21
    go_wp2_with fail
    rw [← HW.out]
    refine HNU.out.mono ?_
    rintro e w2 ⟨rfl, hb2⟩
    have hF2 := hF.below hb2 hF.lt
    obtain ⟨c0, c3, c4⟩ : w2.cell? ⟨w.heap.size, 0, none⟩ = some (.int .i64 5) ∧ w2.cell? ⟨w.heap.size, 3, none⟩ = some (.slice An ns.length cn) ∧ w2.cell? ⟨w.heap.size, 4, none⟩ = some (.slice Ai is.length ci) := ⟨hF2.cell 0, hF2.cell 3, hF2.cell 4⟩
    by_cases hN : N < (is.length : Int)
    · have HE : Hid (X = N) := Lib.hid (by rw [← HX5.out, if_pos hN])
      go_wp2
      go_ret
      exact ⟨by rw [HE.out] <;> rfl, hB0.trans (hb2.mono hB0.size)⟩
    · have HE : Hid (X = -1) := Lib.hid (by rw [← HX5.out, if_neg hN])
      go_wp2
      go_ret
      exact ⟨by rw [HE.out] <;> rfl, hB0.trans (hb2.mono hB0.size)⟩
  have b5 : (k == 5) = false := by rw [beq_eq_false_iff_ne]; exact a5
  by_cases a6 : k = 6
  rotate_left
  · have b6 : (k == 6) = false := by rw [beq_eq_false_iff_ne]; exact a6
    have HE : Hid (X = -1) := Lib.hid (by rw [← HX.out, if_neg a5, if_neg a6])
    clear a5 a6
    go_enter Tryd.func21, Tryd.ntmps21
    go_wp2
    rw [← HW.out]
    go_ret
    exact ⟨by rw [HE.out] <;> rfl, hB0⟩
  subst a6
  have HE : Hid (findGo st ns 0 = X) := Lib.hid (by rw [← HX.out, if_neg a5, if_pos rfl])
  clear a5 b5 HX c0 c3 c4 HNU
  have c0 : W.cell? ⟨w.heap.size, 0, none⟩ = some (.int .i64 6) := hF.cell 0
  go_enter Tryd.func21, Tryd.ntmps21
  go_wp2
  rw [← HW.out]
  clear c0
  go_loopw [6] (fun i wr => ∃ q : Nat, i = .int .i64 q ∧ q ≤ ns.length ∧ Hid (findGo st (ns.drop q) q = X) ∧ Below W.heap.size W wr) (fun i _ => ns.length - (RowKit.intOf i).toNat)
  case atStart => exact ⟨0, rfl, Nat.zero_le _, HE, Below.refl _ _⟩
  case round =>
    obtain ⟨q, rfl, hq, HQ, hB⟩ := hrel
    have hFr := hF.below hB hF.lt
    have c3 : wr.cell? ⟨w.heap.size, 3, none⟩ = some (.slice An ns.length cn) := hFr.cell 3
    by_cases hlt : q < ns.length
    · have hqI : (q : Int) < (ns.length : Int) := by omega
      obtain ⟨b, off, rfl, hb, hca⟩ := (hnc.below hB) q (.string ns[q]) (by rw [List.getElem?_map, List.getElem?_eq_getElem hlt]; rfl)
      have HQ2 : Hid ((if ns[q] = st then (q : Int) else findGo st (ns.drop (q + 1)) (q + 1)) = X) := Lib.hid (by rw [← HQ.out, List.drop_eq_getElem_cons hlt, findGo])
      generalize ns[q] = x at *
      by_cases hx : x = st
      · have hxb : (x.toList == st.toList) = true := toList_inj.2 hx
        have HR : Hid (X = q) := Lib.hid (by rw [← HQ2.out, if_pos hx])
        clear hx
        go_wp2
        go_ret
        exact ⟨by rw [HR.out] <;> rfl, hB0.trans (hB.mono hB0.size)⟩
      · have hxb : (x.toList == st.toList) = false := by rw [Bool.eq_false_iff]; exact fun h => hx (toList_inj.1 h)
        have HR : Hid (findGo st (ns.drop (q + 1)) (q + 1) = X) := Lib.hid (by rw [← HQ2.out, if_neg hx])
        clear hx
        go_wp2
        go_roundw
        case rel => exact ⟨q + 1, by go_num, by omega, HR, hB⟩
        case measure => simp [RowKit.intOf]; omega
    · have hqI : ¬ (q : Int) < (ns.length : Int) := by omega
      have HR : Hid (X = -1) := Lib.hid (by rw [← HQ.out, List.drop_of_length_le (by omega), findGo])
      go_wp2
      go_ret
      exact ⟨by rw [HR.out] <;> rfl, hB0.trans (hB.mono hB0.size)⟩

set_option maxHeartbeats 4000000 in
theorem rnumber_any (s : ByteArray) (w : World) : Calls Tryd.prog 33 #[.string s] w fun e w' => e = .returned (.int .i64 (numP s)) ∧ Below w.heap.size w w' := by
  obtain ⟨X, hX⟩ : ∃ X, numP s = X := ⟨_, rfl⟩
  rw [hX]
  have HX := Lib.hid hX
  clear hX
  by_cases a1 : s.size = 0
  · have b1 : ((s.size : Int) == 0) = true := by rw [beq_iff_eq]; omega
    have HE : Hid (X = -1) := Lib.hid (by rw [← HX.out, numP, if_pos (.inl a1)])
    clear a1
    go_enter Tryd.func33, Tryd.ntmps33
    go_wp2
    go_ret
    exact ⟨by rw [HE.out] <;> rfl, Below.refl _ _⟩
  have b1 : ((s.size : Int) == 0) = false := by rw [beq_eq_false_iff_ne]; omega
  by_cases a2 : 4 < s.size
  · have a2I : (4 : Int) < (s.size : Int) := by omega
    have HE : Hid (X = -1) := Lib.hid (by rw [← HX.out, numP, if_pos (.inr (.inl a2))])
    clear a1
    go_enter Tryd.func33, Tryd.ntmps33
    go_wp2
    go_ret
    exact ⟨by rw [HE.out] <;> rfl, Below.refl _ _⟩
  have a2I : ¬ (4 : Int) < (s.size : Int) := by omega
  have p0 : 0 < s.size := by omega
  have p0I : (0 : Int) < (s.size : Int) := by omega
  obtain ⟨x0, hx0⟩ : ∃ x, (s[0]'p0).toNat = x := ⟨_, rfl⟩
  go_enter Tryd.func33, Tryd.ntmps33
  go_upto_region 1 with fail
  go_cut [22] (fun c wx => ∃ b : Bool, c = .bool b ∧ LeadIs s b ∧ wx = w)
  case first =>
    by_cases a3 : 1 < s.size
    · have a3I : (1 : Int) < (s.size : Int) := by omega
      by_cases a4 : x0 = 48
      · have b4 : ((x0 : Int) == 48) = true := by rw [beq_iff_eq]; omega
        have HH : LeadIs s true := ⟨fun _ => ⟨a3, by rw [hx0, a4]⟩, fun _ => rfl⟩
        clear a4 a1
        go_wp2
        go_meet
        exact ⟨true, rfl, HH, rfl⟩
      · have b4 : ((x0 : Int) == 48) = false := by rw [beq_eq_false_iff_ne]; omega
        have HH : LeadIs s false := ⟨(fun h => by cases h), fun ⟨h, he⟩ => absurd (hx0.symm.trans he) a4⟩
        clear a4 a1
        go_wp2
        go_meet
        exact ⟨false, rfl, HH, rfl⟩
    · have a3I : ¬ (1 : Int) < (s.size : Int) := by omega
      have HH : LeadIs s false := ⟨(fun h => by cases h), fun ⟨h, he⟩ => absurd h a3⟩
      clear a1
      go_wp2
      go_meet
      exact ⟨false, rfl, HH, rfl⟩
  case rest =>
  obtain ⟨b, rfl, HB, hwc⟩ := hcut
  have hwc2 := hwc.symm
  clear hwc
  subst hwc2
  clear hx0
  cases b with
  | true =>
    have HE : Hid (X = -1) := Lib.hid (by rw [← HX.out, numP, if_pos (.inr (.inr (HB.1 rfl)))])
    clear HB a1
    go_wp2
    go_ret
    exact ⟨by rw [HE.out] <;> rfl, Below.refl _ _⟩
  | false =>
  have HG : Hid (numGo s (s.size + 1) 0 0 = X) := Lib.hid (by
    rw [← HX.out, numP, if_neg]
    rintro (h | h | h)
    · exact a1 h
    · exact a2 h
    · have := HB.2 h; cases this)
  clear HB a1 HX
  go_wp2
  go_loopw [3, 4] (fun x i wr => ∃ n q : Nat, x = .int .i64 n ∧ i = .int .i64 q ∧ q ≤ s.size ∧ n < 10 ^ q ∧ Hid (numGo s (s.size + 1 - q) q n = X) ∧ Below w.heap.size w wr) (fun _ i _ => s.size - (RowKit.intOf i).toNat)
  case atStart => exact ⟨0, 0, rfl, rfl, Nat.zero_le _, by simp, HG, Below.refl _ _⟩
  case round =>
    obtain ⟨n, q, rfl, rfl, hq, hn, HQ, hB⟩ := hrel
    have HN := Lib.hid hn
    clear hn
    by_cases hlt : q < s.size
    · have hqI : (q : Int) < (s.size : Int) := by omega
      have hq0 : (0 : Int) ≤ (q : Int) := by omega
      have hn9 : n ≤ 999 := pow_bound HN.out (by omega)
      have HQ2 : Hid ((if s[q].toNat < 48 ∨ 57 < s[q].toNat then -1 else numGo s (s.size - q) (q + 1) (n * 10 + (s[q].toNat - 48))) = X) := Lib.hid (by
        rw [← HQ.out, show s.size + 1 - q = (s.size - q) + 1 by omega, numGo, dif_pos hlt])
      obtain ⟨x, hx⟩ : ∃ x, (s[q]'hlt).toNat = x := ⟨_, rfl⟩
      rw [hx] at HQ2
      have hx256 : x < 256 := by rw [← hx]; exact UInt8.toNat_lt _
      clear HQ
      by_cases c1 : x < 48
      · have c1I : (x : Int) < 48 := by omega
        have HE : Hid (X = -1) := Lib.hid (by rw [← HQ2.out, if_pos (.inl c1)])
        go_wp2
        go_ret
        exact ⟨by rw [HE.out] <;> rfl, hB⟩
      have c1I : ¬ (x : Int) < 48 := by omega
      by_cases c2 : 57 < x
      · have c2I : (57 : Int) < (x : Int) := by omega
        have HE : Hid (X = -1) := Lib.hid (by rw [← HQ2.out, if_pos (.inr c2)])
        go_wp2
        go_ret
        exact ⟨by rw [HE.out] <;> rfl, hB⟩
      have c2I : ¬ (57 : Int) < (x : Int) := by omega
      have HE : Hid (numGo s (s.size + 1 - (q + 1)) (q + 1) (n * 10 + (x - 48)) = X) := Lib.hid (by
        rw [← HQ2.out, if_neg (by omega), show s.size + 1 - (q + 1) = s.size - q by omega])
      have HN2 : Hid (n * 10 + (x - 48) < 10 ^ (q + 1)) := Lib.hid (by have := HN.out; rw [Nat.pow_succ]; omega)
      clear HQ2
      have hw8 : IntKind.u8.wrap ((x : Int) - 48) = (x : Int) - 48 := by rw [IntKind.wrap_u8]; omega
      have hw64 : IntKind.i64.wrap ((x : Int) - 48) = (x : Int) - 48 := by rw [IntKind.wrap_i64]; omega
      go_wp2
      go_roundw
      case rel => exact ⟨n * 10 + (x - 48), q + 1, congrArg (Value.int .i64) (by omega), by go_num, by omega, HN2.out, HE, hB⟩
      case measure => simp [RowKit.intOf]; omega
    · have hqI : ¬ (q : Int) < (s.size : Int) := by omega
      have HE : Hid (X = n) := Lib.hid (by
        rw [← HQ.out, show s.size + 1 - q = (s.size - q) + 1 by omega, numGo, dif_neg hlt])
      go_wp2
      go_ret
      exact ⟨by rw [HE.out] <;> rfl, hB⟩

set_option maxHeartbeats 4000000 in
theorem rplace_any (v : LV) (st : ByteArray) (w : World) (hv : v.At w) : Calls Tryd.prog 23 #[v.val, .string st] w fun e w' => e = .returned (.int .i64 (placeP v.j st)) ∧ Below w.heap.size w w' := by
  obtain ⟨k, n, s, An, ns, cn, Ai, is, ci⟩ := v
  obtain ⟨W, hW⟩ : ∃ W, W = w.alloc (.cells (valBlk k n s An ns cn Ai is ci) 30) := ⟨_, rfl⟩
  have hB0 : Below w.heap.size w W := by rw [hW]; exact (Below.refl _ _).alloc (Nat.le_refl _) _
  have hF : Blk W w.heap.size 30 (valBlk k n s An ns cn Ai is ci) := by rw [hW]; exact Blk.new w _ _
  have hvW := hv.below hB0 _
  have hnc : Cells W W.heap.size An (ns.map Value.string) := by have := hvW; unfold LV.At at this; exact this.1
  obtain ⟨hn1, hi1⟩ : (ns.length ≤ cn ∧ cn ≤ 9223372036854775807) ∧ is.length ≤ ci ∧ ci ≤ 9223372036854775807 := by unfold LV.At at hv; exact hv.2.2.2.2.2.2.2
  have HNU := Lib.hid (rnumber_any st W)
  obtain ⟨X, hX⟩ : ∃ X, placeP (LV.mk k n s An ns cn Ai is ci).j st = X := ⟨_, rfl⟩
  rw [hX]
  have HX : Hid ((if k = 5 then (if numP st < is.length then numP st else -1) else if k = 6 then findGo st ns 0 else -1) = X) := Lib.hid (by rw [← hX, LV.j, placeP, LV.js_len])
  have HW := Lib.hid hW
  clear hW hv hX
  obtain ⟨c0, c3, c4⟩ : W.cell? ⟨w.heap.size, 0, none⟩ = some (.int .i64 k) ∧ W.cell? ⟨w.heap.size, 3, none⟩ = some (.slice An ns.length cn) ∧ W.cell? ⟨w.heap.size, 4, none⟩ = some (.slice Ai is.length ci) := ⟨hF.cell 0, hF.cell 3, hF.cell 4⟩
  show Calls Tryd.prog 23 #[.agg (valBlk k n s An ns cn Ai is ci), .string st] w _
  by_cases a5 : k = 5
  · subst a5
    have HX5 : Hid ((if numP st < is.length then numP st else -1) = X) := Lib.hid (by rw [← HX.out, if_pos rfl])
    clear HX
    generalize numP st = N at *
    clear c0 c3 c4
    go_enter Tryd.func23, Tryd.ntmps23
    go_wp2_with fail
    rw [← HW.out]
    refine HNU.out.mono ?_
    rintro e w2 ⟨rfl, hb2⟩
    have hF2 := hF.below hb2 hF.lt
    obtain ⟨c0, c3, c4⟩ : w2.cell? ⟨w.heap.size, 0, none⟩ = some (.int .i64 5) ∧ w2.cell? ⟨w.heap.size, 3, none⟩ = some (.slice An ns.length cn) ∧ w2.cell? ⟨w.heap.size, 4, none⟩ = some (.slice Ai is.length ci) := ⟨hF2.cell 0, hF2.cell 3, hF2.cell 4⟩
    by_cases hN : N < (is.length : Int)
    · have HE : Hid (X = N) := Lib.hid (by rw [← HX5.out, if_pos hN])
      go_wp2
      go_ret
      exact ⟨by rw [HE.out] <;> rfl, hB0.trans (hb2.mono hB0.size)⟩
    · have HE : Hid (X = -1) := Lib.hid (by rw [← HX5.out, if_neg hN])
      go_wp2
      go_ret
      exact ⟨by rw [HE.out] <;> rfl, hB0.trans (hb2.mono hB0.size)⟩
  have b5 : (k == 5) = false := by rw [beq_eq_false_iff_ne]; exact a5
  by_cases a6 : k = 6
  rotate_left
  · have b6 : (k == 6) = false := by rw [beq_eq_false_iff_ne]; exact a6
    have HE : Hid (X = -1) := Lib.hid (by rw [← HX.out, if_neg a5, if_neg a6])
    clear a5 a6
    go_enter Tryd.func23, Tryd.ntmps23
    go_wp2
    rw [← HW.out]
    go_ret
    exact ⟨by rw [HE.out] <;> rfl, hB0⟩
  subst a6
  have HE : Hid (findGo st ns 0 = X) := Lib.hid (by rw [← HX.out, if_neg a5, if_pos rfl])
  clear a5 b5 HX c0 c3 c4 HNU
  have c0 : W.cell? ⟨w.heap.size, 0, none⟩ = some (.int .i64 6) := hF.cell 0
  go_enter Tryd.func23, Tryd.ntmps23
  go_wp2
  rw [← HW.out]
  clear c0
  go_loopw [6] (fun i wr => ∃ q : Nat, i = .int .i64 q ∧ q ≤ ns.length ∧ Hid (findGo st (ns.drop q) q = X) ∧ Below W.heap.size W wr) (fun i _ => ns.length - (RowKit.intOf i).toNat)
  case atStart => exact ⟨0, rfl, Nat.zero_le _, HE, Below.refl _ _⟩
  case round =>
    obtain ⟨q, rfl, hq, HQ, hB⟩ := hrel
    have hFr := hF.below hB hF.lt
    have c3 : wr.cell? ⟨w.heap.size, 3, none⟩ = some (.slice An ns.length cn) := hFr.cell 3
    by_cases hlt : q < ns.length
    · have hqI : (q : Int) < (ns.length : Int) := by omega
      obtain ⟨b, off, rfl, hb, hca⟩ := (hnc.below hB) q (.string ns[q]) (by rw [List.getElem?_map, List.getElem?_eq_getElem hlt]; rfl)
      have HQ2 : Hid ((if ns[q] = st then (q : Int) else findGo st (ns.drop (q + 1)) (q + 1)) = X) := Lib.hid (by rw [← HQ.out, List.drop_eq_getElem_cons hlt, findGo])
      generalize ns[q] = x at *
      by_cases hx : x = st
      · have hxb : (x.toList == st.toList) = true := toList_inj.2 hx
        have HR : Hid (X = q) := Lib.hid (by rw [← HQ2.out, if_pos hx])
        clear hx
        go_wp2
        go_ret
        exact ⟨by rw [HR.out] <;> rfl, hB0.trans (hB.mono hB0.size)⟩
      · have hxb : (x.toList == st.toList) = false := by rw [Bool.eq_false_iff]; exact fun h => hx (toList_inj.1 h)
        have HR : Hid (findGo st (ns.drop (q + 1)) (q + 1) = X) := Lib.hid (by rw [← HQ2.out, if_neg hx])
        clear hx
        go_wp2
        go_roundw
        case rel => exact ⟨q + 1, by go_num, by omega, HR, hB⟩
        case measure => simp [RowKit.intOf]; omega
    · have hqI : ¬ (q : Int) < (ns.length : Int) := by omega
      have HR : Hid (X = -1) := Lib.hid (by rw [← HQ.out, List.drop_of_length_le (by omega), findGo])
      go_wp2
      go_ret
      exact ⟨by rw [HR.out] <;> rfl, hB0.trans (hB.mono hB0.size)⟩
end Go.Proofs.YtkjjafijmpacpaaDoor
