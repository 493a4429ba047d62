/-
  The contracts of munimentref01.nodes, Nodes, Few: they return.
-/
import Derived.Test.YtmobolefijneoaaDoorWa
import Derived.LoopTactic
set_option linter.unusedVariables false
namespace Go.Proofs.YtmobolefijneoaaDoor
open Go.RowKit

theorem LV.At.item {w : World} {k n : Int} {s : ByteArray} {An : Option Addr} {ns : List ByteArray} {cn : Nat} {Ai : Option Addr} {is : List LV} {ci : Nat} (h : (LV.mk k n s An ns cn Ai is ci).At w) {i : Nat} (hi : i < is.length) :
    ∃ b off, Ai = some ⟨b, off, none⟩ ∧ b < w.heap.size ∧ (is[i]).At w ∧ ∀ j u, (is[i]).cells[j]? = some u → w.cell? ⟨b, off + i * 5 + j, none⟩ = some u := by
  unfold LV.At at h
  obtain ⟨_, h2, h3, _⟩ := h
  have hc : ∀ j u, (is[i]).cells[j]? = some u → (is.flatMap LV.cells)[i * 5 + j]? = some u := fun j u hu => by
    have hj : j < 5 := by
      have := (List.getElem?_eq_some_iff.1 hu).1
      rwa [LV.cells_len] at this
    rw [flat_at is i j hi hj, hu]
  obtain ⟨u0, hu0⟩ : ∃ u, (is[i]).cells[0]? = some u := ⟨(is[i]).cells[0]'(by rw [LV.cells_len]; omega), List.getElem?_eq_getElem _⟩
  obtain ⟨b, off, e, hb, _⟩ := h2 (i * 5 + 0) u0 (hc 0 u0 hu0)
  refine ⟨b, off, e, hb, LV.allAt.1 h3 _ (List.getElem_mem hi), fun j u hu => ?_⟩
  obtain ⟨b', off', e', _, hcell⟩ := h2 (i * 5 + j) u (hc j u hu)
  rw [e] at e'
  injection e' with e'
  injection e' with e1 e2
  subst e1 e2
  rw [Nat.add_assoc]
  exact hcell
mutual
def LV.sz : LV → Nat
  | .mk _ _ _ _ _ _ _ is _ => LV.szs is + 1
def LV.szs : List LV → Nat
  | [] => 0
  | v :: vs => v.sz + LV.szs vs
end
theorem LV.szs_at : ∀ {is : List LV} {i : Nat} (hi : i < is.length), (is[i]).sz ≤ LV.szs is
  | v :: vs, 0, hi => by simp [LV.szs]
  | v :: vs, i + 1, hi => by
    have := LV.szs_at (is := vs) (i := i) (by simpa using hi)
    simp only [List.getElem_cons_succ, LV.szs]
    omega
  | [], i, hi => absurd hi (by simp)
theorem LV.item_size {k n : Int} {s : ByteArray} {An : Option Addr} {ns : List ByteArray} {cn : Nat} {Ai : Option Addr} {is : List LV} {ci : Nat} {i : Nat} (hi : i < is.length) : (is[i]).sz < (LV.mk k n s An ns cn Ai is ci).sz := by
  have := LV.szs_at hi
  rw [LV.sz]
  omega
/-- The block of a value that is kept in memory. -/
abbrev valBlk (k n : Int) (s : ByteArray) (An : Option Addr) (ns : List ByteArray) (cn : Nat) (Ai : Option Addr) (is : List LV) (ci : Nat) : Array Value := #[.int .i64 k, .int .i64 n, .string s, .slice An ns.length cn, .slice Ai is.length ci]

set_option maxHeartbeats 4000000 in
theorem nodes_any : ∀ (m : Nat) (v : LV) (left : Nat) (w : World), v.sz < m → v.At w → left ≤ 100 →
    Calls Tryd.prog 31 #[v.val, .int .i64 left] w fun e w' => (∃ n : Nat, e = .returned (.int .i64 n) ∧ 1 ≤ n ∧ n ≤ 1001) ∧ Below w.heap.size w w' := by
  intro m
  induction m with
  | zero => intro v left w hm; omega
  | succ m ih =>
    intro v left w hm hv hl
    obtain ⟨k, n, s, An, ns, cn, Ai, is, ci⟩ := v
    obtain ⟨W, hW⟩ : ∃ W, W = w.alloc (.cells (valBlk k n s An ns cn Ai is ci) 25) := ⟨_, rfl⟩
    have hB0 : Below w.heap.size w W := by rw [hW]; exact (Below.refl _ _).alloc (Nat.le_refl _) _
    have hF : Blk W w.heap.size 25 (valBlk k n s An ns cn Ai is ci) := by rw [hW]; exact Blk.new w _ _
    have hvW := hv.below hB0 _
    have hci : is.length ≤ ci ∧ ci ≤ 9223372036854775807 := by unfold LV.At at hv; exact hv.2.2.2.2.2.2.2.2
    have HW := Lib.hid hW
    clear hW hv
    show Calls Tryd.prog 31 #[.agg (valBlk k n s An ns cn Ai is ci), .int .i64 left] w _
    by_cases h0 : left = 0
    · subst h0
      go_enter Tryd.func31, Tryd.ntmps31
      go_wp2
      rw [← HW.out]
      go_ret
      exact ⟨⟨1001, rfl, by omega, by omega⟩, hB0⟩
    · have h0I : ((left : Int) == 0) = false := by simp; omega
      go_enter Tryd.func31, Tryd.ntmps31
      go_wp2
      rw [← HW.out]
      go_loopw [5, 6] (fun x i wr => ∃ a q : Nat, i = .int .i64 q ∧ x = .int .i64 a ∧ 1 ≤ a ∧ a ≤ 2001 ∧ q ≤ is.length ∧ Below W.heap.size W wr)
        (fun _ i _ => is.length - (RowKit.intOf i).toNat)
      case atStart => exact ⟨1, 0, rfl, rfl, by omega, by omega, Nat.zero_le _, Below.refl _ _⟩
      case round =>
        obtain ⟨a, q, rfl, rfl, ha, ha2, hq, hB⟩ := hrel
        have hFr := hF.below hB hF.lt
        obtain ⟨c3, c4⟩ : wr.cell? ⟨w.heap.size, 3, none⟩ = some (.slice An ns.length cn) ∧ wr.cell? ⟨w.heap.size, 4, none⟩ = some (.slice Ai is.length ci) := ⟨hFr.cell 3, hFr.cell 4⟩
        by_cases hlt : q < is.length ∧ a ≤ 1000
        · obtain ⟨hq1, ha1⟩ := hlt
          have hqI : (q : Int) < (is.length : Int) := by omega
          have haI : (a : Int) ≤ 1000 := by omega
          obtain ⟨b, off, rfl, hb, hit, hcell⟩ := (hvW.below hB _).item hq1
          have HC := Lib.hid (ih is[q] (left - 1) wr (by have := LV.item_size (k := k) (n := n) (s := s) (An := An) (ns := ns) (cn := cn) (Ai := some ⟨b, off, none⟩) (ci := ci) hq1; omega) hit (by omega))
          obtain ⟨x, hx⟩ : ∃ x, is[q] = x := ⟨_, rfl⟩
          rw [hx] at HC hcell
          obtain ⟨k', n', s', An', ns', cn', Ai', is', ci'⟩ := x
          have d0 : wr.cell? ⟨b, off + q * 5, none⟩ = some (.int .i64 k') := hcell 0 _ rfl
          have d1 : wr.cell? ⟨b, off + q * 5 + 1, none⟩ = some (.int .i64 n') := hcell 1 _ rfl
          have d2 : wr.cell? ⟨b, off + q * 5 + 2, none⟩ = some (.string s') := hcell 2 _ rfl
          have d3 : wr.cell? ⟨b, off + q * 5 + 3, none⟩ = some (.slice An' ns'.length cn') := hcell 3 _ rfl
          have d4 : wr.cell? ⟨b, off + q * 5 + 4, none⟩ = some (.slice Ai' is'.length ci') := hcell 4 _ rfl
          have hl1 : (left : Int) - 1 = ((left - 1 : Nat) : Int) := by omega
          generalize left - 1 = left' at *
          clear hcell hx ih
          go_wp2_with fail
          refine HC.out.mono ?_
          rintro e w2 ⟨⟨n2, rfl, g1, g2⟩, hb2⟩
          go_wp2
          go_roundw
          case rel => exact ⟨a + n2, q + 1, by go_num, by go_num, by omega, by omega, by omega, hB.trans (hb2.mono hB.size)⟩
          case measure => simp [RowKit.intOf]; omega
        · have hBF := hB0.trans (hB.mono hB0.size)
          by_cases hq1 : q < is.length
          · have hqI : (q : Int) < (is.length : Int) := by omega
            have haI : ¬ (a : Int) ≤ 1000 := by omega
            go_wp2
            all_goals (go_ret; first | exact ⟨⟨a, rfl, by omega, by omega⟩, hBF⟩ | exact ⟨⟨1001, rfl, by omega, by omega⟩, hBF⟩)
          · have hqI : ¬ (q : Int) < (is.length : Int) := by omega
            go_wp2
            all_goals (go_ret; first | exact ⟨⟨a, rfl, by omega, by omega⟩, hBF⟩ | exact ⟨⟨1001, rfl, by omega, by omega⟩, hBF⟩)

set_option maxHeartbeats 2000000 in
theorem rnodes_any (v : LV) (w : World) (hv : v.At w) : Calls Tryd.prog 21 #[v.val] w fun e w' => (∃ n : Nat, e = .returned (.int .i64 n) ∧ 1 ≤ n ∧ n ≤ 1001) ∧ Below w.heap.size w w' := by
  obtain ⟨k, n, s, An, ns, cn, Ai, is, ci⟩ := v
  obtain ⟨W, hW⟩ : ∃ W, W = w.alloc (.cells (valBlk k n s An ns cn Ai is ci) 25) := ⟨_, rfl⟩
  have hB0 : Below w.heap.size w W := by rw [hW]; exact (Below.refl _ _).alloc (Nat.le_refl _) _
  have HC := Lib.hid (nodes_any _ (.mk k n s An ns cn Ai is ci) 40 W (Nat.lt_succ_self _) (hv.below hB0 _) (by omega))
  have HW := Lib.hid hW
  clear hW hv
  show Calls Tryd.prog 21 #[.agg (valBlk k n s An ns cn Ai is ci)] w _
  go_enter Tryd.func21, Tryd.ntmps21
  go_wp2_with fail
  rw [← HW.out]
  refine HC.out.mono ?_
  rintro e w2 ⟨⟨n2, rfl, g1, g2⟩, hb2⟩
  go_wp2
  go_ret
  exact ⟨⟨n2, rfl, g1, g2⟩, hB0.trans (hb2.mono hB0.size)⟩

/-- It returns a bool. -/
def BoolRes (e : Ending) : Prop := ∃ b : Bool, e = .returned (.bool b)
set_option maxHeartbeats 8000000 in
theorem few_any : ∀ (m : Nat) (v : LV) (w : World), v.sz < m → v.At w →
    Calls Tryd.prog 22 #[v.val] w fun e w' => BoolRes e ∧ Below w.heap.size w w' := by
  intro m
  induction m with
  | zero => intro v w hm; omega
  | succ m ih =>
    intro v w hm hv
    obtain ⟨k, n, s, An, ns, cn, Ai, is, ci⟩ := v
    obtain ⟨W, hW⟩ : ∃ W, W = w.alloc (.cells (valBlk k n s An ns cn Ai is ci) 25) := ⟨_, rfl⟩
    have hB0 : Below w.heap.size w W := by rw [hW]; exact (Below.refl _ _).alloc (Nat.le_refl _) _
    have hF : Blk W w.heap.size 25 (valBlk k n s An ns cn Ai is ci) := by rw [hW]; exact Blk.new w _ _
    have hvW := hv.below hB0 _
    obtain ⟨hnsz, hci⟩ : (ns.length ≤ cn ∧ cn ≤ 9223372036854775807) ∧ is.length ≤ ci ∧ ci ≤ 9223372036854775807 := by unfold LV.At at hv; exact hv.2.2.2.2.2.2.2
    have hnc : Cells W W.heap.size An (ns.map Value.string) := by have := hvW; unfold LV.At at this; exact this.1
    have HC := Lib.hid (rnodes_any _ W hvW)
    have HW := Lib.hid hW
    clear hW hv
    show Calls Tryd.prog 22 #[.agg (valBlk k n s An ns cn Ai is ci)] w _
    go_enter Tryd.func22, Tryd.ntmps22
    go_wp2_with fail
    rw [← HW.out]
    refine HC.out.mono ?_
    clear HC
    rintro e w1 ⟨⟨n2, rfl, g1, g2⟩, hb1⟩
    have hF1 := hF.below hb1 hF.lt
    obtain ⟨c2, c3⟩ : w1.cell? ⟨w.heap.size, 2, none⟩ = some (.string s) ∧ w1.cell? ⟨w.heap.size, 3, none⟩ = some (.slice An ns.length cn) := ⟨hF1.cell 2, hF1.cell 3⟩
    have hBF1 := hB0.trans (hb1.mono hB0.size)
    by_cases q1 : 300 < n2
    · have q1I : (300 : Int) < (n2 : Int) := by omega
      go_wp2
      go_ret
      exact ⟨⟨_, rfl⟩, hBF1⟩
    have q1I : ¬ (300 : Int) < (n2 : Int) := by omega
    by_cases q2 : 100 < ns.length
    · have q2I : (100 : Int) < (ns.length : Int) := by omega
      go_wp2
      go_ret
      exact ⟨⟨_, rfl⟩, hBF1⟩
    have q2I : ¬ (100 : Int) < (ns.length : Int) := by omega
    by_cases q3 : 1000 < s.size
    · have q3I : (1000 : Int) < (s.size : Int) := by omega
      go_wp2
      go_ret
      exact ⟨⟨_, rfl⟩, hBF1⟩
    have q3I : ¬ (1000 : Int) < (s.size : Int) := by omega
    go_wp2
    go_loopw [3] (fun i wr => ∃ q : Nat, i = .int .i64 q ∧ q ≤ ns.length ∧ Below W.heap.size W wr) (fun i _ => ns.length - (RowKit.intOf i).toNat)
    case atStart => exact ⟨0, rfl, Nat.zero_le _, hb1⟩
    case round =>
      obtain ⟨q, rfl, hq, hB⟩ := hrel
      clear c2 c3 hF1 hb1 hBF1
      have hFr := hF.below hB hF.lt
      obtain ⟨c3, c4⟩ : wr.cell? ⟨w.heap.size, 3, none⟩ = some (.slice An ns.length cn) ∧ wr.cell? ⟨w.heap.size, 4, none⟩ = some (.slice Ai is.length ci) := ⟨hFr.cell 3, hFr.cell 4⟩
      by_cases hlt : q < ns.length
      · have hqI : (q : Int) < (ns.length : Int) := by omega
        obtain ⟨b, off, rfl, hb, hcell⟩ := (hnc.below hB) q (.string ns[q]) (by rw [List.getElem?_map, List.getElem?_eq_getElem hlt]; rfl)
        generalize ns[q] = x at *
        by_cases hx : 1000 < x.size
        · have hxI : (1000 : Int) < (x.size : Int) := by omega
          go_wp2
          go_ret
          exact ⟨⟨_, rfl⟩, hB0.trans (hB.mono hB0.size)⟩
        · have hxI : ¬ (1000 : Int) < (x.size : Int) := by omega
          go_wp2
          go_roundw
          case rel => exact ⟨q + 1, by go_num, by omega, hB⟩
          case measure => simp [RowKit.intOf]; omega
      · have hqI : ¬ (q : Int) < (ns.length : Int) := by omega
        go_wp2
        go_loopw [4] (fun i wr => ∃ q : Nat, i = .int .i64 q ∧ q ≤ is.length ∧ Below W.heap.size W wr) (fun i _ => is.length - (RowKit.intOf i).toNat)
        case atStart => exact ⟨0, rfl, Nat.zero_le _, hB⟩
        case round =>
          obtain ⟨q, rfl, hq, hB⟩ := hrel
          clear c3 c4 hFr hqI hlt
          have hFr := hF.below hB hF.lt
          have c4 : wr.cell? ⟨w.heap.size, 4, none⟩ = some (.slice Ai is.length ci) := hFr.cell 4
          by_cases hlt : q < is.length
          · have hqI : (q : Int) < (is.length : Int) := by omega
            obtain ⟨b, off, rfl, hb, hit, hcell⟩ := (hvW.below hB _).item hlt
            have HC := Lib.hid (ih is[q] wr (by have := LV.item_size (k := k) (n := n) (s := s) (An := An) (ns := ns) (cn := cn) (Ai := some ⟨b, off, none⟩) (ci := ci) hlt; omega) hit)
            obtain ⟨x, hx⟩ : ∃ x, is[q] = x := ⟨_, rfl⟩
            rw [hx] at HC hcell
            obtain ⟨k', n', s', An', ns', cn', Ai', is', ci'⟩ := x
            have d0 : wr.cell? ⟨b, off + q * 5, none⟩ = some (.int .i64 k') := hcell 0 _ rfl
            have d1 : wr.cell? ⟨b, off + q * 5 + 1, none⟩ = some (.int .i64 n') := hcell 1 _ rfl
            have d2 : wr.cell? ⟨b, off + q * 5 + 2, none⟩ = some (.string s') := hcell 2 _ rfl
            have d3 : wr.cell? ⟨b, off + q * 5 + 3, none⟩ = some (.slice An' ns'.length cn') := hcell 3 _ rfl
            have d4 : wr.cell? ⟨b, off + q * 5 + 4, none⟩ = some (.slice Ai' is'.length ci') := hcell 4 _ rfl
            clear hcell hx ih
            go_wp2_with fail
            refine HC.out.mono ?_
            rintro e w2 ⟨⟨b2, rfl⟩, hb2⟩
            cases b2 with
            | false =>
              go_wp2
              go_ret
              exact ⟨⟨_, rfl⟩, hB0.trans ((hB.trans (hb2.mono hB.size)).mono hB0.size)⟩
            | true =>
              go_wp2
              go_roundw
              case rel => exact ⟨q + 1, by go_num, by omega, hB.trans (hb2.mono hB.size)⟩
              case measure => simp [RowKit.intOf]; omega
          · have hqI : ¬ (q : Int) < (is.length : Int) := by omega
            go_wp2
            go_ret
            exact ⟨⟨_, rfl⟩, hB0.trans (hB.mono hB0.size)⟩
end Go.Proofs.YtmobolefijneoaaDoor
