/-
  The contract of the disk's Cut.
-/
import Derived.Test.YtkjbicenhncpeaaDd
set_option linter.unusedVariables false
namespace Go.Proofs.Ytkjbicenhncpeaa
open Go.RowKit
open Go.ChangeMaps (setBlock heap_setBlock_same heap_setBlock_other)

/-- Is the write number i kept? -/
def keptAt (keep : List Bool) (i : Nat) : Bool := keep.isEmpty || keep.getD (i % keep.length) false
/-- Those of the first k writes that are kept. -/
def keptW {α : Type} (qs : List α) (keep : List Bool) (k : Nat) : List α := ((qs.take k).zipIdx.filter (fun x => keptAt keep x.2)).map (·.1)
theorem keptW_succ {α : Type} (qs : List α) (keep : List Bool) (k : Nat) (h : k < qs.length) : keptW qs keep (k + 1) = keptW qs keep k ++ if keptAt keep k = true then [qs[k]] else [] := by
  unfold keptW
  rw [take_snoc' qs k h, List.zipIdx_append, List.filter_append, List.map_append]
  congr 1
  have hl : (qs.take k).length = k := by simp; omega
  simp only [hl, Nat.zero_add, List.zipIdx_singleton, List.filter_cons, List.filter_nil]
  split <;> simp

/-- The disk behind a cut. -/
def cutS (s : DS) (keep : List Bool) : DS :=
  ⟨s.size, applyW s.lasts (keptW s.pend keep s.pend.length), applyW s.lasts (keptW s.pend keep s.pend.length), [], -1, false, 0, 0, 0⟩

theorem run_range {P : Program} {T K E : TypeId} (hT : P.underlying T = some (.map K E)) {w : World} {g clk : Nat} {es : Array MapEntry} (hb : w.heap[g]? = some (.map es clk)) :
    (Instr.range T (.map (some g))).run P w = .ok (.pointer (some ⟨w.heap.size, 0, none⟩)) (w.alloc (.mapIter (some g) clk #[] clk)) := by
  simp only [Instr.range, Sem.run_bind, run_underlying hT, Result.andThen_ok, run_getObj hb, Sem.run_pure, newObj]
  rfl

/-- How many entries an iterator has gone over. -/
def seenOf (w : World) (r : Nat) : Nat := match w.heap[r]? with | some (.mapIter _ _ seen _) => seen.size | _ => 0

/-- What is stored at both of two maps. -/
structure TwoMaps (w : World) (go gn gl : Nat) (f : Int → Option Value) (cs : Array Value) : Prop where
  blk : Blk w go 65 cs
  now : MapIs w gn f
  lasts : MapIs w gl f

theorem zeroE' : ∀ w : World, (zeroValue 37).run Try.prog w = .ok (.slice none 0 0) w := zeroE

/-- Both maps get one entry more: the four operations, in their one order. -/
theorem TwoMaps.put {w : World} {go gn gl : Nat} {f : Int → Option Value} {cs : Array Value} (h : TwoMaps w go gn gl f cs) (hne : gn ≠ gl) (k : Int) (v : Value) :
    ∃ u1 b1 w1 w2 u2 b2 w3 w4,
      (Instr.mapEntry 56 (.map (some gl)) (.int .i64 k)).run Try.prog w = .ok (.tuple #[u1, .int .i64 b1]) w1 ∧
      (Instr.entryStore 56 (.map (some gl)) (.int .i64 (b1 : Int)) v).run Try.prog w1 = .ok () w2 ∧
      (Instr.mapEntry 56 (.map (some gn)) (.int .i64 k)).run Try.prog w2 = .ok (.tuple #[u2, .int .i64 b2]) w3 ∧
      (Instr.entryStore 56 (.map (some gn)) (.int .i64 (b2 : Int)) v).run Try.prog w3 = .ok () w4 ∧
      w.grownBy w1 (some gl) ∧ w.grownBy w2 (some gl) ∧ Chg w w3 (fun i => i = gl ∨ i = gn) ∧ Chg w w4 (fun i => i = gl ∨ i = gn) ∧ TwoMaps w4 go gn gl (updM f k v) cs ∧ w4.heap.size = w.heap.size := by
  obtain ⟨u1, b1, w1, e1, g1, s1, w2, e2, m2, g2, s2⟩ := h.lasts.entry (P := Try.prog) (T := 56) (K := 3) (E := 37) Try.underlying56 Try.underlying3 zeroE' k v
  have n1 : go ≠ gl := fun x => by
    have := h.blk
    unfold Blk at this
    rw [x] at this
    exact h.lasts.notCells this
  have n2 : go ≠ gn := fun x => by
    have := h.blk
    unfold Blk at this
    rw [x] at this
    exact h.now.notCells this
  have hn2 : MapIs w2 gn f := h.now.block (g2.block gn h.now.lt (fun e => hne (by injection e)))
  obtain ⟨u2, b2, w3, e3, g3, s3, w4, e4, m4, g4, s4⟩ := hn2.entry (P := Try.prog) (T := 56) (K := 3) (E := 37) Try.underlying56 Try.underlying3 zeroE' k v
  have c2 : Chg w w2 (fun i => i = gl ∨ i = gn) := (Chg.grown g2).mono fun i _ hi => .inl (by injection hi with hi; exact hi.symm)
  refine ⟨u1, b1, w1, w2, u2, b2, w3, w4, e1, e2, e3, e4, g1, g2, c2.trans (Chg.grown g3) (fun i hi => .inl (.inr (by injection hi with hi; exact hi.symm))), c2.trans (Chg.grown g4) (fun i hi => .inl (.inr (by injection hi with hi; exact hi.symm))), ⟨?_, m4, ?_⟩, by omega⟩
  · exact (h.blk.grown g2 (fun e => n1 (by injection e))).grown g4 (fun e => n2 (by injection e))
  · exact m2.block (g4.block gl (by have := h.lasts.lt; omega) (fun e => hne (by injection e with e; exact e.symm)))

/-- A list of entries all of which another one holds, key by key. -/
theorem look_sub {L S : List Ent} (hL : (L.map (·.1)).Nodup) (hS : (S.map (·.1)).Nodup) (h1 : ∀ e ∈ S, e ∈ L) (h2 : ∀ e ∈ L, e ∈ S) (k : Int) : look S k = look L k := by
  have find : ∀ (M : List Ent), (M.map (·.1)).Nodup → ∀ e ∈ M, look M e.1 = some e.2.1 := fun M hM e he => by
    induction M with
    | nil => cases he
    | cons x r ih =>
      simp only [List.map_cons, List.nodup_cons] at hM
      rcases List.mem_cons.1 he with rfl | he
      · simp [look]
      · have : ¬ x.1 = e.1 := fun y => hM.1 (by rw [y]; exact List.mem_map_of_mem he)
        rw [look, if_neg this, ih hM.2 he]
  by_cases hk : k ∈ L.map (·.1)
  · obtain ⟨e, he, rfl⟩ := List.mem_map.1 hk
    rw [find L hL e he, find S hS e (h2 e he)]
  · rw [look_none hk, look_none]
    intro hx
    obtain ⟨e, he, rfl⟩ := List.mem_map.1 hx
    exact hk (List.mem_map_of_mem (h1 e he))

theorem MapIs.ext {w : World} {g : Nat} {f f' : Int → Option Value} (h : MapIs w g f) (e : ∀ k, f' k = f k) : MapIs w g f' := by
  obtain ⟨L, clk, hb, ht, hf⟩ := h
  exact ⟨L, clk, hb, ht, fun k => (e k).trans (hf k)⟩
theorem left_mem {L S : List Ent} {seen : Array Nat} (hseen : seen.toList = S.map (·.2.2)) {e : MapEntry} (he : e ∈ (leftOf (ents L) seen).toList) : ∃ x ∈ L, e = mkE x ∧ x.2.2 ∉ S.map (·.2.2) := by
  unfold leftOf at he
  simp only [Array.toList_filter, List.mem_filter, ents] at he
  obtain ⟨h1, h2⟩ := he
  obtain ⟨x, hx, rfl⟩ := List.mem_map.1 h1
  refine ⟨x, hx, rfl, fun hm => ?_⟩
  rw [← hseen] at hm
  simp [mkE] at h2
  exact h2 (by simpa using hm)
theorem nodup_inj {α β : Type} {f : α → β} {L : List α} (h : (L.map f).Nodup) {a b : α} (ha : a ∈ L) (hb : b ∈ L) (e : f a = f b) : a = b := by
  induction L with
  | nil => cases ha
  | cons x r ih =>
    simp only [List.map_cons, List.nodup_cons] at h
    rcases List.mem_cons.1 ha with h1 | h1
    · rcases List.mem_cons.1 hb with h2 | h2
      · rw [h1, h2]
      · refine absurd ?_ h.1
        rw [← h1, e]
        exact List.mem_map_of_mem h2
    · rcases List.mem_cons.1 hb with h2 | h2
      · refine absurd ?_ h.1
        rw [← h2, ← e]
        exact List.mem_map_of_mem h1
      · exact ih h.2 h1 h2
theorem left_none {L S : List Ent} {seen : Array Nat} (hseen : seen.toList = S.map (·.2.2)) (hz : (leftOf (ents L) seen).size = 0) (hb : (L.map (·.2.2)).Nodup) (hsub : ∀ e ∈ S, e ∈ L) : ∀ e ∈ L, e ∈ S := fun e he => by
  unfold leftOf at hz
  rw [Array.size_eq_zero_iff, Array.filter_eq_empty_iff] at hz
  have h1 := hz (mkE e) (by simp only [ents]; exact List.mem_toArray.2 (List.mem_map_of_mem he))
  have h2 : e.2.2 ∈ seen.toList := by
    simp [mkE] at h1
    simpa using h1
  rw [hseen] at h2
  obtain ⟨x, hx, hxe⟩ := List.mem_map.1 h2
  have : x = e := by
    exact nodup_inj hb (hsub x hx) he hxe
  exact this ▸ hx

theorem nodup_len : ∀ (A B : List Int), A.Nodup → (∀ x ∈ A, x ∈ B) → A.length ≤ B.length
  | [], B, _, _ => Nat.zero_le _
  | x :: r, B, h, hs => by
    rw [List.nodup_cons] at h
    have h1 := nodup_len r (B.erase x) h.2 (fun y hy => (List.mem_erase_of_ne (fun (e : y = x) => h.1 (by rw [← e]; exact hy))).2 (hs y (by simp [hy])))
    have h2 := List.length_erase_of_mem (hs x (by simp))
    have h3 : 0 < B.length := List.length_pos_of_mem (hs x (by simp))
    simp only [List.length_cons]
    omega
theorem key_new {L S : List Ent} (hL : (L.map (·.1)).Nodup) (hsub : ∀ e ∈ S, e ∈ L) {x : Ent} (hx : x ∈ L) (hS : x.2.2 ∉ S.map (·.2.2)) : x.1 ∉ S.map (·.1) := fun h => by
  obtain ⟨y, hy, e⟩ := List.mem_map.1 h
  have := nodup_inj hL (hsub y hy) hx e
  subst this
  exact hS (List.mem_map_of_mem hy)
theorem key_push {S : List Ent} (h : (S.map (·.1)).Nodup) {x : Ent} (hx : x.1 ∉ S.map (·.1)) : ((S ++ [x]).map (·.1)).Nodup := by
  rw [List.map_append, List.nodup_append]
  refine ⟨h, by simp, fun a ha b hb => ?_⟩
  simp at hb
  subst hb
  exact fun e => hx (e ▸ ha)
theorem seen_at {w : World} {r : Nat} {m : Option Nat} {a c : Nat} {seen : Array Nat} (h : w.heap[r]? = some (.mapIter m a seen c)) : seenOf w r = seen.size := by
  unfold seenOf; rw [h]

/-- The values behind a cut. -/
def foldM (f : Int → Option Value) (ps : List (Int × Value)) : Int → Option Value := ps.foldl (fun f q => updM f q.1 q.2) f
theorem foldM_snoc (f : Int → Option Value) (ps : List (Int × Value)) (q : Int × Value) : foldM f (ps ++ [q]) = updM (foldM f ps) q.1 q.2 := by simp [foldM, List.foldl_append]
theorem Holds.fold {w : World} {ps : List (Int × Value)} {qs : List (Int × List Int)} (hP : Pend w ps qs) {f : Int → Option Value} {c : Int → Option (List Int)} (h : Holds w f c) : Holds w (foldM f ps) (applyW c qs) := by
  induction ps generalizing qs f c with
  | nil =>
    cases qs with
    | nil => exact h
    | cons q s => exact hP.elim
  | cons p r ih =>
    cases qs with
    | nil => exact hP.elim
    | cons q s =>
      have h1 := h.put (k := p.1) hP.2.1
      have h2 := ih hP.2.2 h1
      rw [hP.1] at h2
      show Holds w (foldM (updM f p.1 p.2) r) (applyW (updC c q.1 q.2) s)
      rw [hP.1]
      exact h2
theorem Pend.kept {w : World} (keep : List Bool) {ps : List (Int × Value)} {qs : List (Int × List Int)} (hP : Pend w ps qs) : ∀ k, k ≤ ps.length → Pend w (keptW ps keep k) (keptW qs keep k)
  | 0, _ => by simp [keptW, Pend]
  | k + 1, hk => by
    have hl := hP.len
    have ih := Pend.kept keep hP k (by omega)
    rw [keptW_succ ps keep k (by omega), keptW_succ qs keep k (by omega)]
    by_cases h : keptAt keep k = true
    · rw [if_pos h, if_pos h]
      obtain ⟨h1, h2⟩ := hP.at_ k (by omega) (by omega)
      have := Pend.snoc (n := (ps[k]'(by omega)).1) h2 ih
      have e : (qs[k]'(by omega)) = ((ps[k]'(by omega)).1, (qs[k]'(by omega)).2) := by rw [h1]
      rw [e]
      exact this
    · rw [if_neg h, if_neg h, List.append_nil, List.append_nil]
      exact ih

/-- What Cut answers. -/
def CutD (s : DS) (keep : List Bool) (w : World) (e : Ending) (w' : World) : Prop :=
  ∃ g' F', e = .returned (.pointer (some ⟨g', 0, none⟩)) ∧ DiskAt w' g' (cutS s keep) F' ∧ (∀ k, F' k → w.heap.size ≤ k) ∧ Below w.heap.size w w'

theorem iter_kept {w w' : World} {r : Nat} {o : Obj} {S : Nat → Prop} (h : w.heap[r]? = some o) (hc : Chg w w' S) (hr : ¬ S r) : w'.heap[r]? = some o := by
  refine (hc.block r ?_ hr).trans h
  rcases Nat.lt_or_ge r w.heap.size with x | x
  · exact x
  · rw [Array.getElem?_eq_none x] at h; cases h

end Go.Proofs.Ytkjbicenhncpeaa
