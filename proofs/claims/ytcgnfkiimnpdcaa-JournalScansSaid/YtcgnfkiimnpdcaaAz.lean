/-
  append(s, make([]byte, m)...): zeros onto a row that the call owns.
-/
import Derived.Test.YtcgnfkiimnpdcaaKb
import Derived.Laws.AppendOwn
set_option linter.unusedVariables false
namespace Go.Proofs.Ytcgnfkiimnpdcaa
open Go.RowKit

def zer (m : Nat) : List Int := List.replicate m 0
theorem zer_len (m : Nat) : (zer m).length = m := by simp [zer]
theorem zer_oct (m : Nat) : Oct (zer m) := fun x hx => by have := List.eq_of_mem_replicate hx; omega
theorem zeroCells_u8 (m : Nat) : Builtin.zeroCells #[.int .u8 0] m = (U8 (zer m)).toArray := by
  apply Array.ext'
  simp [Builtin.zeroCells, zer, U8, List.map_replicate, List.eq_replicate_iff]
  intro a _
  rw [Nat.mod_one]
  rfl
theorem run_app_zeros {w : World} (ty : TypeId) (base : Nat) (v : Value) (l : List Int) (hown : Own w base v l) (h0 : 0 < l.length) (m : Nat) (hlen : l.length + m ≤ 100000000) (hbase : base ≤ w.heap.size) :
    ∃ v' w', (Builtin.append_ #[27, 3] ty #[v, .int .i64 m]).run Try.prog w = .ok v' w' ∧ Own w' base v' (l ++ zer m) ∧ Grew w v w' v' := by
  obtain ⟨i, hi, hz, hs, hb⟩ := info_parts info8
  have hzc : (Value.int .u8 0).cells = #[.int .u8 0] := rfl
  have hwm : IntKind.i64.wrap (m : Int) = (m : Int) := by rw [IntKind.wrap_i64]; omega
  have hneg : ¬ ((m : Int) < 0) := by omega
  have hbig : ¬ (281474976710656 < (m : Int)) := by omega
  have hone : ∀ u ∈ U8 (zer m), u.oneCell' = true := one_u8 _
  have happ : U8 (l ++ zer m) = U8 l ++ U8 (zer m) := List.map_append
  have hll : (U8 l).length = l.length := by simp
  have hzl : (U8 (zer m)).length = m := by simp [zer_len]
  rcases hown.2 with ⟨_, hx⟩ | ⟨g, cap, cur, rfl, hbg, hg, hnc, hcm, hcs, htake⟩
  · omega
  · rw [Nat.mul_one] at hcs htake
    have holds : ∀ j u, (U8 l)[j]? = some u → w.cell? ((⟨g, 0, none⟩ : Addr).add j) = some u := World.ownsRow.cells hown (g := g) rfl
    by_cases hm : m = 0
    · subst hm
      refine ⟨_, w, ?_, by simpa [zer] using hown, Grew.refl _ _⟩
      have hw0 : IntKind.i64.wrap 0 = 0 := by rw [IntKind.wrap_i64]; rfl
      simp [Builtin.append_, run_underlying Try.underlying27, run_underlying Try.underlying3, sizeOf, typeInfo, hi, hb, hw0, asInt, asIntOf, hnc, storeCells]
    · by_cases hroom : l.length + m ≤ cap
      · have hst := run_storeCells_at Try.prog g l.length 5 (U8 (zer m)) 0 cur w hg (by rw [hcs, hzl]; omega) hone
        simp only [Nat.add_zero] at hst
        refine ⟨_, _, by
          simp [Builtin.append_, run_underlying Try.underlying27, run_underlying Try.underlying3, sizeOf, typeInfo, zeroValue, hi, hz, hzc, hb, hs, hwm, hneg, hbig, hm, asInt, asIntOf, hroom, zeroCells_u8, Addr.add_lit, hst]
          exact ⟨rfl, rfl⟩, ?_, ?_⟩
        · unfold Own
          rw [List.length_append, zer_len, happ]
          refine ⟨by simp [zer_len], .inr ⟨g, cap, _, rfl, hbg, setRow_heap w g cur _ 5 _ hg, hroom, hcm, ?_, ?_⟩⟩
          · simp only [List.size_toArray, List.length_append, List.length_take, List.length_drop, Array.length_toList, hzl]
            omega
          · rw [htake, Nat.mul_one, show l.length + m = (U8 l ++ U8 (zer m)).length by simp [zer_len], ← List.append_assoc]
            exact List.take_left
        · exact ⟨⟨rfl, rfl, rfl, by simp, fun k _ hk => setRow_other w g k _ (fun e => hk (by simp [Value.ownBlock, e]))⟩, .inl rfl⟩
      · have hn : ¬ (l.length + m ≤ cap) := hroom
        have h63' : ¬ (9223372036854775807 < ((l.length : Int) + (m : Int))) := by omega
        have hfit := growslice_fits (need := l.length + m) (old := cap) (bytes := 1) (by omega) (by omega)
        have h48' : ¬ (281474976710656 < Builtin.nextslicecap (l.length + m) cap) := by omega
        have hfo := run_firstCells_some (P := Try.prog) w.drew 1 l.length ⟨g, 0, none⟩ l.length cap (U8 l) (by simp) (by simpa using holds)
        refine ⟨.slice (some ⟨w.heap.size, 0, none⟩) (l.length + m) (grownCap w (l.length + m) cap 5), w.drew.alloc (.cells ((U8 l).toArray ++ (U8 (zer m)).toArray ++ Builtin.zeroCells #[.int .u8 0] (grownCap w (l.length + m) cap 5 - (l.length + m))) 5), ?_, ?_, ?_⟩
        · have hm0 : ¬ ((m : Int) ≤ 0) := by omega
          simp [Builtin.append_, run_underlying Try.underlying27, run_underlying Try.underlying3, sizeOf, typeInfo, zeroValue, hi, hz, hzc, hb, hs, hwm, hneg, hbig, hm, asInt, asIntOf, hn, h63', h48', Question.forced, hfo, zeroCells_u8, newRow, grownCap]
        · unfold Own
          rw [List.length_append, zer_len, happ]
          have hge := grownCap_ge w (l.length + m) cap 5
          refine ⟨by simp [zer_len], .inr ⟨w.heap.size, _, _, rfl, hbase, heap_alloc_new w.drew _, hge, grownCap_le_maxLen w _ cap 5 (by unfold maxLen; omega), ?_, ?_⟩⟩
          · simp only [Array.size_append, List.size_toArray, size_zeroCells, hll, hzl]
            simp
            omega
          · simp only [Array.toList_append, List.append_assoc]
            rw [← List.append_assoc, Nat.mul_one, show l.length + m = (U8 l ++ U8 (zer m)).length by simp [zer_len]]
            exact List.take_left
        · exact ⟨⟨rfl, rfl, rfl, by simp, fun k hk _ => Below.heap_alloc w.drew _ k hk⟩, .inr fun g' hg' => Nat.le_of_eq (Option.some.inj hg')⟩

/-- The same, in a plain region. -/
theorem app_zeros {ops : Array Oper} {rest : List Oper} {o : Oper} {a : Act} {Q : Exit → Act → World → Prop} {w : World} (hgd : o.guard = none) (s x : Operand)
    (ho : o.op = .call { callee := .builtin .append, args := #[s, x], argTypes := #[27, 3] })
    (base : Nat) (v : Value) (l : List Int) (hs : a.eval s = v) (hown : Own w base v l) (h0 : 0 < l.length) (m : Nat) (hx : a.eval x = .int .i64 m)
    (hlen : l.length + m ≤ 100000000) (hbase : base ≤ w.heap.size)
    (h : ∀ v' w', Own w' base v' (l ++ zer m) → Grew w v w' v' → wpList Try.prog ops Q rest (a.put o.dst v') w') : wpList Try.prog ops Q (o :: rest) a w := by
  refine wpList_plain hgd fun _ hK => ?_
  obtain ⟨v', w', hrun, h1, h2⟩ := run_app_zeros o.type base v l hown h0 m hlen hbase
  unfold Oper.wp execOp
  simp only [ho, resolve, invoke, builtin, Sem.run_bind, Sem.run_pure, Result.andThen_ok, List.map_toArray, List.map_cons, List.map_nil, hs, hx, hrun]
  exact hK _ _ (h v' w' h1 h2)
end Go.Proofs.Ytcgnfkiimnpdcaa
