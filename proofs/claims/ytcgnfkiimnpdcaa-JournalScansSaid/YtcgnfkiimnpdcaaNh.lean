/-
  Numbers of four and of two bytes: the contracts of append32, append16.
-/
import Derived.Test.YtcgnfkiimnpdcaaNb
set_option linter.unusedVariables false
namespace Go.Proofs.Ytcgnfkiimnpdcaa
open Go.RowKit

def be32 (x : Int) : List Int := [x / 16777216 % 256, x / 65536 % 256, x / 256 % 256, x % 256]
def be16 (x : Int) : List Int := [x / 256 % 256, x % 256]
theorem be32_len (x : Int) : (be32 x).length = 4 := rfl
theorem be16_len (x : Int) : (be16 x).length = 2 := rfl
theorem be32_oct (x : Int) : Oct (be32 x) := fun y hy => by
  simp only [be32, List.mem_cons, List.not_mem_nil, or_false] at hy
  omega
theorem be16_oct (x : Int) : Oct (be16 x) := fun y hy => by
  simp only [be16, List.mem_cons, List.not_mem_nil, or_false] at hy
  omega
/-- append of four bytes. -/
theorem app_four {ops : Array Oper} {rest : List Oper} {o : Oper} {a : Act} {Q : Exit → Act → World → Prop} {w : World} (hgd : o.guard = none) (s x : Operand)
    (ho : o.op = .call { callee := .builtin .append, args := #[s, x], argTypes := #[27, 27] })
    (base : Nat) (v : Value) (l : List Int) (y z u t : Int) (hs : a.eval s = v) (hown : Own w base v l) (hx : a.eval x = .slice (some ⟨w.heap.size, 0, none⟩) 4 4)
    (hlen : l.length + 4 ≤ 140737488355328) (hbase : base ≤ w.heap.size)
    (h : ∀ v' w', Own w' base v' (l ++ [y, z, u, t]) → Grew w v w' v' → wpList Try.prog ops Q rest (a.put o.dst v') w') : wpList Try.prog ops Q (o :: rest) a (w.alloc (.cells #[.int .u8 y, .int .u8 z, .int .u8 u, .int .u8 t] 5)) :=
  app_any hgd s x ho base v l hs (hown.alloc _) _ _ 4 [y, z, u, t] hx (cells_new w [y, z, u, t]) (by simpa using hlen) (by simp; omega) fun v' w' h1 h2 => h v' w' h1 (Grew.trans (Grew.alloc _) h2)

set_option maxHeartbeats 1000000 in
theorem append32_any (v : Value) (l : List Int) (x : Int) (w : World) (base : Nat) (h0 : 0 ≤ x) (h1 : x ≤ 4294967295) (hl : l.length ≤ 10000000) (hown : Own w base v l) (hbase : base ≤ w.heap.size) :
    Calls Try.prog 45 #[v, .int .u32 x] w fun e w' => ∃ v', e = .returned v' ∧ Own w' base v' (l ++ be32 x) ∧ Grew w v w' v' := by
  go_enter Try.func45, Try.ntmps45
  go_wp2_with (first | (at_builtin; refine app_four rfl (.tmp 5) (.tmp 17) rfl base _ l _ _ _ _ rfl hown rfl (by omega) hbase ?_; intro v1 w1 hown1 hg1))
  go_ret
  exact ⟨v1, rfl, own_as hown1 (by simp [be32] <;> omega), hg1⟩
set_option maxHeartbeats 1000000 in
theorem append16_any (v : Value) (l : List Int) (x : Int) (w : World) (base : Nat) (h0 : 0 ≤ x) (h1 : x ≤ 65535) (hl : l.length ≤ 10000000) (hown : Own w base v l) (hbase : base ≤ w.heap.size) :
    Calls Try.prog 46 #[v, .int .u16 x] w fun e w' => ∃ v', e = .returned v' ∧ Own w' base v' (l ++ be16 x) ∧ Grew w v w' v' := by
  go_enter Try.func46, Try.ntmps46
  go_wp2_with (first | (at_builtin; refine app_two rfl (.tmp 5) (.tmp 11) rfl base _ l _ _ rfl hown rfl (by omega) hbase ?_; intro v1 w1 hown1 hg1))
  go_ret
  exact ⟨v1, rfl, own_as hown1 (by simp [be16] <;> omega), hg1⟩
end Go.Proofs.Ytcgnfkiimnpdcaa
