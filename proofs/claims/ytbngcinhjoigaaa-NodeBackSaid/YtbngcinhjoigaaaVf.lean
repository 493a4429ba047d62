/-
  A row that was made with room, zeros behind what was appended: append within the room.
-/
import Derived.Test.YtbngcinhjoigaaaVb
import Derived.Deep.RegionLaw
set_option linter.unusedVariables false
namespace Go.Proofs.Ytbngcinhjoigaaa
open Go.RowKit

def zerosL (n : Nat) : List Int := List.replicate n 0
/-- Block g: the bytes l, n of them, and zeros behind, N in all. -/
structure OwnZ (w : World) (base g N n : Nat) (l : List Int) : Prop where
  low : base ≤ g
  len : n = l.length
  fits : n ≤ N
  blk : Blk w g 5 (U8 (l ++ zerosL (N - n))).toArray
theorem OwnZ.keep {w w' : World} {base g N n : Nat} {l : List Int} (h : OwnZ w base g N n l) (hb : Below w.heap.size w w') : OwnZ w' base g N n l := ⟨h.low, h.len, h.fits, h.blk.below hb h.blk.lt⟩
theorem OwnZ.alloc {w : World} {base g N n : Nat} {l : List Int} (h : OwnZ w base g N n l) (o : Obj) : OwnZ (w.alloc o) base g N n l := ⟨h.low, h.len, h.fits, h.blk.alloc o⟩
theorem OwnZ.drew {w : World} {base g N n : Nat} {l : List Int} (h : OwnZ w base g N n l) : OwnZ w.drew base g N n l := ⟨h.low, h.len, h.fits, h.blk⟩
theorem OwnZ.as {w : World} {base g N n : Nat} {l l' : List Int} (h : OwnZ w base g N n l) (e : l = l') : OwnZ w base g N n l' := e ▸ h
theorem OwnZ.new (w : World) (base N : Nat) (h : base ≤ w.heap.size) : OwnZ (w.alloc (.cells (U8 (zerosL N)).toArray 5)) base w.heap.size N 0 [] :=
  ⟨h, rfl, Nat.zero_le _, by rw [List.nil_append, Nat.sub_zero]; exact Blk.new w _ _⟩
theorem OwnZ.below {w w' : World} {base g N n : Nat} {l : List Int} (h : OwnZ w base g N n l) (hg : w.grownBy w' (some g)) (hb : base ≤ w.heap.size) : Below base w w' :=
  (Below.refl _ _).grown hg hb fun k hk => by injection hk with hk; subst hk; exact h.low
/-- Its first bytes, zeros too. -/
theorem OwnZ.cells {w : World} {base g N n : Nat} {l : List Int} (h : OwnZ w base g N n l) : Cells w w.heap.size (some ⟨g, 0, none⟩) (U8 (l ++ zerosL (N - n))) := fun k u hu => by
  refine ⟨g, 0, rfl, h.blk.lt, ?_⟩
  rw [Nat.zero_add, h.blk.cell k]
  simpa using hu

theorem run_appZ {w : World} (ty : TypeId) (base g N n : Nat) (l : List Int) (h : OwnZ w base g N n l) (B : Nat) (A : Option Addr) (c m : Nat) (news : List Int) (hm : m = news.length) (hc : Cells w B A (U8 news)) (hfit : n + m ≤ N) :
    ∃ w', (Builtin.append_ #[26, 26] ty #[.slice (some ⟨g, 0, none⟩) n N, .slice A m c]).run Try.prog w = .ok (.slice (some ⟨g, 0, none⟩) (n + m) N) w' ∧ OwnZ w' base g N (n + m) (l ++ news) ∧ w.grownBy w' (some g) := by
  obtain ⟨i0, hi, hz0, hz1, hz2⟩ := info_parts info8
  subst hm
  rcases A with _ | ad
  · have hn : news = [] := by
      rcases news with _ | ⟨y, ys⟩
      · rfl
      · obtain ⟨b, off, e, _⟩ := hc 0 (.int .u8 y) rfl
        cases e
    subst hn
    have hf := h.fits
    refine ⟨w, ?_, by simpa using h, World.grownBy.refl w _⟩
    simp [Builtin.append_, run_underlying Try.underlying26, sizeOf, typeInfo, hi, Builtin.lenOf, Builtin.firstCells, hf, storeCells]
  · have hnews : ∀ j u, (U8 news)[j]? = some u → w.cell? (ad.add j) = some u := fun j u hu => by
      obtain ⟨b, off, e, _, hcell⟩ := hc j u hu
      injection e with e
      subst e
      rw [add_mk]; exact hcell
    have hlen := h.len
    have hsz : (U8 (l ++ zerosL (N - n))).toArray.size = N := by have := h.fits; simp [zerosL]; omega
    have hr := run_append_room (P := Try.prog) w 26 ty 5 i0 Try.underlying26 hi g n N (U8 (l ++ zerosL (N - n))).toArray h.blk ad news.length c (U8 news) (by rw [hz1]; simp) hnews (one_u8 _) hfit (by rw [hz1, hsz, List.length_map]; omega)
    rw [hz1, Nat.mul_one] at hr
    refine ⟨_, hr, ⟨h.low, by simp [hlen], hfit, ?_⟩, ⟨rfl, rfl, rfl, by simp [World.setRow], fun k _ hk => setRow_other w g k _ (fun e => hk (by rw [e]))⟩⟩
    unfold Blk
    rw [setRow_heap w g _ _ _ _ h.blk]
    congr 3
    subst hlen
    simp only [U8, List.map_append, List.length_map]
    rw [List.take_left' (by simp), List.drop_append, List.drop_eq_nil_of_le (by simp), List.nil_append, List.length_map, Nat.add_sub_cancel_left, List.append_assoc]
    unfold zerosL
    rw [List.map_replicate, List.map_replicate, List.drop_replicate, Nat.sub_sub, List.append_assoc]
theorem wp_appZ {o : Oper} {a : Act} {K : Act → World → Prop} {Q : Exit → Act → World → Prop} {w : World} (s x : Operand)
    (ho : o.op = .call { callee := .builtin .append, args := #[s, x], argTypes := #[26, 26] })
    (base g N n : Nat) (l : List Int) (hs : a.eval s = .slice (some ⟨g, 0, none⟩) n N) (hown : OwnZ w base g N n l)
    (B : Nat) (A : Option Addr) (c m : Nat) (news : List Int) (hx : a.eval x = .slice A m c) (hm : m = news.length) (hc : Cells w B A (U8 news)) (hfit : n + m ≤ N)
    (h : ∀ w', OwnZ w' base g N (n + m) (l ++ news) → w.grownBy w' (some g) → K (a.put o.dst (.slice (some ⟨g, 0, none⟩) (n + m) N)) w') : o.wp Try.prog a w K Q := by
  obtain ⟨w', hrun, h1, h2⟩ := run_appZ o.type base g N n l hown B A c m news hm hc hfit
  unfold Oper.wp execOp
  simp only [ho, resolve, invoke, builtin, Sem.run_bind, Sem.run_pure, Result.andThen_ok, List.map_toArray, List.map_cons, List.map_nil, hs, hx, hrun]
  exact h w' h1 h2
/-- append, in a plain region. -/
theorem appZ_any {ops : Array Oper} {rest : List Oper} {o : Oper} {a : Act} {Q : Exit → Act → World → Prop} {w : World} (hgd : o.guard = none) (s x : Operand)
    (ho : o.op = .call { callee := .builtin .append, args := #[s, x], argTypes := #[26, 26] })
    (base g N n : Nat) (l : List Int) (hs : a.eval s = .slice (some ⟨g, 0, none⟩) n N) (hown : OwnZ w base g N n l)
    (B : Nat) (A : Option Addr) (c m : Nat) (news : List Int) (hx : a.eval x = .slice A m c) (hm : m = news.length) (hc : Cells w B A (U8 news)) (hfit : n + m ≤ N)
    (h : ∀ w', OwnZ w' base g N (n + m) (l ++ news) → w.grownBy w' (some g) → wpList Try.prog ops Q rest (a.put o.dst (.slice (some ⟨g, 0, none⟩) (n + m) N)) w') : wpList Try.prog ops Q (o :: rest) a w :=
  wpList_plain hgd fun _ hK => wp_appZ s x ho base g N n l hs hown B A c m news hx hm hc hfit fun w' h1 h2 => hK _ _ (h w' h1 h2)
/-- append, in a region that draws its order. -/
theorem appZ_step {ops : Array Oper} {o : Oper} {a : Act} {K : Act → World → Prop} {Q : Exit → Act → World → Prop} {E : Prop} {w : World} (hgd : o.guard = none) (s x : Operand)
    (ho : o.op = .call { callee := .builtin .append, args := #[s, x], argTypes := #[26, 26] })
    (base g N n : Nat) (l : List Int) (hs : a.eval s = .slice (some ⟨g, 0, none⟩) n N) (hown : OwnZ w base g N n l)
    (B : Nat) (A : Option Addr) (c m : Nat) (news : List Int) (hx : a.eval x = .slice A m c) (hm : m = news.length) (hc : Cells w B A (U8 news)) (hfit : n + m ≤ N)
    (h : ∀ w', OwnZ w' base g N (n + m) (l ++ news) → w.grownBy w' (some g) → K (a.put o.dst (.slice (some ⟨g, 0, none⟩) (n + m) N)) w') :
    if Region.wanted o (yielded ops a.tmps) = true then Oper.wp Try.prog o a w K Q else E := by
  have hw : Region.wanted o (yielded ops a.tmps) = true := by simp [Region.wanted, hgd]
  rw [if_pos hw]
  exact wp_appZ s x ho base g N n l hs hown B A c m news hx hm hc hfit h

def be32 (x : Int) : List Int := [x / 16777216 % 256, x / 65536 % 256, x / 256 % 256, x % 256]
def be16 (x : Int) : List Int := [x / 256 % 256, x % 256]
theorem be32_len (x : Int) : (be32 x).length = 4 := rfl
theorem be16_len (x : Int) : (be16 x).length = 2 := rfl
theorem be32_oct (x : Int) : Oct (be32 x) := fun y hy => by
  simp only [be32, List.mem_cons, List.not_mem_nil, or_false] at hy
  omega
theorem be16_oct (x : Int) : Oct (be16 x) := fun y hy => by
  simp only [be16, List.mem_cons, List.not_mem_nil, or_false] at hy
  omega
theorem grownBy_trans {a b c : World} {row : Option Nat} (h : a.grownBy b row) (k : b.grownBy c row) : a.grownBy c row :=
  ⟨k.os.trans h.os, k.tape.trans h.tape, k.output.trans h.output, Nat.le_trans h.size k.size, fun i hi hne => (k.block i (Nat.lt_of_lt_of_le hi h.size) hne).trans (h.block i hi hne)⟩

set_option maxHeartbeats 1000000 in
theorem append16_z (base g N n : Nat) (l : List Int) (x : Int) (w : World) (h0 : 0 ≤ x) (h1 : x ≤ 65535) (hown : OwnZ w base g N n l) (hfit : n + 2 ≤ N) :
    Calls Try.prog 26 #[.slice (some ⟨g, 0, none⟩) n N, .int .u16 x] w fun e w' => e = .returned (.slice (some ⟨g, 0, none⟩) (n + 2) N) ∧ OwnZ w' base g N (n + 2) (l ++ be16 x) ∧ w.grownBy w' (some g) := by
  go_enter Try.func26, Try.ntmps26
  go_wp2_with (first | (at_builtin; refine appZ_any rfl (.tmp 5) (.tmp 11) rfl base g N n l rfl (hown.alloc _) _ _ 2 2 [_, _] rfl rfl (cells_new w [_, _]) hfit ?_; intro w1 hown1 hg1))
  go_ret
  exact ⟨rfl, hown1.as (by simp [be16] <;> omega), grownBy_trans (World.grownBy_alloc w _ _) hg1⟩
set_option maxHeartbeats 1000000 in
theorem append32_z (base g N n : Nat) (l : List Int) (x : Int) (w : World) (h0 : 0 ≤ x) (h1 : x ≤ 4294967295) (hown : OwnZ w base g N n l) (hfit : n + 4 ≤ N) :
    Calls Try.prog 27 #[.slice (some ⟨g, 0, none⟩) n N, .int .u32 x] w fun e w' => e = .returned (.slice (some ⟨g, 0, none⟩) (n + 4) N) ∧ OwnZ w' base g N (n + 4) (l ++ be32 x) ∧ w.grownBy w' (some g) := by
  go_enter Try.func27, Try.ntmps27
  go_wp2_with (first | (at_builtin; refine appZ_any rfl (.tmp 5) (.tmp 17) rfl base g N n l rfl (hown.alloc _) _ _ 4 4 [_, _, _, _] rfl rfl (cells_new w [_, _, _, _]) hfit ?_; intro w1 hown1 hg1))
  go_ret
  exact ⟨rfl, hown1.as (by simp [be32] <;> omega), grownBy_trans (World.grownBy_alloc w _ _) hg1⟩
end Go.Proofs.Ytbngcinhjoigaaa
