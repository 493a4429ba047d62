/-
  Pages read back: plain words, and the law that a page reads as its node.
-/
import Derived.Test.YtbngcinhjoigaaaVj
set_option linter.unusedVariables false
namespace Go.Proofs.Ytbngcinhjoigaaa
open Go.RowKit

/-- A number's bytes, the greatest first. -/
def bigN (l : List Int) : Int := l.foldl (fun x d => x * 256 + d) 0
theorem bigN_snoc (l : List Int) (d : Int) : bigN (l ++ [d]) = bigN l * 256 + d := by simp [bigN, List.foldl_append]
theorem bigN_nil : bigN [] = 0 := rfl
theorem fold_bound : ∀ (l : List Int) (x : Int), 0 ≤ x → Oct l → 0 ≤ l.foldl (fun x d => x * 256 + d) x ∧ l.foldl (fun x d => x * 256 + d) x + 1 ≤ (x + 1) * 256 ^ l.length
  | [], x, h0, _ => by simp; exact h0
  | d :: l, x, h0, h => by
    obtain ⟨d0, d1⟩ := h d (by simp)
    obtain ⟨h1, h2⟩ := fold_bound l (x * 256 + d) (by omega) fun y hy => h y (by simp [hy])
    refine ⟨h1, Int.le_trans h2 ?_⟩
    rw [List.length_cons, Int.pow_succ, Int.mul_comm (256 ^ l.length) 256, ← Int.mul_assoc]
    exact Int.mul_le_mul_of_nonneg_right (by omega) (Int.pow_nonneg (by decide))
theorem bigN_bound {l : List Int} (h : Oct l) : 0 ≤ bigN l ∧ bigN l < 256 ^ l.length := by
  obtain ⟨h1, h2⟩ := fold_bound l 0 (by decide) h
  unfold bigN
  omega
theorem bigN_one (x : Int) : bigN [x] = x := by simp [bigN]
theorem bigN_be16 {x : Int} (h0 : 0 ≤ x) (h1 : x ≤ 65535) : bigN (be16 x) = x := by simp [bigN, be16]; omega
theorem bigN_be32 {x : Int} (h0 : 0 ≤ x) (h1 : x ≤ 4294967295) : bigN (be32 x) = x := by simp [bigN, be32]; omega

/-- A number taken off the front; 0 where there aren't so many bytes. -/
def num (l : List Int) (n : Nat) : Int := if l.length < n then 0 else bigN (l.take n)
def off (l : List Int) (n : Nat) : List Int := if l.length < n then l else l.drop n
theorem num_app (a r : List Int) {n : Nat} (h : n = a.length) : num (a ++ r) n = bigN a := by
  subst h; unfold num; rw [if_neg (by simp), List.take_left]
theorem off_app (a r : List Int) {n : Nat} (h : n = a.length) : off (a ++ r) n = r := by
  subst h; unfold off; rw [if_neg (by simp), List.drop_left]

/-- The entries, so many, of the bytes r; none: there aren't so many bytes. -/
def parseN (lf : Bool) : Nat → List Int → List (List Int) → List (List Int) → List Int → Option (List (List Int) × List (List Int) × List Int)
  | 0, _, ks, vs, is => some (ks, vs, is)
  | n + 1, r, ks, vs, is =>
    let size := (num r 1).toNat
    let r1 := off r 1
    let more := if lf = true then (num r1 2).toNat else 0
    let r2 := if lf = true then off r1 2 else r1
    let r3 := off r2 size
    let r4 := off r3 more
    if r2.length < size ∨ r3.length < more then none
    else if lf = true then parseN lf n r4 (ks ++ [r2.take size]) (vs ++ [r3.take more]) is
    else parseN lf n (off r4 4) (ks ++ [r2.take size]) vs (is ++ [num r4 4])
theorem parseN_leaf (n : Nat) (r : List Int) (ks vs : List (List Int)) (is : List Int) :
    parseN true (n + 1) r ks vs is = (if (off (off r 1) 2).length < (num r 1).toNat ∨ (off (off (off r 1) 2) (num r 1).toNat).length < (num (off r 1) 2).toNat then none else
      parseN true n (off (off (off (off r 1) 2) (num r 1).toNat) (num (off r 1) 2).toNat) (ks ++ [(off (off r 1) 2).take (num r 1).toNat]) (vs ++ [(off (off (off r 1) 2) (num r 1).toNat).take (num (off r 1) 2).toNat]) is) := by
  simp [parseN]
theorem off_zero (r : List Int) : off r 0 = r := by simp [off]
theorem parseN_inner (n : Nat) (r : List Int) (ks vs : List (List Int)) (is : List Int) :
    parseN false (n + 1) r ks vs is = (if (off r 1).length < (num r 1).toNat then none else
      parseN false n (off (off (off r 1) (num r 1).toNat) 4) (ks ++ [(off r 1).take (num r 1).toNat]) vs (is ++ [num (off (off r 1) (num r 1).toNat) 4])) := by
  simp [parseN, off_zero]
/-- What all bytes are read as, ahead of the question whether they are its page. -/
def parseP (l : List Int) : Option (Bool × List (List Int) × List (List Int) × List Int) :=
  let lf := decide (num l 1 = 1)
  let r := off (off l 1) 2
  (parseN lf (num (off l 1) 2).toNat (if lf = true then r else off r 4) [] [] (if lf = true then [] else [num r 4])).map fun x => (lf, x)

theorem sub_wr (lf : Bool) (ks vs : List (List Int)) (is : List Int) {a b : Nat} (h : a ≤ b) : ∃ t, wrTo lf ks vs is b = wrTo lf ks vs is a ++ t := by
  induction b with
  | zero => obtain rfl : a = 0 := by omega
            exact ⟨[], by simp⟩
  | succ b ih =>
    rcases Nat.lt_or_ge a (b + 1) with h1 | h1
    · obtain ⟨t, ht⟩ := ih (by omega)
      exact ⟨t ++ entL lf ks vs is b, by rw [wrTo, ht, List.append_assoc]⟩
    · obtain rfl : a = b + 1 := by omega
      exact ⟨[], by simp⟩
theorem rest_ent {lf : Bool} {ks vs : List (List Int)} {is : List Int} {N k : Nat} {z r : List Int} (hk : k < N) (h : wrTo lf ks vs is N ++ z = wrTo lf ks vs is k ++ r) : ∃ t, r = entL lf ks vs is k ++ t ∧ wrTo lf ks vs is N ++ z = wrTo lf ks vs is (k + 1) ++ t := by
  obtain ⟨t, ht⟩ := sub_wr lf ks vs is (show k + 1 ≤ N by omega)
  rw [ht, wrTo, List.append_assoc, List.append_assoc, List.append_cancel_left_eq] at h
  exact ⟨t ++ z, h.symm, by rw [ht, List.append_assoc]⟩

theorem parse_leaf {ks vs : List (List Int)} {is : List Int} {z : List Int} (hk : ∀ i, i < ks.length → (ks.getD i []).length ≤ 240) (hv : ∀ i, i < ks.length → (vs.getD i []).length ≤ 260) (hl : vs.length = ks.length) :
    ∀ (n k : Nat) (r : List Int), k + n = ks.length → wrTo true ks vs is ks.length ++ z = wrTo true ks vs is k ++ r → parseN true n r (ks.take k) (vs.take k) [] = some (ks, vs, [])
  | 0, k, r, e, _ => by
    obtain rfl : k = ks.length := by omega
    rw [parseN, List.take_length, ← hl, List.take_length]
  | n + 1, k, r, e, h => by
    obtain ⟨t, rfl, ht⟩ := rest_ent (show k < ks.length by omega) h
    have ih := parse_leaf hk hv hl n (k + 1) t (by omega) ht
    have a1 := hk k (by omega)
    have a2 := hv k (by omega)
    have e1 : entL true ks vs is k ++ t = [((ks.getD k []).length : Int)] ++ (be16 ((vs.getD k []).length : Int) ++ (ks.getD k [] ++ (vs.getD k [] ++ t))) := by simp [entL]
    rw [e1, parseN_leaf, num_app _ _ (by simp), off_app _ _ (by simp), num_app _ _ (by simp [be16_len]), off_app _ _ (by simp [be16_len]), bigN_one, bigN_be16 (by omega) (by omega), Int.toNat_natCast, Int.toNat_natCast,
      off_app _ _ rfl, off_app _ _ rfl, List.take_left, List.take_left, if_neg (by simp)]
    have b1 : k < ks.length := by omega
    have b2 : k < vs.length := by omega
    rw [take_snoc ks k b1, take_snoc vs k b2] at ih
    rw [getD_at b1, getD_at b2]
    exact ih
theorem parse_inner {ks vs : List (List Int)} {is : List Int} {z : List Int} (hk : ∀ i, i < ks.length → (ks.getD i []).length ≤ 240) (hi : KidsOK is) (hl : is.length = ks.length + 1) :
    ∀ (n k : Nat) (r : List Int), k + n = ks.length → wrTo false ks vs is ks.length ++ z = wrTo false ks vs is k ++ r → parseN false n r (ks.take k) [] (is.take (k + 1)) = some (ks, [], is)
  | 0, k, r, e, _ => by
    obtain rfl : k = ks.length := by omega
    rw [parseN, List.take_length, ← hl, List.take_length]
  | n + 1, k, r, e, h => by
    obtain ⟨t, rfl, ht⟩ := rest_ent (show k < ks.length by omega) h
    have ih := parse_inner hk hi hl n (k + 1) t (by omega) ht
    have a1 := hk k (by omega)
    have b1 : k < ks.length := by omega
    have b2 : k + 1 < is.length := by omega
    have a2 := hi.at_ b2
    have e2 : is.getD (k + 1) 0 = is[k + 1] := by rw [List.getD_eq_getElem?_getD, List.getElem?_eq_getElem b2]; rfl
    have e1 : entL false ks vs is k ++ t = [((ks.getD k []).length : Int)] ++ (ks.getD k [] ++ (be32 is[k + 1] ++ t)) := by rw [entL, e2]; simp
    rw [e1, parseN_inner, num_app _ _ (by simp), off_app _ _ (by simp), bigN_one, Int.toNat_natCast, off_app _ _ rfl, num_app _ _ (by simp [be32_len]), off_app _ _ (by simp [be32_len]), bigN_be32 (by omega) (by omega),
      List.take_left, if_neg (by simp)]
    rw [take_snoc ks k b1, take_snoc is (k + 1) b2] at ih
    rw [getD_at b1]
    exact ih
theorem keysOK_le {ks : List (List Int)} (h : KeysOK ks) : ∀ i, i < ks.length → (ks.getD i []).length ≤ 240 := fun i hi => (h i hi).2.1
theorem few_keys (lf : Bool) (ks vs : List (List Int)) : ∀ k, k ≤ sizeTo lf ks vs k
  | 0 => Nat.zero_le _
  | k + 1 => by
    have := few_keys lf ks vs k
    rw [sizeTo]
    have h : 1 ≤ entN lf ks vs k := by cases lf <;> simp [entN] <;> omega
    omega
/-- A page reads as its node. -/
theorem parse_page {lf : Bool} {ks vs : List (List Int)} {is : List Int} (h : frmB lf ks vs is = true) : parseP (pageL lf ks vs is) = some (lf, ks, vs, is) := by
  unfold frmB at h
  rw [Bool.and_eq_true] at h
  have hsz : sizeTo lf ks vs ks.length ≤ 1024 := of_decide_eq_true h.2
  have hfew := few_keys lf ks vs ks.length
  obtain ⟨hK, hV, hI, hL⟩ : ShapedP lf ks vs is := of_decide_eq_true h.1
  unfold pageL
  generalize hz : zerosL (1024 - sizeTo lf ks vs ks.length) = z
  obtain ⟨t, ht⟩ := sub_wr lf ks vs is (Nat.zero_le ks.length)
  cases lf with
  | true =>
    rw [if_pos rfl] at hL
    obtain ⟨hl, h0⟩ := hL
    obtain rfl : is = [] := List.eq_nil_of_length_eq_zero h0
    have hv : ∀ i, i < ks.length → (vs.getD i []).length ≤ 260 := fun i hi => by rw [getD_at (by omega)]; exact hV _ (List.getElem_mem (by omega))
    have ih := parse_leaf (z := z) (is := []) (keysOK_le hK) hv hl ks.length 0 (t ++ z) (by omega) (by rw [ht, List.append_assoc])
    have e1 : wrTo true ks vs [] ks.length ++ z = [(1 : Int)] ++ (be16 (ks.length : Int) ++ (t ++ z)) := by rw [ht]; simp [wrTo, headL]
    rw [e1]
    unfold parseP
    simp only [num_app [(1:Int)] _ (n := 1) rfl, off_app [(1:Int)] _ (n := 1) rfl, num_app (be16 _) _ (n := 2) rfl, off_app (be16 _) _ (n := 2) rfl, bigN_one, bigN_be16 (x := ks.length) (by omega) (by omega), Int.toNat_natCast, decide_true, if_true]
    simp only [List.take_zero] at ih
    rw [ih]
    rfl
  | false =>
    rw [if_neg (by decide)] at hL
    obtain ⟨h0, hl⟩ := hL
    obtain rfl : vs = [] := List.eq_nil_of_length_eq_zero h0
    have ih := parse_inner (vs := []) (z := z) (keysOK_le hK) hI hl ks.length 0 (t ++ z) (by omega) (by rw [ht, List.append_assoc])
    have b2 : 0 < is.length := by omega
    have a2 := hI.at_ b2
    have e2 : is.getD 0 0 = is[0] := by rw [List.getD_eq_getElem?_getD, List.getElem?_eq_getElem b2]; rfl
    have e1 : wrTo false ks [] is ks.length ++ z = [(2 : Int)] ++ (be16 (ks.length : Int) ++ (be32 is[0] ++ (t ++ z))) := by rw [ht, wrTo, headL, e2]; simp
    have e3 : is.take 1 = [is[0]] := by rw [take_snoc is 0 b2]; rfl
    rw [e1]
    unfold parseP
    have n2 : decide ((2 : Int) = 1) = false := by decide
    simp only [num_app [(2:Int)] _ (n := 1) rfl, off_app [(2:Int)] _ (n := 1) rfl, num_app (be16 _) _ (n := 2) rfl, off_app (be16 _) _ (n := 2) rfl, num_app (be32 _) _ (n := 4) rfl, off_app (be32 _) _ (n := 4) rfl, bigN_one, bigN_be16 (x := ks.length) (by omega) (by omega), bigN_be32 a2.1 (show is[0] ≤ 4294967295 by omega), Int.toNat_natCast, n2, Bool.false_eq_true, if_false]
    simp only [List.take_zero, Nat.zero_add, e3] at ih
    rw [ih]
    rfl

/-- The bytes l are the page of the formed node. -/
def IsPage (l : List Int) (lf : Bool) (ks vs : List (List Int)) (is : List Int) : Prop := frmB lf ks vs is = true ∧ pageL lf ks vs is = l
theorem IsPage.one {l : List Int} {lf lf' : Bool} {ks vs ks' vs' : List (List Int)} {is is' : List Int} (h : IsPage l lf ks vs is) (h' : IsPage l lf' ks' vs' is') : lf = lf' ∧ ks = ks' ∧ vs = vs' ∧ is = is' := by
  have h1 := parse_page h.1
  rw [h.2, ← h'.2, parse_page h'.1] at h1
  simp only [Option.some.injEq, Prod.mk.injEq] at h1
  exact ⟨h1.1.symm, h1.2.1.symm, h1.2.2.1.symm, h1.2.2.2.symm⟩
theorem IsPage.len {l : List Int} {lf : Bool} {ks vs : List (List Int)} {is : List Int} (h : IsPage l lf ks vs is) : l.length = 1024 := by
  rw [← h.2]
  have := h.1
  unfold frmB at this
  rw [Bool.and_eq_true] at this
  exact pageL_len (of_decide_eq_true this.2)

/-- The reference's number: what lacks is 0. -/
def rnum (l : List Int) (at_ n : Nat) : Int := bigN ((l.drop at_ ++ List.replicate n 0).take n)
def rsome (l : List Int) (at_ n : Nat) : List Int := (l.drop at_).take n
theorem rnum_app (p a r : List Int) {at_ n : Nat} (h1 : at_ = p.length) (h2 : n = a.length) : rnum (p ++ (a ++ r)) at_ n = bigN a := by
  subst h1 h2
  unfold rnum
  rw [List.drop_left, List.append_assoc, List.take_left]
theorem rsome_app (p a r : List Int) {at_ n : Nat} (h1 : at_ = p.length) (h2 : n = a.length) : rsome (p ++ (a ++ r)) at_ n = a := by
  subst h1 h2
  unfold rsome
  rw [List.drop_left, List.take_left]
/-- The reference's entries. -/
def rparseN (lf : Bool) (l : List Int) : Nat → Nat → List (List Int) → List (List Int) → List Int → List (List Int) × List (List Int) × List Int
  | 0, _, ks, vs, is => (ks, vs, is)
  | n + 1, p, ks, vs, is =>
    if l.length ≤ p then (ks, vs, is)
    else if lf = true then
      rparseN lf l n (p + 3 + (rsome l (p + 3) (rnum l p 1).toNat).length + (rsome l (p + 3 + (rsome l (p + 3) (rnum l p 1).toNat).length) (rnum l (p + 1) 2).toNat).length) (ks ++ [rsome l (p + 3) (rnum l p 1).toNat]) (vs ++ [rsome l (p + 3 + (rsome l (p + 3) (rnum l p 1).toNat).length) (rnum l (p + 1) 2).toNat]) is
    else rparseN lf l n (p + 1 + (rsome l (p + 1) (rnum l p 1).toNat).length + 4) (ks ++ [rsome l (p + 1) (rnum l p 1).toNat]) vs (is ++ [rnum l (p + 1 + (rsome l (p + 1) (rnum l p 1).toNat).length) 4])
/-- What the reference reads bytes as, ahead of the question whether they are its page. -/
def rparse (l : List Int) : Bool × List (List Int) × List (List Int) × List Int :=
  (decide (rnum l 0 1 = 1), rparseN (decide (rnum l 0 1 = 1)) l (rnum l 1 2).toNat (if decide (rnum l 0 1 = 1) = true then 3 else 7) [] [] (if decide (rnum l 0 1 = 1) = true then [] else [rnum l 3 4]))

theorem rparse_leaf {ks vs : List (List Int)} {is : List Int} {z : List Int} (hk : ∀ i, i < ks.length → (ks.getD i []).length ≤ 240) (hv : ∀ i, i < ks.length → (vs.getD i []).length ≤ 260) (hl : vs.length = ks.length) :
    ∀ (n k : Nat) (r : List Int), k + n = ks.length → wrTo true ks vs is ks.length ++ z = wrTo true ks vs is k ++ r → rparseN true (wrTo true ks vs is ks.length ++ z) n (wrTo true ks vs is k).length (ks.take k) (vs.take k) [] = (ks, vs, [])
  | 0, k, r, e, _ => by
    obtain rfl : k = ks.length := by omega
    rw [rparseN, List.take_length, ← hl, List.take_length]
  | n + 1, k, r, e, h => by
    obtain ⟨t, rfl, ht⟩ := rest_ent (show k < ks.length by omega) h
    have ih := rparse_leaf (is := is) (z := z) hk hv hl n (k + 1) t (by omega) ht
    have a1 := hk k (by omega)
    have a2 := hv k (by omega)
    rw [h] at ih ⊢
    have e0 : wrTo true ks vs is k ++ (entL true ks vs is k ++ t) = wrTo true ks vs is k ++ ([((ks.getD k []).length : Int)] ++ (be16 ((vs.getD k []).length : Int) ++ (ks.getD k [] ++ (vs.getD k [] ++ t)))) := by simp [entL]
    have eN : (wrTo true ks vs is (k + 1)).length = (wrTo true ks vs is k).length + 3 + (ks.getD k []).length + (vs.getD k []).length := by rw [wrTo, List.length_append]; simp [entL, be16_len]; omega
    rw [eN] at ih
    rw [e0] at ih ⊢
    generalize wrTo true ks vs is k = P at *
    have b1 : k < ks.length := by omega
    have b2 : k < vs.length := by omega
    rw [take_snoc ks k b1, take_snoc vs k b2] at ih
    rw [getD_at b1, getD_at b2] at *
    have q1 : rnum (P ++ ([((ks[k]).length : Int)] ++ (be16 ((vs[k]).length : Int) ++ (ks[k] ++ (vs[k] ++ t))))) P.length 1 = ((ks[k]).length : Int) := by rw [rnum_app _ _ _ (by rfl) (by rfl), bigN_one]
    have q2 : rnum (P ++ ([((ks[k]).length : Int)] ++ (be16 ((vs[k]).length : Int) ++ (ks[k] ++ (vs[k] ++ t))))) (P.length + 1) 2 = ((vs[k]).length : Int) := by
      rw [show P ++ ([((ks[k]).length : Int)] ++ (be16 ((vs[k]).length : Int) ++ (ks[k] ++ (vs[k] ++ t)))) = (P ++ [((ks[k]).length : Int)]) ++ (be16 ((vs[k]).length : Int) ++ (ks[k] ++ (vs[k] ++ t))) by simp, rnum_app _ _ _ (by simp) (by rfl), bigN_be16 (by omega) (by omega)]
    have q3 : rsome (P ++ ([((ks[k]).length : Int)] ++ (be16 ((vs[k]).length : Int) ++ (ks[k] ++ (vs[k] ++ t))))) (P.length + 3) (ks[k]).length = ks[k] := by
      rw [show P ++ ([((ks[k]).length : Int)] ++ (be16 ((vs[k]).length : Int) ++ (ks[k] ++ (vs[k] ++ t)))) = (P ++ [((ks[k]).length : Int)] ++ be16 ((vs[k]).length : Int)) ++ (ks[k] ++ (vs[k] ++ t)) by simp, rsome_app _ _ _ (by simp [be16_len]) (by rfl)]
    have q4 : rsome (P ++ ([((ks[k]).length : Int)] ++ (be16 ((vs[k]).length : Int) ++ (ks[k] ++ (vs[k] ++ t))))) (P.length + 3 + (ks[k]).length) (vs[k]).length = vs[k] := by
      rw [show P ++ ([((ks[k]).length : Int)] ++ (be16 ((vs[k]).length : Int) ++ (ks[k] ++ (vs[k] ++ t)))) = (P ++ [((ks[k]).length : Int)] ++ be16 ((vs[k]).length : Int) ++ ks[k]) ++ (vs[k] ++ t) by simp, rsome_app _ _ _ (by simp [be16_len]; omega) (by rfl)]
    rw [rparseN, if_neg (by simp), if_pos rfl, q1, q2, Int.toNat_natCast, Int.toNat_natCast, q3, q4]
    exact ih
theorem rparse_inner {ks vs : List (List Int)} {is : List Int} {z : List Int} (hk : ∀ i, i < ks.length → (ks.getD i []).length ≤ 240) (hi : KidsOK is) (hl : is.length = ks.length + 1) :
    ∀ (n k : Nat) (r : List Int), k + n = ks.length → wrTo false ks vs is ks.length ++ z = wrTo false ks vs is k ++ r → rparseN false (wrTo false ks vs is ks.length ++ z) n (wrTo false ks vs is k).length (ks.take k) [] (is.take (k + 1)) = (ks, [], is)
  | 0, k, r, e, _ => by
    obtain rfl : k = ks.length := by omega
    rw [rparseN, List.take_length, ← hl, List.take_length]
  | n + 1, k, r, e, h => by
    obtain ⟨t, rfl, ht⟩ := rest_ent (show k < ks.length by omega) h
    have ih := rparse_inner (vs := vs) (z := z) hk hi hl n (k + 1) t (by omega) ht
    have a1 := hk k (by omega)
    have b1 : k < ks.length := by omega
    have b2 : k + 1 < is.length := by omega
    have a2 := hi.at_ b2
    have e2 : is.getD (k + 1) 0 = is[k + 1] := by rw [List.getD_eq_getElem?_getD, List.getElem?_eq_getElem b2]; rfl
    rw [h] at ih ⊢
    have e0 : wrTo false ks vs is k ++ (entL false ks vs is k ++ t) = wrTo false ks vs is k ++ ([((ks.getD k []).length : Int)] ++ (ks.getD k [] ++ (be32 is[k + 1] ++ t))) := by rw [entL, e2]; simp
    have eN : (wrTo false ks vs is (k + 1)).length = (wrTo false ks vs is k).length + 1 + (ks.getD k []).length + 4 := by rw [wrTo, List.length_append]; simp [entL, be32_len]; omega
    rw [eN] at ih
    rw [e0] at ih ⊢
    generalize wrTo false ks vs is k = P at *
    rw [take_snoc ks k b1, take_snoc is (k + 1) b2] at ih
    rw [getD_at b1] at *
    generalize ks[k] = x at *
    generalize is[k + 1] = y at *
    have q1 : rnum (P ++ ([(x.length : Int)] ++ (x ++ (be32 y ++ t)))) P.length 1 = (x.length : Int) := by rw [rnum_app _ _ _ (by rfl) (by rfl), bigN_one]
    have q3 : rsome (P ++ ([(x.length : Int)] ++ (x ++ (be32 y ++ t)))) (P.length + 1) x.length = x := by
      rw [show P ++ ([(x.length : Int)] ++ (x ++ (be32 y ++ t))) = (P ++ [(x.length : Int)]) ++ (x ++ (be32 y ++ t)) by simp, rsome_app _ _ _ (by simp) (by rfl)]
    have q4 : rnum (P ++ ([(x.length : Int)] ++ (x ++ (be32 y ++ t)))) (P.length + 1 + x.length) 4 = y := by
      rw [show P ++ ([(x.length : Int)] ++ (x ++ (be32 y ++ t))) = (P ++ [(x.length : Int)] ++ x) ++ (be32 y ++ t) by simp, rnum_app _ _ _ (by simp; omega) (by rfl), bigN_be32 (by omega) (by omega)]
    rw [rparseN, if_neg (by simp), if_neg (by decide), q1, Int.toNat_natCast, q3, q4]
    exact ih
theorem rparse_page {lf : Bool} {ks vs : List (List Int)} {is : List Int} (h : frmB lf ks vs is = true) : rparse (pageL lf ks vs is) = (lf, ks, vs, is) := by
  unfold frmB at h
  rw [Bool.and_eq_true] at h
  have hsz : sizeTo lf ks vs ks.length ≤ 1024 := of_decide_eq_true h.2
  have hfew := few_keys lf ks vs ks.length
  obtain ⟨hK, hV, hI, hL⟩ : ShapedP lf ks vs is := of_decide_eq_true h.1
  unfold pageL
  generalize hz : zerosL (1024 - sizeTo lf ks vs ks.length) = z
  obtain ⟨t, ht⟩ := sub_wr lf ks vs is (Nat.zero_le ks.length)
  cases lf with
  | true =>
    rw [if_pos rfl] at hL
    obtain ⟨hl, h0⟩ := hL
    obtain rfl : is = [] := List.eq_nil_of_length_eq_zero h0
    have hv : ∀ i, i < ks.length → (vs.getD i []).length ≤ 260 := fun i hi => by rw [getD_at (by omega)]; exact hV _ (List.getElem_mem (by omega))
    have ih := rparse_leaf (z := z) (is := []) (keysOK_le hK) hv hl ks.length 0 (t ++ z) (by omega) (by rw [ht, List.append_assoc])
    have e1 : wrTo true ks vs [] ks.length ++ z = [] ++ ([(1 : Int)] ++ (be16 (ks.length : Int) ++ (t ++ z))) := by rw [ht]; simp [wrTo, headL]
    have q0 : rnum (wrTo true ks vs [] ks.length ++ z) 0 1 = 1 := by rw [e1, rnum_app _ _ _ (by rfl) (by rfl), bigN_one]
    have q1 : rnum (wrTo true ks vs [] ks.length ++ z) 1 2 = (ks.length : Int) := by
      rw [e1, List.nil_append, rnum_app [(1:Int)] _ _ (by rfl) (by rfl), bigN_be16 (by omega) (by omega)]
    simp only [List.take_zero] at ih
    have e3 : (wrTo true ks vs [] 0).length = 3 := by simp [wrTo, headL, be16_len]
    rw [e3] at ih
    unfold rparse
    simp only [q0, q1, decide_true, if_true, Int.toNat_natCast, ih]
  | false =>
    rw [if_neg (by decide)] at hL
    obtain ⟨h0, hl⟩ := hL
    obtain rfl : vs = [] := List.eq_nil_of_length_eq_zero h0
    have ih := rparse_inner (vs := []) (z := z) (keysOK_le hK) hI hl ks.length 0 (t ++ z) (by omega) (by rw [ht, List.append_assoc])
    have b2 : 0 < is.length := by omega
    have a2 := hI.at_ b2
    have e2 : is.getD 0 0 = is[0] := by rw [List.getD_eq_getElem?_getD, List.getElem?_eq_getElem b2]; rfl
    have e1 : wrTo false ks [] is ks.length ++ z = [] ++ ([(2 : Int)] ++ (be16 (ks.length : Int) ++ (be32 is[0] ++ (t ++ z)))) := by rw [ht, wrTo, headL, e2]; simp
    have e3 : is.take 1 = [is[0]] := by rw [take_snoc is 0 b2]; rfl
    have q0 : rnum (wrTo false ks [] is ks.length ++ z) 0 1 = 2 := by rw [e1, rnum_app _ _ _ (by rfl) (by rfl), bigN_one]
    have q1 : rnum (wrTo false ks [] is ks.length ++ z) 1 2 = (ks.length : Int) := by
      rw [e1, List.nil_append, rnum_app [(2:Int)] _ _ (by rfl) (by rfl), bigN_be16 (by omega) (by omega)]
    have q2 : rnum (wrTo false ks [] is ks.length ++ z) 3 4 = is[0] := by
      rw [e1, show ([] : List Int) ++ ([(2 : Int)] ++ (be16 (ks.length : Int) ++ (be32 is[0] ++ (t ++ z)))) = ([(2 : Int)] ++ be16 (ks.length : Int)) ++ (be32 is[0] ++ (t ++ z)) by simp, rnum_app _ _ _ (by simp [be16_len]) (by rfl), bigN_be32 a2.1 (by omega)]
    simp only [List.take_zero, Nat.zero_add, e3] at ih
    have e4 : (wrTo false ks [] is 0).length = 7 := by simp [wrTo, headL, be16_len, be32_len]
    rw [e4] at ih
    unfold rparse
    have n2 : decide ((2 : Int) = 1) = false := by decide
    simp only [q0, q1, q2, n2, Bool.false_eq_true, if_false, Int.toNat_natCast, ih]
end Go.Proofs.Ytbngcinhjoigaaa
