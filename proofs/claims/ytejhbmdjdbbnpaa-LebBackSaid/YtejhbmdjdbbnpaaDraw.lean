/- Plain facts on the draws of layer 8: stirring, ending, and the order that the swaps make has each number once; conditions as typed. -/
import Derived.Test.YtejhbmdjdbbnpaaWWords
namespace Go.Proofs.Ytejhbmdjdbbnpaa.DrawPlain
open Go.RowKit Go.Proofs.YtejhbmdjdbbnpaaW.PrintWords

/-- As Option.bind_some, but by a proof: nothing is left to the kernel's own unfolding. -/
theorem bindS {α β : Type} (a : α) (f : α → Option β) : (some a).bind f = f a := by rw [Option.bind_some]

theorem u64_wrap (n : Int) : IntKind.u64.wrap n = n % 18446744073709551616 := by simp [IntKind.wrap, IntKind.bits, IntKind.signed]
theorem u64_pos (n : Int) : 0 ≤ IntKind.u64.wrap n := by rw [u64_wrap]; omega
theorem u64_lt (n : Int) : IntKind.u64.wrap n < 18446744073709551616 := by rw [u64_wrap]; omega
theorem u64_same {n : Int} (h0 : 0 ≤ n) (h : n < 18446744073709551616) : IntKind.u64.wrap n = n := by rw [u64_wrap]; omega
theorem wf_u64 {n : Int} (h : (Lit.int .u64 n).wf = true) : 0 ≤ n ∧ n < 18446744073709551616 := by
  simp only [Lit.wf, IntKind.min, IntKind.max, IntKind.signed, IntKind.bits, Bool.and_eq_true] at h
  simp at h
  omega
theorem wf_i64 {n : Int} (h : (Lit.int .i64 n).wf = true) : -9223372036854775808 ≤ n ∧ n < 9223372036854775808 := by
  simp only [Lit.wf, IntKind.min, IntKind.max, IntKind.signed, IntKind.bits, Bool.and_eq_true] at h
  simp at h
  omega

/-- One more number stirred in. -/
def withS (s n : Int) : Int := Go.bits .xor .u64 (IntKind.u64.wrap ((Go.bits .xor .u64 s (IntKind.u64.wrap n)) * 11400714819323198485)) ((IntKind.u64.wrap ((Go.bits .xor .u64 s (IntKind.u64.wrap n)) * 11400714819323198485)) / 536870912)
/-- The end of it. -/
def endS (s : Int) : Int := Go.bits .xor .u64 (IntKind.u64.wrap (s * 13787848793156543929)) ((IntKind.u64.wrap (s * 13787848793156543929)) / 4294967296)
/-- All numbers stirred in. -/
def overS (s : Int) (l : List Int) : Int := l.foldl withS s

theorem bits_range (o : BinOp) (x y : Int) : 0 ≤ Go.bits o .u64 x y ∧ Go.bits o .u64 x y < 18446744073709551616 := by
  unfold Go.bits
  exact ⟨u64_pos _, u64_lt _⟩
theorem endS_pos (s : Int) : 0 ≤ endS s := (bits_range _ _ _).1
theorem endS_lt (s : Int) : endS s < 18446744073709551616 := (bits_range _ _ _).2
theorem withS_pos (s n : Int) : 0 ≤ withS s n := (bits_range _ _ _).1
theorem withS_lt (s n : Int) : withS s n < 18446744073709551616 := (bits_range _ _ _).2

theorem wrap_same {i : Int} (h0 : -9223372036854775808 ≤ i) (h : i < 9223372036854775808) : wrap64 i = i := by
  unfold wrap64
  omega
theorem wrap_next {i : Int} {n : Nat} (h0 : 0 ≤ i) (h : i < (n : Int)) (hn : n ≤ maxLen) : wrap64 (i + 1) = i + 1 := by
  unfold maxLen at hn
  unfold wrap64
  omega

theorem rd_nat (l : List Int) (i : Nat) : rd l (i : Int) = l.getD i 0 := rfl
theorem rd_drop (l : List Int) (i : Nat) (h : i < l.length) : l.drop i = rd l (i : Int) :: l.drop (i + 1) := by
  rw [List.drop_eq_getElem_cons h]
  congr 1
  simp [rd, List.getD_eq_getElem?_getD, List.getElem?_eq_getElem h]
theorem rd_set (l : List Int) (a b : Nat) (v : Int) (ha : a < l.length) : rd (l.set a v) (b : Int) = if a = b then v else rd l (b : Int) := by
  simp only [rd_nat, List.getD_eq_getElem?_getD, List.getElem?_set, ha, if_true]
  split <;> simp_all
theorem rd_ext {l l' : List Int} (hl : l.length = l'.length) (h : ∀ i : Nat, i < l.length → rd l (i : Int) = rd l' (i : Int)) : l = l' := by
  apply List.ext_getElem hl
  intro i h1 h2
  have := h i h1
  simpa [rd_nat, List.getD_eq_getElem?_getD, List.getElem?_eq_getElem h1, List.getElem?_eq_getElem h2] using this

/-! ### The order -/
def iota (n : Nat) : List Int := (List.range n).map fun i : Nat => (i : Int)
theorem iota_length (n : Nat) : (iota n).length = n := by simp [iota]
theorem rd_iota (n i : Nat) (h : i < n) : rd (iota n) (i : Int) = i := by simp [rd_nat, iota, List.getD_eq_getElem?_getD, h]

def swapS (l : List Int) (i k : Int) : List Int := (l.set i.toNat (rd l k)).set k.toNat (rd l i)
theorem swapS_length (l : List Int) (i k : Int) : (swapS l i k).length = l.length := by simp [swapS]
def pickS (s i : Int) : Int := Int.tmod (endS (withS s i)) (IntKind.u64.wrap (wrap64 (i + 1)))
def shufS : Nat → List Int → Int → List Int
  | 0, l, _ => l
  | i + 1, l, s => shufS i (swapS l ((i + 1 : Nat) : Int) (pickS s ((i + 1 : Nat) : Int))) s
def orderS (n : Nat) (s : Int) : List Int := shufS (n - 1) (iota n) s

theorem shufS_length (i : Nat) : ∀ (l : List Int) (s : Int), (shufS i l s).length = l.length := by
  induction i with
  | zero => intro l s; rfl
  | succ i ih => intro l s; simp only [shufS]; rw [ih, swapS_length]
theorem orderS_length (n : Nat) (s : Int) : (orderS n s).length = n := by rw [orderS, shufS_length, iota_length]

theorem step_wrap {i : Nat} (hi : i < 4096) : IntKind.u64.wrap (wrap64 ((i : Int) + 1)) = (i : Int) + 1 := by
  rw [wrap_same (by omega) (by omega), u64_same (by omega) (by omega)]
theorem pickS_range (s : Int) {i : Nat} (hi : i < 4096) : 0 ≤ pickS s (i : Int) ∧ pickS s (i : Int) < (i : Int) + 1 := by
  unfold pickS
  rw [step_wrap hi]
  have := endS_pos (withS s i)
  exact ⟨Int.tmod_nonneg _ this, Int.tmod_lt_of_pos _ (by omega)⟩

/-- A list of n numbers, each of 0 to n - 1 once. -/
structure Good (n : Nat) (l : List Int) : Prop where
  len : l.length = n
  low : ∀ i : Nat, i < n → 0 ≤ rd l (i : Int)
  high : ∀ i : Nat, i < n → rd l (i : Int) < (n : Int)
  once : ∀ i j : Nat, i < n → j < n → rd l (i : Int) = rd l (j : Int) → i = j

theorem good_iota (n : Nat) : Good n (iota n) :=
  ⟨iota_length n, fun i h => by rw [rd_iota n i h]; omega, fun i h => by rw [rd_iota n i h]; omega, fun i j hi hj h => by rw [rd_iota n i hi, rd_iota n j hj] at h; omega⟩

theorem rd_swap (l : List Int) (a b j : Nat) (ha : a < l.length) (hb : b < l.length) : rd (swapS l (a : Int) (b : Int)) (j : Int) = if b = j then rd l (a : Int) else if a = j then rd l (b : Int) else rd l (j : Int) := by
  simp only [swapS, Int.toNat_natCast]
  rw [rd_set _ _ _ _ (by simpa using hb)]
  split
  · rfl
  · rw [rd_set _ _ _ _ ha]

theorem good_swap {n : Nat} {l : List Int} (h : Good n l) {a b : Nat} (ha : a < n) (hb : b < n) : Good n (swapS l (a : Int) (b : Int)) := by
  obtain ⟨h1, h2, h3, h4⟩ := h
  subst h1
  refine ⟨swapS_length _ _ _, fun i hi => ?_, fun i hi => ?_, fun i j hi hj e => ?_⟩
  · rw [rd_swap l a b i ha hb]
    split
    · exact h2 a ha
    · split
      · exact h2 b hb
      · exact h2 i hi
  · rw [rd_swap l a b i ha hb]
    split
    · exact h3 a ha
    · split
      · exact h3 b hb
      · exact h3 i hi
  · rw [rd_swap l a b i ha hb, rd_swap l a b j ha hb] at e
    have k1 := h4 a b ha hb
    have k2 := h4 a i ha hi
    have k3 := h4 a j ha hj
    have k4 := h4 b i hb hi
    have k5 := h4 b j hb hj
    have k6 := h4 i j hi hj
    have k7 := h4 i a hi ha
    have k8 := h4 i b hi hb
    have k9 := h4 b a hb ha
    by_cases e1 : b = i <;> by_cases e2 : a = i <;> by_cases e3 : b = j <;> by_cases e4 : a = j <;> simp only [e1, e2, e3, e4, if_true, if_false] at e <;> first | omega | (have := k1 e; omega) | (have := k2 e; omega) | (have := k3 e; omega) | (have := k4 e; omega) | (have := k5 e; omega) | (have := k6 e; omega) | (have := k7 e; omega) | (have := k8 e; omega) | (have := k9 e; omega) | (subst_vars; simp_all)

theorem good_shuf {n : Nat} (hn : n ≤ 4096) (i : Nat) : ∀ (l : List Int) (s : Int), i < n → Good n l → Good n (shufS i l s) := by
  induction i with
  | zero => intro l s _ h; exact h
  | succ i ih =>
    intro l s hi h
    simp only [shufS]
    refine ih _ s (by omega) ?_
    obtain ⟨p0, p1⟩ := pickS_range s (i := i + 1) (by omega)
    obtain ⟨m, hm⟩ := Int.eq_ofNat_of_zero_le p0
    rw [hm] at p1 ⊢
    exact good_swap h hi (by omega)

theorem good_order {n : Nat} (hn : n ≤ 4096) (s : Int) : Good n (orderS n s) := by
  unfold orderS
  rcases Nat.eq_zero_or_pos n with h | h
  · subst h
    exact good_iota 0
  · exact good_shuf hn _ _ _ (by omega) (good_iota n)

end Go.Proofs.Ytejhbmdjdbbnpaa.DrawPlain
