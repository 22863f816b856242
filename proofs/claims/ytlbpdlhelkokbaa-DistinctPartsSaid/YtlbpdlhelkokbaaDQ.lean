/- The hash of a text, by the program and by the reference: one number of 64 bits. -/
import Derived.Test.YtlbpdlhelkokbaaKA
import Derived.Test.YtlbpdlhelkokbaaRM
namespace Go.Proofs.Ytlbpdlhelkokbaa
open Go.RowKit Go.Proofs.YtlbpdlhelkokbaaW.PrintWords

def turnN (x : Int) : Int := bits .xor .u64 x (x / 8589934592)
theorem turnN_range {x : Int} (h : U64 x) : U64 (turnN x) := by
  obtain ⟨h0, h1⟩ := h
  obtain ⟨n, rfl⟩ := Int.eq_ofNat_of_zero_le h0
  have hn : n < 18446744073709551616 := by omega
  have e : turnN (n : Int) = ((n ^^^ n / 8589934592 : Nat) : Int) := xorShift_u64 n 8589934592 hn
  rw [e]
  have : n ^^^ n / 8589934592 < 2 ^ 64 := Nat.xor_lt_two_pow (by omega) (by omega)
  unfold U64
  omega
theorem wrap_range (x : Int) : U64 (IntKind.u64.wrap x) := by rw [IntKind.wrap_u64]; unfold U64; omega
theorem turn_is {x : Int} (h : U64 x) : KA.ciceroneref13_turn.f x = some (turnN x) := by
  obtain ⟨h0, h1⟩ := h
  unfold KA.ciceroneref13_turn.f turnN
  rw [Int.tdiv_eq_ediv_of_nonneg h0, wu _ (by omega) (by omega)]
theorem mixed_is (x : Int) : KA.distinct_mixed.f x = some (turnN x) := rfl
def endH (x : Int) : Int := turnN (IntKind.u64.wrap (turnN (IntKind.u64.wrap (turnN x * 18397679294719823053)) * 14181476777654086739))
theorem endH_range {x : Int} (_ : U64 x) : U64 (endH x) := turnN_range (wrap_range _)
def stepH (s : ByteArray) (h : Int) (i : Int) : Int := IntKind.u64.wrap ((bits .xor .u64 h (IntKind.u64.wrap (bt s i))) * 1099511628211)
theorem wrap_next {i n : Nat} (h : i < n) (hn : n ≤ 140737488351232) : wrap64 ((i : Int) + 1) = ((i + 1 : Nat) : Int) := by unfold wrap64; omega

theorem loop_end (s : ByteArray) (h : Int) (hh : U64 h) (k : Nat) (n : Int) (hn : ¬ n < (s.size : Int)) : KA.distinct_Hash.l0 (k + 1) s h s.size n = some (endH h) ∧ KA.ciceroneref13_Hash.l0 (k + 1) s h n = some (endH h) := by
  rw [KA.distinct_Hash.l0, KA.ciceroneref13_Hash.l0]
  rw [if_neg hn, if_neg hn]
  refine ⟨?_, ?_⟩
  · rw [mixed_is, Option.bind_some, mixed_is, Option.bind_some, mixed_is, Option.bind_some]
    unfold endH
    rfl
  · rw [turn_is hh, Option.bind_some, turn_is (wrap_range _), Option.bind_some, turn_is (wrap_range _), Option.bind_some]
    unfold endH
    rfl
theorem loop_step1 (s : ByteArray) (hs : s.size ≤ 140737488351232) (h : Int) (k i : Nat) (hi : i < s.size) : KA.distinct_Hash.l0 (k + 1) s h s.size i = KA.distinct_Hash.l0 k s (stepH s h i) s.size ((i + 1 : Nat) : Int) := by
  rw [KA.distinct_Hash.l0]
  rw [if_pos (by omega), if_pos (by omega), if_pos (by omega), wrap_next hi hs]
  unfold stepH
  rfl
theorem loop_step2 (s : ByteArray) (hs : s.size ≤ 140737488351232) (h : Int) (k i : Nat) (hi : i < s.size) : KA.ciceroneref13_Hash.l0 (k + 1) s h i = KA.ciceroneref13_Hash.l0 k s (stepH s h i) ((i + 1 : Nat) : Int) := by
  rw [KA.ciceroneref13_Hash.l0]
  rw [if_pos (by omega), if_pos (by omega), wrap_next hi hs]
  unfold stepH
  rfl
theorem loops (s : ByteArray) (hs : s.size ≤ 140737488351232) : ∀ (d i : Nat) (h : Int), i + d = s.size → U64 h →
    ∃ r, U64 r ∧ ∀ k, d < k → KA.distinct_Hash.l0 k s h s.size i = some r ∧ KA.ciceroneref13_Hash.l0 k s h i = some r := by
  intro d
  induction d with
  | zero =>
    intro i h hi hh
    refine ⟨endH h, endH_range hh, fun k hk => ?_⟩
    obtain ⟨k, rfl⟩ : ∃ m, k = m + 1 := ⟨k - 1, by omega⟩
    exact loop_end s h hh k i (by omega)
  | succ d ih =>
    intro i h hi hh
    obtain ⟨r, hr, hk⟩ := ih (i + 1) (stepH s h i) (by omega) (wrap_range _)
    refine ⟨r, hr, fun k hkk => ?_⟩
    obtain ⟨k, rfl⟩ : ∃ m, k = m + 1 := ⟨k - 1, by omega⟩
    rw [loop_step1 s hs h k i (by omega), loop_step2 s hs h k i (by omega)]
    exact hk k (by omega)

def hashF (s : ByteArray) : Int := (KA.distinct_Hash.f (s.size + 1) s).getD 0
theorem hash_both (s : ByteArray) (hs : s.size ≤ 140737488351232) : U64 (hashF s) ∧ ∀ k, s.size < k → KA.distinct_Hash.f k s = some (hashF s) ∧ KA.ciceroneref13_Hash.f k s = some (hashF s) := by
  obtain ⟨r, hr, hk⟩ := loops s hs s.size 0 14695981039346656037 (by omega) (by unfold U64; omega)
  have e : hashF s = r := by
    unfold hashF KA.distinct_Hash.f
    rw [show ((0 : Int)) = ((0 : Nat) : Int) from rfl, (hk (s.size + 1) (by omega)).1]; rfl
  rw [e]
  exact ⟨hr, fun k h => hk k h⟩
theorem below_drawn {w w' : World} (h : Drawn0 w w') : Below w.heap.size w w' := by
  obtain ⟨n, rfl⟩ := h.out
  exact ⟨rfl, rfl, rfl, Nat.le_refl _, fun _ _ => rfl⟩
theorem hash_ok (s : ByteArray) (hs : s.size ≤ 140737488351232) (w : World) :
    Calls Try.prog 11 #[.string s] w fun e w' => e = .returned (.int .u64 (hashF s)) ∧ Below w.heap.size w w' :=
  (KA.distinct_Hash.calls (s.size + 1) s _ w ((hash_both s hs).2 _ (by omega)).1).mono fun _ _ ⟨h1, h2⟩ => ⟨h1, below_drawn h2⟩
theorem refHash_ok (s : ByteArray) (hs : s.size ≤ 140737488351232) (w : World) :
    Calls Try.prog 12 #[.string s] w fun e w' => e = .returned (.int .u64 (hashF s)) ∧ Below w.heap.size w w' :=
  (KA.ciceroneref13_Hash.calls (s.size + 1) s _ w ((hash_both s hs).2 _ (by omega)).2).mono fun _ _ ⟨h1, h2⟩ => ⟨h1, below_drawn h2⟩
end Go.Proofs.Ytlbpdlhelkokbaa
