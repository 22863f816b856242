/- What the program's Of and the reference's answer, at any rows: one number; with the rows turned 1 and 2 change places. -/
import Derived.Test.YtooapbhjnibaoaaVH
import Derived.Test.YtooapbhjnibaoaaVQ
namespace Go.Proofs.Ytooapbhjnibaoaa
open Go.RowKit

abbrev RefOfIs (s1 s2 : ByteArray) (p1 b1 w1 p2 b2 w2 n d V : Int) : Prop := ∀ w, Calls Try.prog 19 #[.agg #[.string s1, .int .i64 p1, .int .i64 b1, .int .i64 w1], .agg #[.string s2, .int .i64 p2, .int .i64 b2, .int .i64 w2], .agg #[.int .i64 n, .int .i64 d]] w fun e w' => e = .returned (.int .i64 V) ∧ Below w.heap.size w w'

theorem refSign_some (x y : Int) : ∃ v, ∀ w, Calls Try.prog 17 #[.int .i64 x, .int .i64 y] w fun e w' => e = .returned (.int .i64 v) ∧ Below w.heap.size w w' := by
  by_cases hb : 0 ≤ x ∧ 0 ≤ y ∧ x + y ≤ 62
  · obtain ⟨a, rfl⟩ := Int.eq_ofNat_of_zero_le hb.1
    obtain ⟨b, rfl⟩ := Int.eq_ofNat_of_zero_le hb.2.1
    exact ⟨_, fun w => refSign_any a b (by omega) _ _ rfl rfl w⟩
  · exact ⟨_, fun w => refSign_no x y hb w⟩

def turnV (V : Int) : Int := if V = 1 then 2 else if V = 2 then 1 else 0

theorem turn_is (v : Int) (a b : Nat) : (if 0 < v then 0 else if (a : Int) < b then 1 else if (b : Int) < a then 2 else 0) = turnV (if 0 < v then 0 else if (b : Int) < a then 1 else if (a : Int) < b then 2 else 0) := by
  unfold turnV
  by_cases h0 : 0 < v
  · simp [h0]
  · by_cases h1 : (b : Int) < a
    · have h2 : ¬ (a : Int) < b := by omega
      (simp only [h0, h1, h2, if_true, if_false]; try rfl)
    · by_cases h2 : (a : Int) < b
      · (simp only [h0, h1, h2, if_true, if_false]; try rfl)
      · (simp only [h0, h1, h2, if_false]; try rfl)

theorem calls_any (s1 s2 : ByteArray) (p1 b1 w1 p2 b2 w2 n d : Int) (hn : I64 n) (hd : I64 d) :
    ∃ V, (V = 0 ∨ V = 1 ∨ V = 2) ∧ OfIs s1 s2 p1 b1 w1 p2 b2 w2 n d V ∧ OfIs s2 s1 p2 b2 w2 p1 b1 w1 n d (turnV V) ∧ RefOfIs s1 s2 p1 b1 w1 p2 b2 w2 n d V := by
  by_cases hp : p1 = p2 ∧ 1 ≤ p1
  · obtain ⟨rfl, hp⟩ := hp
    by_cases hb : 0 ≤ b1 ∧ 0 ≤ b2 ∧ b1 + b2 ≤ 62
    · obtain ⟨a, rfl⟩ := Int.eq_ofNat_of_zero_le hb.1
      obtain ⟨b, rfl⟩ := Int.eq_ofNat_of_zero_le hb.2.1
      have hab : a + b ≤ 62 := by omega
      have hba : b + a ≤ 62 := by omega
      obtain ⟨T, eT⟩ : ∃ T, part (tailF (a + b) (max a b : Nat)) 63 = T := ⟨_, rfl⟩
      obtain ⟨D, eD⟩ : ∃ D, 2 ^ (a + b) = D := ⟨_, rfl⟩
      have eT2 : part (tailF (b + a) (max b a : Nat)) 63 = T := by rw [Nat.add_comm, Nat.max_comm]; exact eT
      have eD2 : 2 ^ (b + a) = D := by rw [Nat.add_comm]; exact eD
      have hD : 1 ≤ D ∧ D ≤ 4611686018427387904 := ⟨by rw [← eD]; exact Nat.one_le_two_pow, by rw [← eD]; exact pow_le62 hab⟩
      have M : RatMay (((min (2 * T) D : Nat) : Int), (D : Int)) := ⟨by simp only; omega, by simp only; omega, by unfold I64; simp only; omega, by unfold I64; simp only; omega⟩
      have eP : ownR (((min (2 * T) D : Nat) : Int), (D : Int)) = (((min (2 * T) D : Nat) : Int), (D : Int)) := by unfold ownR; rw [if_pos ⟨M.n0, M.d0⟩]
      obtain ⟨v, ev⟩ : ∃ v, cmpI (((min (2 * T) D : Nat) : Int) * (ownR (n, d)).2) ((ownR (n, d)).1 * (D : Int)) = v := ⟨_, rfl⟩
      have HC := fun w => compare_any ((min (2 * T) D : Nat) : Int) (D : Int) n d v _ _ M.In M.Id hn hd eP rfl ev w
      have HR := fun w => refCompare_any ((min (2 * T) D : Nat) : Int) (D : Int) n d v _ _ M.In M.Id hn hd eP rfl ev w
      refine ⟨if 0 < v then 0 else if (b : Int) < a then 1 else if (a : Int) < b then 2 else 0, ?_, ?_, ?_, ?_⟩
      · split
        · omega
        · split
          · omega
          · split <;> omega
      · exact fun w => of_yes s1 s2 p1 a w1 b w2 n d _ _ v hp (fun w => sign_any a b hab T D eT eD w) HC _ rfl w
      · refine fun w => of_yes s2 s1 p1 b w2 a w1 n d _ _ v hp (fun w => sign_any b a hba T D eT2 eD2 w) HC _ ?_ w
        exact turn_is v a b
      · refine fun w => refOf_yes s1 s2 p1 a w1 b w2 n d _ _ v _ hp ?_ (by omega) (by omega) (fun w => refSign_any a b hab T D eT eD w) (fun w => power_any (a + b) hab D eD ((a : Int) + b) (by omega) w) HR rfl w
        have := M.n0
        simp only at this
        omega
    · have hb' : ¬ (0 ≤ b2 ∧ 0 ≤ b1 ∧ b2 + b1 ≤ 62) := by omega
      exact ⟨0, .inl rfl, fun w => of_not s1 s2 p1 b1 w1 b2 w2 n d _ _ hp (fun w => sign_no b1 b2 hb w) w, fun w => of_not s2 s1 p1 b2 w2 b1 w1 n d _ _ hp (fun w => sign_no b2 b1 hb' w) w,
        fun w => refOf_no s1 s2 p1 b1 w1 p1 b2 w2 n d _ (fun w => refSign_no b1 b2 hb w) (.inr (.inr ⟨rfl, hp, by omega⟩)) w⟩
  · obtain ⟨v, hv⟩ := refSign_some b1 b2
    refine ⟨0, .inl rfl, fun w => of_open s1 s2 p1 b1 w1 p2 b2 w2 n d hp w, fun w => of_open s2 s1 p2 b2 w2 p1 b1 w1 n d (by omega) w, fun w => refOf_no s1 s2 p1 b1 w1 p2 b2 w2 n d v hv ?_ w⟩
    by_cases e : p1 = p2
    · exact .inr (.inl ⟨e, by omega⟩)
    · exact .inl e
end Go.Proofs.Ytooapbhjnibaoaa
