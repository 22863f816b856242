/- The walk of Of. -/
import Derived.Test.YtooapbhjnibaoaaVC
namespace Go.Proofs.Ytooapbhjnibaoaa
open Go.RowKit

theorem four_cells {w : World} {b : Nat} {v0 v1 v2 v3 : Value} {t : TypeId} (h : w.heap[b]? = some (.cells #[v0, v1, v2, v3] t (0, 0))) :
    w.cell? ⟨b, 1, none⟩ = some v1 ∧ w.cell? ⟨b, 2, none⟩ = some v2 := by
  simp [World.cell?, h]

set_option maxHeartbeats 2000000 in
theorem of_open (s1 s2 : ByteArray) (p1 b1 w1 p2 b2 w2 n d : Int) (h : ¬ (p1 = p2 ∧ 1 ≤ p1)) (w : World) :
    Calls Try.prog 18 #[.agg #[.string s1, .int .i64 p1, .int .i64 b1, .int .i64 w1], .agg #[.string s2, .int .i64 p2, .int .i64 b2, .int .i64 w2], .agg #[.int .i64 n, .int .i64 d]] w fun e w' => e = .returned (.int .i64 0) ∧ Below w.heap.size w w' := by
  by_cases e : p1 = p2
  · subst e
    have h1 : p1 < 1 := by omega
    clear h
    go_enter Try.func18, Try.ntmps18
    go_wp2_with fail
    go_ret
    exact ⟨rfl, below_al (below_al (below_al (Below.refl _ _) _) _) _⟩
  · clear h
    go_enter Try.func18, Try.ntmps18
    go_wp2_with fail
    go_ret
    exact ⟨rfl, below_al (below_al (below_al (Below.refl _ _) _) _) _⟩

set_option maxHeartbeats 1000000 in
theorem of_not (s1 s2 : ByteArray) (p b1 w1 b2 w2 n d x y : Int) (h : 1 ≤ p) (hs : ∀ w, Calls Try.prog 16 #[.int .i64 b1, .int .i64 b2] w fun e w' => e = .returned (.tuple #[.agg #[.int .i64 x, .int .i64 y], .bool false]) ∧ Below w.heap.size w w') (w : World) :
    Calls Try.prog 18 #[.agg #[.string s1, .int .i64 p, .int .i64 b1, .int .i64 w1], .agg #[.string s2, .int .i64 p, .int .i64 b2, .int .i64 w2], .agg #[.int .i64 n, .int .i64 d]] w fun e w' => e = .returned (.int .i64 0) ∧ Below w.heap.size w w' := by
  have HS := Lib.hid hs
  clear hs
  go_enter Try.func18, Try.ntmps18
  go_wp2_with fail
  refine (HS.out _).mono ?_
  rintro e w1 ⟨rfl, hb⟩
  have K := Lib.hid (below_al (below_after (below_al (below_al (below_al (Below.refl _ _) _) _) _) hb) (.cells #[.int .i64 x, .int .i64 y] 29 (0, 0)))
  clear hb
  go_wp2
  go_ret
  exact ⟨rfl, K.out⟩

set_option maxHeartbeats 1000000 in
theorem of_yes (s1 s2 : ByteArray) (p b1 w1 b2 w2 n d x y v : Int) (h : 1 ≤ p) (hs : ∀ w, Calls Try.prog 16 #[.int .i64 b1, .int .i64 b2] w fun e w' => e = .returned (.tuple #[.agg #[.int .i64 x, .int .i64 y], .bool true]) ∧ Below w.heap.size w w')
    (hc : ∀ w, Calls Try.prog 20 #[.agg #[.int .i64 x, .int .i64 y], .agg #[.int .i64 n, .int .i64 d]] w fun e w' => e = .returned (.int .i64 v) ∧ Below w.heap.size w w') (V : Int) (hV : Hid ((if 0 < v then 0 else if b2 < b1 then 1 else if b1 < b2 then 2 else 0) = V)) (w : World) :
    Calls Try.prog 18 #[.agg #[.string s1, .int .i64 p, .int .i64 b1, .int .i64 w1], .agg #[.string s2, .int .i64 p, .int .i64 b2, .int .i64 w2], .agg #[.int .i64 n, .int .i64 d]] w fun e w' => e = .returned (.int .i64 V) ∧ Below w.heap.size w w' := by
  have HS := Lib.hid hs
  have HC := Lib.hid hc
  clear hs hc
  go_enter Try.func18, Try.ntmps18
  go_wp2_with fail
  refine (HS.out _).mono ?_
  rintro e w3 ⟨rfl, hb⟩
  have A := blk_old (blk_below (blk_old (blk_old (blk_new w (.cells #[.string s1, .int .i64 p, .int .i64 b1, .int .i64 w1] 36 (0, 0))) (.cells #[.string s2, .int .i64 p, .int .i64 b2, .int .i64 w2] 36 (0, 0))) (.cells #[.int .i64 n, .int .i64 d] 29 (0, 0))) hb) (.cells #[.int .i64 x, .int .i64 y] 29 (0, 0))
  have B := blk_old (blk_below (blk_old (blk_new_at (w := w.alloc (.cells #[.string s1, .int .i64 p, .int .i64 b1, .int .i64 w1] 36 (0, 0))) (n := w.heap.size + 1) (.cells #[.string s2, .int .i64 p, .int .i64 b2, .int .i64 w2] 36 (0, 0)) (by simp)) (.cells #[.int .i64 n, .int .i64 d] 29 (0, 0))) hb) (.cells #[.int .i64 x, .int .i64 y] 29 (0, 0))
  have L := blk_old (blk_below (blk_new_at (w := (w.alloc (.cells #[.string s1, .int .i64 p, .int .i64 b1, .int .i64 w1] 36 (0, 0))).alloc (.cells #[.string s2, .int .i64 p, .int .i64 b2, .int .i64 w2] 36 (0, 0))) (n := w.heap.size + 1 + 1) (.cells #[.int .i64 n, .int .i64 d] 29 (0, 0)) (by simp)) hb) (.cells #[.int .i64 x, .int .i64 y] 29 (0, 0))
  have T := blk_new w3 (.cells #[.int .i64 x, .int .i64 y] 29 (0, 0))
  have K := Lib.hid (below_al (below_after (below_al (below_al (below_al (Below.refl _ _) _) _) _) hb) (.cells #[.int .i64 x, .int .i64 y] 29 (0, 0)))
  clear hb
  obtain ⟨l0, l1, _, _⟩ := two_cells L
  obtain ⟨t0, t1, _, _⟩ := two_cells T
  go_wp2_with fail
  refine (HC.out _).mono ?_
  rintro e w4 ⟨rfl, hb⟩
  have A := blk_below A hb
  have B := blk_below B hb
  have K := Lib.hid (below_after K.out hb)
  clear hb L T l0 l1 t0 t1
  obtain ⟨_, a0⟩ := four_cells A
  obtain ⟨_, c0⟩ := four_cells B
  clear A B
  have hc : 0 < v ∨ (¬ 0 < v ∧ b2 < b1) ∨ (¬ 0 < v ∧ ¬ b2 < b1 ∧ b1 < b2) ∨ (¬ 0 < v ∧ ¬ b2 < b1 ∧ ¬ b1 < b2) := by omega
  rcases hc with h1 | ⟨h1, h2⟩ | ⟨h1, h2, h3⟩ | ⟨h1, h2, h3⟩
  · have E : Hid (V = 0) := by rw [← hV.out, if_pos h1]; rfl
    go_wp2
    go_ret
    exact ⟨by rw [E.out]; rfl, K.out⟩
  · have E : Hid (V = 1) := by rw [← hV.out, if_neg h1, if_pos h2]; rfl
    go_wp2
    go_ret
    exact ⟨by rw [E.out]; rfl, K.out⟩
  · have E : Hid (V = 2) := by rw [← hV.out, if_neg h1, if_neg h2, if_pos h3]; rfl
    go_wp2
    go_ret
    exact ⟨by rw [E.out]; rfl, K.out⟩
  · have E : Hid (V = 0) := by rw [← hV.out, if_neg h1, if_neg h2, if_neg h3]; rfl
    go_wp2
    go_ret
    exact ⟨by rw [E.out]; rfl, K.out⟩
end Go.Proofs.Ytooapbhjnibaoaa
