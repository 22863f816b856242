/- The counter's put: the walk. -/
import Derived.Test.YtlbpdlhelkokbaaDK
import Derived.Test.YtlbpdlhelkokbaaKeep
namespace Go.Proofs.Ytlbpdlhelkokbaa
open Go.RowKit

theorem three_cells {w : World} {b : Nat} {v0 v1 v2 : Value} {t : TypeId} (h : w.heap[b]? = some (.cells #[v0, v1, v2] t (0, 0))) :
    w.cell? ⟨b, 0, none⟩ = some v0 ∧ w.cell? ⟨b, 1, none⟩ = some v1 ∧ w.cell? ⟨b, 2, none⟩ = some v2 ∧ w.frozen? ⟨b, 1, none⟩ = false ∧ w.frozen? ⟨b, 2, none⟩ = false := by
  simp [World.cell?, World.frozen?, h]
theorem one_cell {w : World} {b : Nat} {v0 : Value} {t : TypeId} (h : w.heap[b]? = some (.cells #[v0] t (0, 0))) : w.cell? ⟨b, 0, none⟩ = some v0 := by
  simp [World.cell?, h]
abbrev U (xs : List Int) : List Value := xs.map (Value.int .u64)
theorem row_cell {w : World} {base r n c : Nat} {xs : List Int} (h : w.ownsRow base 23 1 (.slice (some ⟨r, 0, none⟩) n c) n (U xs)) {i : Nat} (hi : i < xs.length) : w.cell? ⟨r, i, none⟩ = some (.int .u64 xs[i]) := by
  have := h.cells (g := r) rfl i (.int .u64 xs[i]) (by simp [U])
  rwa [Addr.add_lit, Nat.zero_add] at this

/-- the head of each way: the question is put to the row -/
theorem put_has (g a : Nat) (k h : Int) (more : Bool) (xs : List Int) (S : Value) (w : World) (hg : w.heap[g]? = some (.cells #[.int .i64 k, S, .bool more] 47 (0, 0))) (hS : w.ownsRow 0 23 1 S xs.length (U xs))
    (hl : xs.length ≤ 50000) (ha : a < xs.length) (hx : xs[a] = h) (hs : ∀ i (hi : i < xs.length), decide (h ≤ xs[i]) = decide (a ≤ i)) :
    Calls Try.prog 31 #[.pointer (some ⟨g, 0, none⟩), .int .u64 h] w fun e w' => e = .returned (.bool false) ∧ Below w.heap.size w w' := by
  obtain ⟨n, hn⟩ : ∃ n, xs.length = n := ⟨_, rfl⟩
  have HN := Lib.hid hn
  rcases hS.2 with ⟨_, h0⟩ | ⟨r, c, cur, rfl, _, _, hnc, hcm, _, _⟩
  · omega
  have HX := Lib.hid hx
  have HQ := Lib.hid hs
  have HS := Lib.hid hS
  have ha0 : (0 : Int) ≤ (a : Int) := by omega
  have ha1 : (a : Int) < (n : Int) := by omega
  rw [hn] at hnc HS hg
  clear hS hs hx hcm hnc
  have hl' : n ≤ 50000 := by omega
  clear hn hl
  go_enter Try.func31, Try.ntmps31
  have A := blk_old (blk_old hg (.cells #[.pointer (some ⟨g, 0, none⟩)] 28 (0, 0))) (.cells #[.int .u64 h] 23 (0, 0))
  have B := blk_old (blk_new w (.cells #[.pointer (some ⟨g, 0, none⟩)] 28 (0, 0))) (.cells #[.int .u64 h] 23 (0, 0))
  have C := blk_new_at (w := w.alloc (.cells #[.pointer (some ⟨g, 0, none⟩)] 28 (0, 0))) (n := w.heap.size + 1) (.cells #[.int .u64 h] 23 (0, 0)) (by simp)
  have K := Lib.hid (below_al (below_al (Below.refl w.heap.size w) (.cells #[.pointer (some ⟨g, 0, none⟩)] 28 (0, 0))) (.cells #[.int .u64 h] 23 (0, 0)))
  have R := Lib.hid ((HS.out.alloc (.cells #[.pointer (some ⟨g, 0, none⟩)] 28 (0, 0))).alloc (.cells #[.int .u64 h] 23 (0, 0)))
  clear HS hg
  obtain ⟨a0, a1, a2, _, _⟩ := three_cells A
  have b0 := one_cell B
  go_wp2_with fail
  clear a0 a1 a2 b0
  refine (search_ok n a _ _ (by omega) (by omega) fun W hW i hi => ?_).mono ?_
  · have hi' : i < xs.length := by rw [HN.out]; exact hi
    rw [← HQ.out i hi']
    exact ask_ok _ _ g r n c i xs[i] h W hi (one_cell (blk_below B hW)) (one_cell (blk_below C hW)) (three_cells (blk_below A hW)).2.1 (row_cell (own_later R.out hW) hi')
  rintro e w3 ⟨rfl, hb⟩
  have A := blk_below A hb
  have B := blk_below B hb
  have C := blk_below C hb
  have K := Lib.hid (below_after K.out hb)
  have R := Lib.hid (own_later R.out hb)
  clear hb
  obtain ⟨a0, a1, a2, _, _⟩ := three_cells A
  have b0 := one_cell B
  have c0 := one_cell C
  have x0 := row_cell R.out ha
  rw [HX.out] at x0
  have ha2 : a < n := by omega
  go_wp2_with fail
  go_quiet (fail)
  go_wp2_with fail
  go_ret
  exact ⟨rfl, below_drN K.out _⟩
end Go.Proofs.Ytlbpdlhelkokbaa
