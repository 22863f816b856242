/- The counter's put, where the hash is new: the walk. -/
import Derived.Test.YtlbpdlhelkokbaaDL
import Derived.Deep.RegionHeld3
namespace Go.Proofs.Ytlbpdlhelkokbaa
open Go.RowKit

theorem own_move {w w1 : World} {base : Nat} {e : TypeId} {size n : Nat} {v : Value} {xs : List Value} (h : w.ownsRow base e size v n xs) (hm : ∀ k, v.ownBlock = some k → w1.heap[k]? = w.heap[k]?) : w1.ownsRow base e size v n xs := by
  obtain ⟨h1, h2⟩ := h
  refine ⟨h1, ?_⟩
  rcases h2 with h2 | ⟨g, cap, cur, rfl, hg, hh, r⟩
  · exact .inl h2
  · exact .inr ⟨g, cap, cur, rfl, hg, (hm g (by simp [Value.ownBlock])).trans hh, r⟩
theorem own_typed {w : World} {base : Nat} {e : TypeId} {size n : Nat} {v : Value} {xs : List Value} (h : w.ownsRow base e size v n xs) (k : Nat) (hk : v.ownBlock = some k) : ∃ cells, w.heap[k]? = some (.cells cells e (0, 0)) := by
  rcases h.2 with ⟨rfl, _⟩ | ⟨g, cap, cur, rfl, hg, hh, r⟩
  · simp [Value.ownBlock] at hk
  · have : g = k := by simpa [Value.ownBlock] using hk
    subst this
    exact ⟨cur, hh⟩
theorem row_cell' {w : World} {base r n c : Nat} {xs : List Int} (h : w.ownsRow base 23 1 (.slice (some ⟨r, 0, none⟩) n c) n (U xs)) {i : Nat} {x : Int} (hi : xs[i]? = some x) : w.cell? ⟨r, i, none⟩ = some (.int .u64 x) := by
  obtain ⟨h1, rfl⟩ := List.getElem?_eq_some_iff.1 hi
  exact row_cell h h1
theorem Inserted.form {w w' : World} {base n m : Nat} {S : Value} {ys : List Value} {e : Ending} (h : Inserted w base S n ys e w') (hm : m = n + 1) : ∃ r' c', e = .returned (.slice (some ⟨r', 0, none⟩) m c') ∧
    w'.ownsRow base 23 1 (.slice (some ⟨r', 0, none⟩) m c') m ys ∧ w.grownBy w' S.ownBlock ∧ (S.ownBlock = some r' ∨ r' = w.heap.size) ∧ m ≤ c' ∧ c' ≤ 9223372036854775807 := by
  subst hm
  obtain ⟨S', rfl, hown, hgr, hloc⟩ := h
  rcases hown.2 with ⟨_, h0⟩ | ⟨r, c, cur, rfl, _, _, h1, h2, _, _⟩
  · omega
  · refine ⟨r, c, rfl, hown, hgr, ?_, h1, by unfold maxLen at h2; omega⟩
    simp only [Value.ownBlock] at hloc
    rcases hloc with h1 | h1
    · exact .inl h1.symm
    · exact .inr (by simpa using h1)
theorem blk_ins {w w0 w1 : World} {row : Option Nat} {g : Nat} {o : Obj} (h : w.heap[g]? = some o) (hg : w0.grownBy w1 row) {O : Obj} (e : w0 = (w.alloc O).drew) (hn : row ≠ some g) : w1.heap[g]? = some o := by
  subst e
  have h1 : (w.alloc O).drew.heap[g]? = some o := blk_drew (blk_old h O)
  exact (hg.block g (lt_of_block h1) (fun e => hn e.symm)).trans h1
theorem touch_set {F : Nat → Prop} (w : World) (g o : Nat) (u : Value) (h : F g) : Touch F w (w.setCell ⟨g, o, none⟩ u) :=
  ⟨rfl, rfl, rfl, by simp [World.setCell], fun k _ hk => Below.heap_setCell w ⟨g, o, none⟩ u k (fun e => hk (by rw [e]; exact h))⟩
theorem three_set1 {w : World} {g : Nat} {t : TypeId} {v0 v1 v2 : Value} (h : w.heap[g]? = some (.cells #[v0, v1, v2] t (0, 0))) (u : Value) :
    (w.setCell ⟨g, 1, none⟩ u).heap[g]? = some (.cells #[v0, u, v2] t (0, 0)) := by rw [blk_set h]; rfl

/-- THE COUNTER in memory: at block g; its row (in block r, or none) holds xs. -/
def Ctr (w : World) (g : Nat) (k : Int) (xs : List Int) (more : Bool) (r : Option Nat) : Prop :=
  ∃ S, w.heap[g]? = some (.cells #[.int .i64 k, S, .bool more] 47 (0, 0)) ∧ w.ownsRow 0 23 1 S xs.length (U xs) ∧ S.ownBlock = r
/-- what a call on a counter leaves: an answer, the counter with another row in its old block or in a new one; nothing else has turned -/
def PutTo (w : World) (g : Nat) (r : Option Nat) (k : Int) (ys : List Int) (m : Bool) (b : Bool) (e : Ending) (w' : World) : Prop :=
  e = .returned (.bool b) ∧ ∃ r', Ctr w' g k ys m r' ∧ (r = r' ∨ ∃ j, r' = some j ∧ w.heap.size ≤ j) ∧ Touch (fun j => j = g ∨ r = some j) w w'
theorem ins_len {w : World} {S : Value} {xs : List Int} {n a m : Nat} {h : Int} (hn : xs.length = n) (hm : m = n + 1) (ha : a ≤ n) (ho : w.ownsRow 0 23 1 S m ((U xs).take a ++ .int .u64 h :: (U xs).drop a)) :
    w.ownsRow 0 23 1 S (xs.take a ++ h :: xs.drop a).length (U (xs.take a ++ h :: xs.drop a)) := by
  have e1 : (xs.take a ++ h :: xs.drop a).length = n + 1 := by simp only [List.length_append, List.length_take, List.length_cons, List.length_drop]; omega
  have e2 : U (xs.take a ++ h :: xs.drop a) = (U xs).take a ++ .int .u64 h :: (U xs).drop a := by simp [U, List.map_take, List.map_drop]
  rw [e1, e2, ← hm]; exact ho
theorem three_set2 {w : World} {g : Nat} {t : TypeId} {v0 v1 v2 : Value} (h : w.heap[g]? = some (.cells #[v0, v1, v2] t (0, 0))) (u : Value) :
    (w.setCell ⟨g, 2, none⟩ u).heap[g]? = some (.cells #[v0, v1, u] t (0, 0)) := by rw [blk_set h]; rfl
theorem own_cut {w : World} {base n c : Nat} {e : TypeId} {a : Addr} {ys : List Value} (h : w.ownsRow base e 1 (.slice (some a) (n + 1) c) (n + 1) ys) : w.ownsRow base e 1 (.slice (some a) n c) n (ys.take n) := by
  obtain ⟨h1, h2⟩ := h
  refine ⟨by rw [List.length_take]; omega, ?_⟩
  rcases h2 with ⟨_, h2⟩ | ⟨g, cap, cur, hv, hg, hh, hn, hm, hs, ht⟩
  · omega
  · injection hv with hv1 hv2 hv3
    subst hv3
    refine .inr ⟨g, c, cur, by rw [hv1], hg, hh, by omega, hm, hs, ?_⟩
    rw [← ht, List.take_take]
    congr 1
    omega
theorem cut_len {w : World} {S : Value} {xs : List Int} {n a : Nat} {h : Int} (hn : xs.length = n) (ha : a ≤ n) (ho : w.ownsRow 0 23 1 S n (((U xs).take a ++ .int .u64 h :: (U xs).drop a).take n)) :
    w.ownsRow 0 23 1 S ((xs.take a ++ h :: xs.drop a).take n).length (U ((xs.take a ++ h :: xs.drop a).take n)) := by
  have e1 : ((xs.take a ++ h :: xs.drop a).take n).length = n := by simp only [List.length_append, List.length_take, List.length_cons, List.length_drop]; omega
  have e2 : U ((xs.take a ++ h :: xs.drop a).take n) = ((U xs).take a ++ .int .u64 h :: (U xs).drop a).take n := by simp [U, List.map_take, List.map_drop]
  rw [e1, e2]; exact ho
theorem blk_touch {F : Nat → Prop} {w w1 : World} {g : Nat} {o : Obj} (h : w.heap[g]? = some o) (hb : Touch F w w1) (hn : ¬ F g) : w1.heap[g]? = some o := (hb.block g (lt_of_block h) hn).trans h

set_option maxRecDepth 100000 in
set_option maxHeartbeats 3200000 in
theorem put_new_mid (g r n c a : Nat) (k h : Int) (more : Bool) (xs : List Int) (w : World) (hg : w.heap[g]? = some (.cells #[.int .i64 k, (.slice (some ⟨r, 0, none⟩) n c), .bool more] 47 (0, 0))) (hS : w.ownsRow 0 23 1 (.slice (some ⟨r, 0, none⟩) n c) n (U xs)) (hn : xs.length = n) (hl : n ≤ 50000) (hs : ∀ i (hi : i < xs.length), decide (h ≤ xs[i]) = decide (a ≤ i)) (x : Int) (ha : a < n) (hx : Hid (xs[a]? = some x)) (hne : Hid (¬ x = h)) (hk : (n : Int) + 1 ≤ k) :
    Calls Try.prog 31 #[.pointer (some ⟨g, 0, none⟩), .int .u64 h] w (PutTo w g ((.slice (some ⟨r, 0, none⟩) n c) : Value).ownBlock k (xs.take a ++ h :: xs.drop a) more true) := by
  have HS := Lib.hid hS
  have HQ := Lib.hid hs
  have HN := Lib.hid hn
  have ha0 : (0 : Int) ≤ (a : Int) := by omega
  have ha1 : (a : Int) < (n : Int) := by omega
  clear hS hs hn
  go_enter Try.func31, Try.ntmps31
  have A := blk_old (blk_old hg (.cells #[.pointer (some ⟨g, 0, none⟩)] 28 (0, 0))) (.cells #[.int .u64 h] 23 (0, 0))
  have B := blk_old (blk_new w (.cells #[.pointer (some ⟨g, 0, none⟩)] 28 (0, 0))) (.cells #[.int .u64 h] 23 (0, 0))
  have C := blk_new_at (w := w.alloc (.cells #[.pointer (some ⟨g, 0, none⟩)] 28 (0, 0))) (n := w.heap.size + 1) (.cells #[.int .u64 h] 23 (0, 0)) (by simp)
  have K := Lib.hid (below_al (below_al (Below.refl w.heap.size w) (.cells #[.pointer (some ⟨g, 0, none⟩)] 28 (0, 0))) (.cells #[.int .u64 h] 23 (0, 0)))
  have R := Lib.hid ((HS.out.alloc (.cells #[.pointer (some ⟨g, 0, none⟩)] 28 (0, 0))).alloc (.cells #[.int .u64 h] 23 (0, 0)))
  have HG := Lib.hid (lt_of_block hg)
  have HR := Lib.hid HS.out.lt
  clear HS hg
  obtain ⟨a0, a1, a2, _, _⟩ := three_cells A
  have b0 := one_cell B
  go_wp2_with fail
  clear a0 a1 a2 b0
  refine (search_ok n a _ _ (by omega) (by omega) fun W hW i hi => ?_).mono ?_
  · have hi' : i < xs.length := by rw [HN.out]; exact hi
    rw [← HQ.out i hi']
    exact ask_ok _ _ g r n c i xs[i] h W hi (one_cell (blk_below B hW)) (one_cell (blk_below C hW)) (three_cells (blk_below A hW)).2.1 (row_cell (own_later R.out hW) hi')
  rintro e w3 ⟨rfl, hb⟩
  have A := blk_below A hb
  have B := blk_below B hb
  have C := blk_below C hb
  have K := Lib.hid (below_after K.out hb)
  have R := Lib.hid (own_later R.out hb)
  clear hb
  obtain ⟨a0, a1, a2, _, _⟩ := three_cells A
  have b0 := one_cell B
  have c0 := one_cell C
  have x0 := row_cell' R.out hx.out
  have hxh : (x == h) = false := by simpa using hne.out
  go_wp2_with fail
  go_quiet (fail)
  rename_i nq
  generalize hw4 : w3.drewN nq = w4
  have A := blk_drewN A nq
  have B := blk_drewN B nq
  have C := blk_drewN C nq
  have K := Lib.hid (below_drN K.out nq)
  have R := Lib.hid (own_move (w1 := w3.drewN nq) R.out (fun _ _ => rfl))
  rw [hw4] at A B C K R
  clear hw4 a0 a1 a2 b0 c0 x0 hxh
  go_wp2_with fail
  have hgw : Hid (g < w4.heap.size ∧ w.heap.size < w4.heap.size ∧ w.heap.size + 1 < w4.heap.size ∧ g ≠ w.heap.size ∧ g ≠ w.heap.size + 1) := ⟨lt_of_block A, lt_of_block B, lt_of_block C, by have := HG.out; omega, by have := HG.out; omega⟩
  have hrow : Hid (∀ j, ((.slice (some ⟨r, 0, none⟩) n c) : Value).ownBlock = some j → j ≠ g ∧ j ≠ w.heap.size ∧ j ≠ w.heap.size + 1) := fun j hj => by
    have h1 := HR.out j hj
    obtain ⟨cells, h2⟩ := own_typed R.out j hj
    refine ⟨fun e => ?_, by omega, by omega⟩
    subst e
    rw [A] at h2
    injection h2 with h2
    injection h2 with _ h2
    exact absurd h2 (by decide)
  have R5 := Lib.hid (own_move (w1 := (w4.alloc (.cells #[.int .u64 h] 23 (0, 0))).drew) (R.out.alloc (.cells #[.int .u64 h] 23 (0, 0))) (fun _ _ => rfl))
  have V5 : (w4.alloc (.cells #[.int .u64 h] 23 (0, 0))).drew.heap[w4.heap.size]? = some (.cells #[.int .u64 h] 23 (0, 0)) := blk_new w4 _
  have hv5 : Hid (((.slice (some ⟨r, 0, none⟩) n c) : Value).ownBlock ≠ some w4.heap.size) := fun e => by
    have := lt_of_block (own_typed R.out _ e).choose_spec
    omega
  have HV := Lib.hid V5
  clear V5
  obtain ⟨a0, a1, a2, f1, f2⟩ := three_cells A
  have b0 := one_cell B
  have c0 := one_cell C
  have a1' := (three_cells (blk_old A (.cells #[.int .u64 h] 23 (0, 0)))).2.1
  have hne1 : ¬ w.heap.size = g := fun e => hgw.out.2.2.2.1 e.symm
  have hne2 : ¬ w.heap.size + 1 = g := fun e => hgw.out.2.2.2.2 e.symm
  go_region_held3 (fun w' => w'.cell? ⟨w.heap.size, 0, none⟩ = some (.pointer (some ⟨g, 0, none⟩)) ∧ w'.cell? ⟨w.heap.size + 1, 0, none⟩ = some (.int .u64 h))
    (first | exact ⟨k5 _, k6 _⟩ | go_keep)
    ((go_at_call 38; refine (insert_own R5.out (Nat.zero_le _) (by omega) (show a ≤ n by omega) (fun v hv => by obtain ⟨_, _, rfl⟩ := List.mem_map.1 hv; rfl) w4.heap.size h HV.out hv5.out).mono ?_; rintro e w5 hI; obtain ⟨r5, c5, rfl, hown, hgr, hloc, hc5, hc6⟩ := hI.form (m := (n + 1)) rfl; have A5 := blk_ins A hgr rfl (fun e => (hrow.out _ e).1 rfl); have B5 := blk_ins B hgr rfl (fun e => (hrow.out _ e).2.1 rfl); have C5 := blk_ins C hgr rfl (fun e => (hrow.out _ e).2.2 rfl); have f5 := (three_cells A5).2.2.2.1; have a5 := (three_cells A5).2.1; have b5 := one_cell B5; have d5 := one_cell C5; have k5 := fun u => one_cell (blk_far (b := g) (o := 1) B5 hne1 u); have k6 := fun u => one_cell (blk_far (b := g) (o := 1) C5 hne2 u)))
  all_goals
    clear a0 a1 a2 b0 c0 a1' a5 b5 d5 f5 f1 f2 k5 k6
    have hr5 : Hid (r5 ≠ g) := fun e => by
      obtain ⟨cells, h2⟩ := own_typed hown r5 rfl
      subst e
      rw [A5] at h2
      injection h2 with h2
      injection h2 with _ h2
      exact absurd h2 (by decide)
    have K6 := Lib.hid ((((Touch.of_below (F := fun j => j = g ∨ ((.slice (some ⟨r, 0, none⟩) n c) : Value).ownBlock = some j) K.out).trans (Touch.of_below (below_dr (below_al (Below.refl _ _) (.cells #[.int .u64 h] 23 (0, 0)))))).trans (Touch.grown hgr fun _ e _ => .inr e)).trans (touch_set _ g 1 (.slice (some ⟨r5, 0, none⟩) (n + 1) c5) (.inl rfl)))
    have A6 := three_set1 A5 (.slice (some ⟨r5, 0, none⟩) (n + 1) c5)
    have B6 := blk_far (b := g) (o := 1) B5 hne1 (.slice (some ⟨r5, 0, none⟩) (n + 1) c5)
    have C6 := blk_far (b := g) (o := 1) C5 hne2 (.slice (some ⟨r5, 0, none⟩) (n + 1) c5)
    have O6 := Lib.hid (own_move (w1 := w5.setCell ⟨g, 1, none⟩ (.slice (some ⟨r5, 0, none⟩) (n + 1) c5)) hown (fun j hj => by
      have e : r5 = j := by simpa [Value.ownBlock] using hj
      exact Below.heap_setCell w5 ⟨g, 1, none⟩ _ j (fun e2 => hr5.out (e.trans e2))))
    have L6 : Hid (((.slice (some ⟨r, 0, none⟩) n c) : Value).ownBlock = some r5 ∨ ∃ j, some r5 = some j ∧ w.heap.size ≤ j) := hloc.imp id (fun e => ⟨r5, rfl, by
      have h1 := K.out.size
      have h2 : r5 = w4.heap.size + 1 := by simpa using e
      omega⟩)
    clear hown hgr hloc A5 B5 C5 hne1 hne2 HV hv5 R5 hrow hgw A B C R K hr5
    generalize w5.setCell ⟨g, 1, none⟩ (.slice (some ⟨r5, 0, none⟩) (n + 1) c5) = w6 at *
    obtain ⟨a0, a1, a2, f1, f2⟩ := three_cells A6
    have b0 := one_cell B6
    have c0 := one_cell C6
    go_wp2_with fail
    go_quiet (fail)
    rename_i nq
    go_wp2_with fail
    go_ret
    exact ⟨rfl, some r5, ⟨_, blk_drewN A6 _, own_move (ins_len HN.out rfl (show a ≤ n by omega) O6.out) (fun _ _ => rfl), rfl⟩, L6.out, K6.out.trans (Touch.of_below (below_drN (Below.refl _ _) _))⟩
set_option maxRecDepth 100000 in
set_option maxHeartbeats 3200000 in
theorem put_new_end (g r n c : Nat) (k h : Int) (more : Bool) (xs : List Int) (w : World) (hg : w.heap[g]? = some (.cells #[.int .i64 k, (.slice (some ⟨r, 0, none⟩) n c), .bool more] 47 (0, 0))) (hS : w.ownsRow 0 23 1 (.slice (some ⟨r, 0, none⟩) n c) n (U xs)) (hn : xs.length = n) (hl : n ≤ 50000) (hs : ∀ i (hi : i < xs.length), decide (h ≤ xs[i]) = decide (n ≤ i)) (hk : (n : Int) + 1 ≤ k) :
    Calls Try.prog 31 #[.pointer (some ⟨g, 0, none⟩), .int .u64 h] w (PutTo w g ((.slice (some ⟨r, 0, none⟩) n c) : Value).ownBlock k (xs.take n ++ h :: xs.drop n) more true) := by
  have HS := Lib.hid hS
  have HQ := Lib.hid hs
  have HN := Lib.hid hn

  clear hS hs hn
  go_enter Try.func31, Try.ntmps31
  have A := blk_old (blk_old hg (.cells #[.pointer (some ⟨g, 0, none⟩)] 28 (0, 0))) (.cells #[.int .u64 h] 23 (0, 0))
  have B := blk_old (blk_new w (.cells #[.pointer (some ⟨g, 0, none⟩)] 28 (0, 0))) (.cells #[.int .u64 h] 23 (0, 0))
  have C := blk_new_at (w := w.alloc (.cells #[.pointer (some ⟨g, 0, none⟩)] 28 (0, 0))) (n := w.heap.size + 1) (.cells #[.int .u64 h] 23 (0, 0)) (by simp)
  have K := Lib.hid (below_al (below_al (Below.refl w.heap.size w) (.cells #[.pointer (some ⟨g, 0, none⟩)] 28 (0, 0))) (.cells #[.int .u64 h] 23 (0, 0)))
  have R := Lib.hid ((HS.out.alloc (.cells #[.pointer (some ⟨g, 0, none⟩)] 28 (0, 0))).alloc (.cells #[.int .u64 h] 23 (0, 0)))
  have HG := Lib.hid (lt_of_block hg)
  have HR := Lib.hid HS.out.lt
  clear HS hg
  obtain ⟨a0, a1, a2, _, _⟩ := three_cells A
  have b0 := one_cell B
  go_wp2_with fail
  clear a0 a1 a2 b0
  refine (search_ok n n _ _ (by omega) (by omega) fun W hW i hi => ?_).mono ?_
  · have hi' : i < xs.length := by rw [HN.out]; exact hi
    rw [← HQ.out i hi']
    exact ask_ok _ _ g r n c i xs[i] h W hi (one_cell (blk_below B hW)) (one_cell (blk_below C hW)) (three_cells (blk_below A hW)).2.1 (row_cell (own_later R.out hW) hi')
  rintro e w3 ⟨rfl, hb⟩
  have A := blk_below A hb
  have B := blk_below B hb
  have C := blk_below C hb
  have K := Lib.hid (below_after K.out hb)
  have R := Lib.hid (own_later R.out hb)
  clear hb
  obtain ⟨a0, a1, a2, _, _⟩ := three_cells A
  have b0 := one_cell B
  have c0 := one_cell C

  go_wp2_with fail
  go_quiet (fail)
  rename_i nq
  generalize hw4 : w3.drewN nq = w4
  have A := blk_drewN A nq
  have B := blk_drewN B nq
  have C := blk_drewN C nq
  have K := Lib.hid (below_drN K.out nq)
  have R := Lib.hid (own_move (w1 := w3.drewN nq) R.out (fun _ _ => rfl))
  rw [hw4] at A B C K R
  clear hw4 a0 a1 a2 b0 c0
  go_wp2_with fail
  have hgw : Hid (g < w4.heap.size ∧ w.heap.size < w4.heap.size ∧ w.heap.size + 1 < w4.heap.size ∧ g ≠ w.heap.size ∧ g ≠ w.heap.size + 1) := ⟨lt_of_block A, lt_of_block B, lt_of_block C, by have := HG.out; omega, by have := HG.out; omega⟩
  have hrow : Hid (∀ j, ((.slice (some ⟨r, 0, none⟩) n c) : Value).ownBlock = some j → j ≠ g ∧ j ≠ w.heap.size ∧ j ≠ w.heap.size + 1) := fun j hj => by
    have h1 := HR.out j hj
    obtain ⟨cells, h2⟩ := own_typed R.out j hj
    refine ⟨fun e => ?_, by omega, by omega⟩
    subst e
    rw [A] at h2
    injection h2 with h2
    injection h2 with _ h2
    exact absurd h2 (by decide)
  have R5 := Lib.hid (own_move (w1 := (w4.alloc (.cells #[.int .u64 h] 23 (0, 0))).drew) (R.out.alloc (.cells #[.int .u64 h] 23 (0, 0))) (fun _ _ => rfl))
  have V5 : (w4.alloc (.cells #[.int .u64 h] 23 (0, 0))).drew.heap[w4.heap.size]? = some (.cells #[.int .u64 h] 23 (0, 0)) := blk_new w4 _
  have hv5 : Hid (((.slice (some ⟨r, 0, none⟩) n c) : Value).ownBlock ≠ some w4.heap.size) := fun e => by
    have := lt_of_block (own_typed R.out _ e).choose_spec
    omega
  have HV := Lib.hid V5
  clear V5
  obtain ⟨a0, a1, a2, f1, f2⟩ := three_cells A
  have b0 := one_cell B
  have c0 := one_cell C
  have a1' := (three_cells (blk_old A (.cells #[.int .u64 h] 23 (0, 0)))).2.1
  have hne1 : ¬ w.heap.size = g := fun e => hgw.out.2.2.2.1 e.symm
  have hne2 : ¬ w.heap.size + 1 = g := fun e => hgw.out.2.2.2.2 e.symm
  go_region_held3 (fun w' => w'.cell? ⟨w.heap.size, 0, none⟩ = some (.pointer (some ⟨g, 0, none⟩)) ∧ w'.cell? ⟨w.heap.size + 1, 0, none⟩ = some (.int .u64 h))
    (first | exact ⟨k5 _, k6 _⟩ | go_keep)
    ((go_at_call 38; refine (insert_own R5.out (Nat.zero_le _) (by omega) (show n ≤ n by omega) (fun v hv => by obtain ⟨_, _, rfl⟩ := List.mem_map.1 hv; rfl) w4.heap.size h HV.out hv5.out).mono ?_; rintro e w5 hI; obtain ⟨r5, c5, rfl, hown, hgr, hloc, hc5, hc6⟩ := hI.form (m := (n + 1)) rfl; have A5 := blk_ins A hgr rfl (fun e => (hrow.out _ e).1 rfl); have B5 := blk_ins B hgr rfl (fun e => (hrow.out _ e).2.1 rfl); have C5 := blk_ins C hgr rfl (fun e => (hrow.out _ e).2.2 rfl); have f5 := (three_cells A5).2.2.2.1; have a5 := (three_cells A5).2.1; have b5 := one_cell B5; have d5 := one_cell C5; have k5 := fun u => one_cell (blk_far (b := g) (o := 1) B5 hne1 u); have k6 := fun u => one_cell (blk_far (b := g) (o := 1) C5 hne2 u)))
  all_goals
    clear a0 a1 a2 b0 c0 a1' a5 b5 d5 f5 f1 f2 k5 k6
    have hr5 : Hid (r5 ≠ g) := fun e => by
      obtain ⟨cells, h2⟩ := own_typed hown r5 rfl
      subst e
      rw [A5] at h2
      injection h2 with h2
      injection h2 with _ h2
      exact absurd h2 (by decide)
    have K6 := Lib.hid ((((Touch.of_below (F := fun j => j = g ∨ ((.slice (some ⟨r, 0, none⟩) n c) : Value).ownBlock = some j) K.out).trans (Touch.of_below (below_dr (below_al (Below.refl _ _) (.cells #[.int .u64 h] 23 (0, 0)))))).trans (Touch.grown hgr fun _ e _ => .inr e)).trans (touch_set _ g 1 (.slice (some ⟨r5, 0, none⟩) (n + 1) c5) (.inl rfl)))
    have A6 := three_set1 A5 (.slice (some ⟨r5, 0, none⟩) (n + 1) c5)
    have B6 := blk_far (b := g) (o := 1) B5 hne1 (.slice (some ⟨r5, 0, none⟩) (n + 1) c5)
    have C6 := blk_far (b := g) (o := 1) C5 hne2 (.slice (some ⟨r5, 0, none⟩) (n + 1) c5)
    have O6 := Lib.hid (own_move (w1 := w5.setCell ⟨g, 1, none⟩ (.slice (some ⟨r5, 0, none⟩) (n + 1) c5)) hown (fun j hj => by
      have e : r5 = j := by simpa [Value.ownBlock] using hj
      exact Below.heap_setCell w5 ⟨g, 1, none⟩ _ j (fun e2 => hr5.out (e.trans e2))))
    have L6 : Hid (((.slice (some ⟨r, 0, none⟩) n c) : Value).ownBlock = some r5 ∨ ∃ j, some r5 = some j ∧ w.heap.size ≤ j) := hloc.imp id (fun e => ⟨r5, rfl, by
      have h1 := K.out.size
      have h2 : r5 = w4.heap.size + 1 := by simpa using e
      omega⟩)
    clear hown hgr hloc A5 B5 C5 hne1 hne2 HV hv5 R5 hrow hgw A B C R K hr5
    generalize w5.setCell ⟨g, 1, none⟩ (.slice (some ⟨r5, 0, none⟩) (n + 1) c5) = w6 at *
    obtain ⟨a0, a1, a2, f1, f2⟩ := three_cells A6
    have b0 := one_cell B6
    have c0 := one_cell C6
    go_wp2_with fail
    go_quiet (fail)
    rename_i nq
    go_wp2_with fail
    go_ret
    exact ⟨rfl, some r5, ⟨_, blk_drewN A6 _, own_move (ins_len HN.out rfl (show n ≤ n by omega) O6.out) (fun _ _ => rfl), rfl⟩, L6.out, K6.out.trans (Touch.of_below (below_drN (Below.refl _ _) _))⟩
set_option maxRecDepth 100000 in
set_option maxHeartbeats 3200000 in
theorem put_new_nil (g : Nat) (k h : Int) (more : Bool) (xs : List Int) (w : World) (hg : w.heap[g]? = some (.cells #[.int .i64 k, (.slice none 0 0), .bool more] 47 (0, 0))) (hS : w.ownsRow 0 23 1 (.slice none 0 0) 0 (U xs)) (hn : xs.length = 0) (hl : 0 ≤ 50000) (hs : ∀ i (hi : i < xs.length), decide (h ≤ xs[i]) = decide (0 ≤ i)) (hk : 1 ≤ k) :
    Calls Try.prog 31 #[.pointer (some ⟨g, 0, none⟩), .int .u64 h] w (PutTo w g ((.slice none 0 0) : Value).ownBlock k (xs.take 0 ++ h :: xs.drop 0) more true) := by
  have HS := Lib.hid hS
  have HQ := Lib.hid hs
  have HN := Lib.hid hn

  clear hS hs hn
  go_enter Try.func31, Try.ntmps31
  have A := blk_old (blk_old hg (.cells #[.pointer (some ⟨g, 0, none⟩)] 28 (0, 0))) (.cells #[.int .u64 h] 23 (0, 0))
  have B := blk_old (blk_new w (.cells #[.pointer (some ⟨g, 0, none⟩)] 28 (0, 0))) (.cells #[.int .u64 h] 23 (0, 0))
  have C := blk_new_at (w := w.alloc (.cells #[.pointer (some ⟨g, 0, none⟩)] 28 (0, 0))) (n := w.heap.size + 1) (.cells #[.int .u64 h] 23 (0, 0)) (by simp)
  have K := Lib.hid (below_al (below_al (Below.refl w.heap.size w) (.cells #[.pointer (some ⟨g, 0, none⟩)] 28 (0, 0))) (.cells #[.int .u64 h] 23 (0, 0)))
  have R := Lib.hid ((HS.out.alloc (.cells #[.pointer (some ⟨g, 0, none⟩)] 28 (0, 0))).alloc (.cells #[.int .u64 h] 23 (0, 0)))
  have HG := Lib.hid (lt_of_block hg)
  have HR := Lib.hid HS.out.lt
  clear HS hg
  obtain ⟨a0, a1, a2, _, _⟩ := three_cells A
  have b0 := one_cell B
  go_wp2_with fail
  clear a0 a1 a2 b0
  refine (search_ok 0 0 _ _ (by omega) (by omega) fun W hW i hi => ?_).mono ?_
  · omega
  rintro e w3 ⟨rfl, hb⟩
  have A := blk_below A hb
  have B := blk_below B hb
  have C := blk_below C hb
  have K := Lib.hid (below_after K.out hb)
  have R := Lib.hid (own_later R.out hb)
  clear hb
  obtain ⟨a0, a1, a2, _, _⟩ := three_cells A
  have b0 := one_cell B
  have c0 := one_cell C

  go_wp2_with fail
  go_quiet (fail)
  rename_i nq
  generalize hw4 : w3.drewN nq = w4
  have A := blk_drewN A nq
  have B := blk_drewN B nq
  have C := blk_drewN C nq
  have K := Lib.hid (below_drN K.out nq)
  have R := Lib.hid (own_move (w1 := w3.drewN nq) R.out (fun _ _ => rfl))
  rw [hw4] at A B C K R
  clear hw4 a0 a1 a2 b0 c0
  go_wp2_with fail
  have hgw : Hid (g < w4.heap.size ∧ w.heap.size < w4.heap.size ∧ w.heap.size + 1 < w4.heap.size ∧ g ≠ w.heap.size ∧ g ≠ w.heap.size + 1) := ⟨lt_of_block A, lt_of_block B, lt_of_block C, by have := HG.out; omega, by have := HG.out; omega⟩
  have hrow : Hid (∀ j, ((.slice none 0 0) : Value).ownBlock = some j → j ≠ g ∧ j ≠ w.heap.size ∧ j ≠ w.heap.size + 1) := fun j hj => by
    have h1 := HR.out j hj
    obtain ⟨cells, h2⟩ := own_typed R.out j hj
    refine ⟨fun e => ?_, by omega, by omega⟩
    subst e
    rw [A] at h2
    injection h2 with h2
    injection h2 with _ h2
    exact absurd h2 (by decide)
  have R5 := Lib.hid (own_move (w1 := (w4.alloc (.cells #[.int .u64 h] 23 (0, 0))).drew) (R.out.alloc (.cells #[.int .u64 h] 23 (0, 0))) (fun _ _ => rfl))
  have V5 : (w4.alloc (.cells #[.int .u64 h] 23 (0, 0))).drew.heap[w4.heap.size]? = some (.cells #[.int .u64 h] 23 (0, 0)) := blk_new w4 _
  have hv5 : Hid (((.slice none 0 0) : Value).ownBlock ≠ some w4.heap.size) := fun e => by
    have := lt_of_block (own_typed R.out _ e).choose_spec
    omega
  have HV := Lib.hid V5
  clear V5
  obtain ⟨a0, a1, a2, f1, f2⟩ := three_cells A
  have b0 := one_cell B
  have c0 := one_cell C
  have a1' := (three_cells (blk_old A (.cells #[.int .u64 h] 23 (0, 0)))).2.1
  have hne1 : ¬ w.heap.size = g := fun e => hgw.out.2.2.2.1 e.symm
  have hne2 : ¬ w.heap.size + 1 = g := fun e => hgw.out.2.2.2.2 e.symm
  go_region_held3 (fun w' => w'.cell? ⟨w.heap.size, 0, none⟩ = some (.pointer (some ⟨g, 0, none⟩)) ∧ w'.cell? ⟨w.heap.size + 1, 0, none⟩ = some (.int .u64 h))
    (first | exact ⟨k5 _, k6 _⟩ | go_keep)
    ((go_at_call 38; refine (insert_own R5.out (Nat.zero_le _) (by omega) (show 0 ≤ 0 by omega) (fun v hv => by obtain ⟨_, _, rfl⟩ := List.mem_map.1 hv; rfl) w4.heap.size h HV.out hv5.out).mono ?_; rintro e w5 hI; obtain ⟨r5, c5, rfl, hown, hgr, hloc, hc5, hc6⟩ := hI.form (m := 1) rfl; have A5 := blk_ins A hgr rfl (fun e => (hrow.out _ e).1 rfl); have B5 := blk_ins B hgr rfl (fun e => (hrow.out _ e).2.1 rfl); have C5 := blk_ins C hgr rfl (fun e => (hrow.out _ e).2.2 rfl); have f5 := (three_cells A5).2.2.2.1; have a5 := (three_cells A5).2.1; have b5 := one_cell B5; have d5 := one_cell C5; have k5 := fun u => one_cell (blk_far (b := g) (o := 1) B5 hne1 u); have k6 := fun u => one_cell (blk_far (b := g) (o := 1) C5 hne2 u)))
  all_goals
    clear a0 a1 a2 b0 c0 a1' a5 b5 d5 f5 f1 f2 k5 k6
    have hr5 : Hid (r5 ≠ g) := fun e => by
      obtain ⟨cells, h2⟩ := own_typed hown r5 rfl
      subst e
      rw [A5] at h2
      injection h2 with h2
      injection h2 with _ h2
      exact absurd h2 (by decide)
    have K6 := Lib.hid ((((Touch.of_below (F := fun j => j = g ∨ ((.slice none 0 0) : Value).ownBlock = some j) K.out).trans (Touch.of_below (below_dr (below_al (Below.refl _ _) (.cells #[.int .u64 h] 23 (0, 0)))))).trans (Touch.grown hgr fun _ e _ => .inr e)).trans (touch_set _ g 1 (.slice (some ⟨r5, 0, none⟩) 1 c5) (.inl rfl)))
    have A6 := three_set1 A5 (.slice (some ⟨r5, 0, none⟩) 1 c5)
    have B6 := blk_far (b := g) (o := 1) B5 hne1 (.slice (some ⟨r5, 0, none⟩) 1 c5)
    have C6 := blk_far (b := g) (o := 1) C5 hne2 (.slice (some ⟨r5, 0, none⟩) 1 c5)
    have O6 := Lib.hid (own_move (w1 := w5.setCell ⟨g, 1, none⟩ (.slice (some ⟨r5, 0, none⟩) 1 c5)) hown (fun j hj => by
      have e : r5 = j := by simpa [Value.ownBlock] using hj
      exact Below.heap_setCell w5 ⟨g, 1, none⟩ _ j (fun e2 => hr5.out (e.trans e2))))
    have L6 : Hid (((.slice none 0 0) : Value).ownBlock = some r5 ∨ ∃ j, some r5 = some j ∧ w.heap.size ≤ j) := hloc.imp id (fun e => ⟨r5, rfl, by
      have h1 := K.out.size
      have h2 : r5 = w4.heap.size + 1 := by simpa using e
      omega⟩)
    clear hown hgr hloc A5 B5 C5 hne1 hne2 HV hv5 R5 hrow hgw A B C R K hr5
    generalize w5.setCell ⟨g, 1, none⟩ (.slice (some ⟨r5, 0, none⟩) 1 c5) = w6 at *
    obtain ⟨a0, a1, a2, f1, f2⟩ := three_cells A6
    have b0 := one_cell B6
    have c0 := one_cell C6
    go_wp2_with fail
    go_quiet (fail)
    rename_i nq
    go_wp2_with fail
    go_ret
    exact ⟨rfl, some r5, ⟨_, blk_drewN A6 _, own_move (ins_len HN.out rfl (show 0 ≤ 0 by omega) O6.out) (fun _ _ => rfl), rfl⟩, L6.out, K6.out.trans (Touch.of_below (below_drN (Below.refl _ _) _))⟩
set_option maxRecDepth 100000 in
set_option maxHeartbeats 3200000 in
theorem put_cut_mid (g r n c a : Nat) (k h : Int) (more : Bool) (xs : List Int) (w : World) (hg : w.heap[g]? = some (.cells #[.int .i64 k, (.slice (some ⟨r, 0, none⟩) n c), .bool more] 47 (0, 0))) (hS : w.ownsRow 0 23 1 (.slice (some ⟨r, 0, none⟩) n c) n (U xs)) (hn : xs.length = n) (hl : n ≤ 50000) (hs : ∀ i (hi : i < xs.length), decide (h ≤ xs[i]) = decide (a ≤ i)) (x : Int) (ha : a < n) (hx : Hid (xs[a]? = some x)) (hne : Hid (¬ x = h)) (hn1 : 1 ≤ n) (hk : k = (n : Int)) :
    Calls Try.prog 31 #[.pointer (some ⟨g, 0, none⟩), .int .u64 h] w (PutTo w g ((.slice (some ⟨r, 0, none⟩) n c) : Value).ownBlock k ((xs.take a ++ h :: xs.drop a).take n) true true) := by
  have HS := Lib.hid hS
  have HQ := Lib.hid hs
  have HN := Lib.hid hn
  have ha0 : (0 : Int) ≤ (a : Int) := by omega
  have ha1 : (a : Int) < (n : Int) := by omega
  subst hk
  clear hS hs hn
  go_enter Try.func31, Try.ntmps31
  have A := blk_old (blk_old hg (.cells #[.pointer (some ⟨g, 0, none⟩)] 28 (0, 0))) (.cells #[.int .u64 h] 23 (0, 0))
  have B := blk_old (blk_new w (.cells #[.pointer (some ⟨g, 0, none⟩)] 28 (0, 0))) (.cells #[.int .u64 h] 23 (0, 0))
  have C := blk_new_at (w := w.alloc (.cells #[.pointer (some ⟨g, 0, none⟩)] 28 (0, 0))) (n := w.heap.size + 1) (.cells #[.int .u64 h] 23 (0, 0)) (by simp)
  have K := Lib.hid (below_al (below_al (Below.refl w.heap.size w) (.cells #[.pointer (some ⟨g, 0, none⟩)] 28 (0, 0))) (.cells #[.int .u64 h] 23 (0, 0)))
  have R := Lib.hid ((HS.out.alloc (.cells #[.pointer (some ⟨g, 0, none⟩)] 28 (0, 0))).alloc (.cells #[.int .u64 h] 23 (0, 0)))
  have HG := Lib.hid (lt_of_block hg)
  have HR := Lib.hid HS.out.lt
  clear HS hg
  obtain ⟨a0, a1, a2, _, _⟩ := three_cells A
  have b0 := one_cell B
  go_wp2_with fail
  clear a0 a1 a2 b0
  refine (search_ok n a _ _ (by omega) (by omega) fun W hW i hi => ?_).mono ?_
  · have hi' : i < xs.length := by rw [HN.out]; exact hi
    rw [← HQ.out i hi']
    exact ask_ok _ _ g r n c i xs[i] h W hi (one_cell (blk_below B hW)) (one_cell (blk_below C hW)) (three_cells (blk_below A hW)).2.1 (row_cell (own_later R.out hW) hi')
  rintro e w3 ⟨rfl, hb⟩
  have A := blk_below A hb
  have B := blk_below B hb
  have C := blk_below C hb
  have K := Lib.hid (below_after K.out hb)
  have R := Lib.hid (own_later R.out hb)
  clear hb
  obtain ⟨a0, a1, a2, _, _⟩ := three_cells A
  have b0 := one_cell B
  have c0 := one_cell C
  have x0 := row_cell' R.out hx.out
  have hxh : (x == h) = false := by simpa using hne.out
  go_wp2_with fail
  go_quiet (fail)
  rename_i nq
  generalize hw4 : w3.drewN nq = w4
  have A := blk_drewN A nq
  have B := blk_drewN B nq
  have C := blk_drewN C nq
  have K := Lib.hid (below_drN K.out nq)
  have R := Lib.hid (own_move (w1 := w3.drewN nq) R.out (fun _ _ => rfl))
  rw [hw4] at A B C K R
  clear hw4 a0 a1 a2 b0 c0 x0 hxh
  go_wp2_with fail
  have hgw : Hid (g < w4.heap.size ∧ w.heap.size < w4.heap.size ∧ w.heap.size + 1 < w4.heap.size ∧ g ≠ w.heap.size ∧ g ≠ w.heap.size + 1) := ⟨lt_of_block A, lt_of_block B, lt_of_block C, by have := HG.out; omega, by have := HG.out; omega⟩
  have hrow : Hid (∀ j, ((.slice (some ⟨r, 0, none⟩) n c) : Value).ownBlock = some j → j ≠ g ∧ j ≠ w.heap.size ∧ j ≠ w.heap.size + 1) := fun j hj => by
    have h1 := HR.out j hj
    obtain ⟨cells, h2⟩ := own_typed R.out j hj
    refine ⟨fun e => ?_, by omega, by omega⟩
    subst e
    rw [A] at h2
    injection h2 with h2
    injection h2 with _ h2
    exact absurd h2 (by decide)
  have R5 := Lib.hid (own_move (w1 := (w4.alloc (.cells #[.int .u64 h] 23 (0, 0))).drew) (R.out.alloc (.cells #[.int .u64 h] 23 (0, 0))) (fun _ _ => rfl))
  have V5 : (w4.alloc (.cells #[.int .u64 h] 23 (0, 0))).drew.heap[w4.heap.size]? = some (.cells #[.int .u64 h] 23 (0, 0)) := blk_new w4 _
  have hv5 : Hid (((.slice (some ⟨r, 0, none⟩) n c) : Value).ownBlock ≠ some w4.heap.size) := fun e => by
    have := lt_of_block (own_typed R.out _ e).choose_spec
    omega
  have HV := Lib.hid V5
  clear V5
  obtain ⟨a0, a1, a2, f1, f2⟩ := three_cells A
  have b0 := one_cell B
  have c0 := one_cell C
  have a1' := (three_cells (blk_old A (.cells #[.int .u64 h] 23 (0, 0)))).2.1
  have hne1 : ¬ w.heap.size = g := fun e => hgw.out.2.2.2.1 e.symm
  have hne2 : ¬ w.heap.size + 1 = g := fun e => hgw.out.2.2.2.2 e.symm
  go_region_held3 (fun w' => w'.cell? ⟨w.heap.size, 0, none⟩ = some (.pointer (some ⟨g, 0, none⟩)) ∧ w'.cell? ⟨w.heap.size + 1, 0, none⟩ = some (.int .u64 h))
    (first | exact ⟨k5 _, k6 _⟩ | go_keep)
    ((go_at_call 38; refine (insert_own R5.out (Nat.zero_le _) (by omega) (show a ≤ n by omega) (fun v hv => by obtain ⟨_, _, rfl⟩ := List.mem_map.1 hv; rfl) w4.heap.size h HV.out hv5.out).mono ?_; rintro e w5 hI; obtain ⟨r5, c5, rfl, hown, hgr, hloc, hc5, hc6⟩ := hI.form (m := (n + 1)) rfl; have A5 := blk_ins A hgr rfl (fun e => (hrow.out _ e).1 rfl); have B5 := blk_ins B hgr rfl (fun e => (hrow.out _ e).2.1 rfl); have C5 := blk_ins C hgr rfl (fun e => (hrow.out _ e).2.2 rfl); have f5 := (three_cells A5).2.2.2.1; have a5 := (three_cells A5).2.1; have b5 := one_cell B5; have d5 := one_cell C5; have k5 := fun u => one_cell (blk_far (b := g) (o := 1) B5 hne1 u); have k6 := fun u => one_cell (blk_far (b := g) (o := 1) C5 hne2 u)))
  all_goals
    clear a0 a1 a2 b0 c0 a1' a5 b5 d5 f5 f1 f2 k5 k6
    have hr5 : Hid (r5 ≠ g) := fun e => by
      obtain ⟨cells, h2⟩ := own_typed hown r5 rfl
      subst e
      rw [A5] at h2
      injection h2 with h2
      injection h2 with _ h2
      exact absurd h2 (by decide)
    have K6 := Lib.hid ((((Touch.of_below (F := fun j => j = g ∨ ((.slice (some ⟨r, 0, none⟩) n c) : Value).ownBlock = some j) K.out).trans (Touch.of_below (below_dr (below_al (Below.refl _ _) (.cells #[.int .u64 h] 23 (0, 0)))))).trans (Touch.grown hgr fun _ e _ => .inr e)).trans (touch_set _ g 1 (.slice (some ⟨r5, 0, none⟩) (n + 1) c5) (.inl rfl)))
    have A6 := three_set1 A5 (.slice (some ⟨r5, 0, none⟩) (n + 1) c5)
    have B6 := blk_far (b := g) (o := 1) B5 hne1 (.slice (some ⟨r5, 0, none⟩) (n + 1) c5)
    have C6 := blk_far (b := g) (o := 1) C5 hne2 (.slice (some ⟨r5, 0, none⟩) (n + 1) c5)
    have O6 := Lib.hid (own_move (w1 := w5.setCell ⟨g, 1, none⟩ (.slice (some ⟨r5, 0, none⟩) (n + 1) c5)) hown (fun j hj => by
      have e : r5 = j := by simpa [Value.ownBlock] using hj
      exact Below.heap_setCell w5 ⟨g, 1, none⟩ _ j (fun e2 => hr5.out (e.trans e2))))
    have L6 : Hid (((.slice (some ⟨r, 0, none⟩) n c) : Value).ownBlock = some r5 ∨ ∃ j, some r5 = some j ∧ w.heap.size ≤ j) := hloc.imp id (fun e => ⟨r5, rfl, by
      have h1 := K.out.size
      have h2 : r5 = w4.heap.size + 1 := by simpa using e
      omega⟩)
    clear hown hgr hloc A5 B5 C5 hne1 hne2 HV hv5 R5 hrow hgw A B C R K hr5
    generalize w5.setCell ⟨g, 1, none⟩ (.slice (some ⟨r5, 0, none⟩) (n + 1) c5) = w6 at *
    obtain ⟨a0, a1, a2, f1, f2⟩ := three_cells A6
    have b0 := one_cell B6
    have c0 := one_cell C6
    go_wp2_with fail
    go_quiet (fail)
    rename_i nq
    go_wp2_with fail
    have A7 := blk_drewN A6 nq
    have B7 := blk_drewN B6 nq
    have O7 := Lib.hid (own_move (w1 := w6.drewN nq) O6.out (fun _ _ => rfl))
    have K7 := Lib.hid (K6.out.trans (Touch.of_below (below_drN (Below.refl _ _) nq)))
    have hr7 : Hid (r5 ≠ g) := fun e => by
      obtain ⟨cells, h2⟩ := own_typed O6.out r5 rfl
      subst e
      rw [A6] at h2
      injection h2 with h2
      injection h2 with _ h2
      exact absurd h2 (by decide)
    clear A6 B6 C6 O6 K6 a0 a1 a2 f1 f2 b0 c0
    generalize w6.drewN nq = w7 at *
    have hnc : n ≤ c5 := by omega
    have hnc0 : (n : Int) ≤ (c5 : Int) := by omega
    have hn00 : (0 : Int) ≤ (n : Int) := by omega
    have hbg : ¬ w.heap.size = g := fun e => by have := HG.out; omega
    have S1 := three_set1 A7 (.slice (some ⟨r5, 0, none⟩) n c5)
    have T1 := blk_far (b := g) (o := 1) B7 hbg (.slice (some ⟨r5, 0, none⟩) n c5)
    have A9 := three_set2 S1 (.bool true)
    have B9 := blk_far (b := g) (o := 2) T1 hbg (.bool true)
    have O9 := Lib.hid (own_move (w1 := (w7.setCell ⟨g, 1, none⟩ (.slice (some ⟨r5, 0, none⟩) n c5)).setCell ⟨g, 2, none⟩ (.bool true)) (own_cut O7.out) (fun j hj => by
      have e : r5 = j := by simpa [Value.ownBlock] using hj
      exact (Below.heap_setCell _ ⟨g, 2, none⟩ _ j (fun e2 => hr7.out (e.trans e2))).trans (Below.heap_setCell w7 ⟨g, 1, none⟩ _ j (fun e2 => hr7.out (e.trans e2)))))
    have K9 := Lib.hid ((K7.out.trans (touch_set _ g 1 (.slice (some ⟨r5, 0, none⟩) n c5) (.inl rfl))).trans (touch_set _ g 2 (.bool true) (.inl rfl)))
    obtain ⟨a0, a1, a2, f1, f2⟩ := three_cells A7
    have b0 := one_cell B7
    obtain ⟨p0, p1, p2, g1, g2⟩ := three_cells S1
    have q0 := one_cell T1
    obtain ⟨a3, a4, a5, _, _⟩ := three_cells A9
    have b3 := one_cell B9
    clear O7 K7 hbg A7 B7 S1 T1
    go_region_held3 (fun w' => w'.cell? ⟨w.heap.size, 0, none⟩ = some (.pointer (some ⟨g, 0, none⟩)) ∧ w'.cell? ⟨g, 0, none⟩ = some (.int .i64 n))
      (first | exact ⟨q0, p0⟩ | exact ⟨b3, a3⟩ | go_keep)
      (fail)
    all_goals
      go_wp2_with fail
      go_ret
      exact ⟨rfl, some r5, ⟨_, A9, cut_len HN.out (show a ≤ n by omega) O9.out, rfl⟩, L6.out, ⟨K9.out.os, K9.out.tape, K9.out.output, K9.out.size, K9.out.block⟩⟩
set_option maxRecDepth 100000 in
set_option maxHeartbeats 3200000 in
theorem put_cut_end (g r n c : Nat) (k h : Int) (more : Bool) (xs : List Int) (w : World) (hg : w.heap[g]? = some (.cells #[.int .i64 k, (.slice (some ⟨r, 0, none⟩) n c), .bool more] 47 (0, 0))) (hS : w.ownsRow 0 23 1 (.slice (some ⟨r, 0, none⟩) n c) n (U xs)) (hn : xs.length = n) (hl : n ≤ 50000) (hs : ∀ i (hi : i < xs.length), decide (h ≤ xs[i]) = decide (n ≤ i)) (hn1 : 1 ≤ n) (hk : k = (n : Int)) :
    Calls Try.prog 31 #[.pointer (some ⟨g, 0, none⟩), .int .u64 h] w (PutTo w g ((.slice (some ⟨r, 0, none⟩) n c) : Value).ownBlock k ((xs.take n ++ h :: xs.drop n).take n) true false) := by
  have HS := Lib.hid hS
  have HQ := Lib.hid hs
  have HN := Lib.hid hn

  subst hk
  clear hS hs hn
  go_enter Try.func31, Try.ntmps31
  have A := blk_old (blk_old hg (.cells #[.pointer (some ⟨g, 0, none⟩)] 28 (0, 0))) (.cells #[.int .u64 h] 23 (0, 0))
  have B := blk_old (blk_new w (.cells #[.pointer (some ⟨g, 0, none⟩)] 28 (0, 0))) (.cells #[.int .u64 h] 23 (0, 0))
  have C := blk_new_at (w := w.alloc (.cells #[.pointer (some ⟨g, 0, none⟩)] 28 (0, 0))) (n := w.heap.size + 1) (.cells #[.int .u64 h] 23 (0, 0)) (by simp)
  have K := Lib.hid (below_al (below_al (Below.refl w.heap.size w) (.cells #[.pointer (some ⟨g, 0, none⟩)] 28 (0, 0))) (.cells #[.int .u64 h] 23 (0, 0)))
  have R := Lib.hid ((HS.out.alloc (.cells #[.pointer (some ⟨g, 0, none⟩)] 28 (0, 0))).alloc (.cells #[.int .u64 h] 23 (0, 0)))
  have HG := Lib.hid (lt_of_block hg)
  have HR := Lib.hid HS.out.lt
  clear HS hg
  obtain ⟨a0, a1, a2, _, _⟩ := three_cells A
  have b0 := one_cell B
  go_wp2_with fail
  clear a0 a1 a2 b0
  refine (search_ok n n _ _ (by omega) (by omega) fun W hW i hi => ?_).mono ?_
  · have hi' : i < xs.length := by rw [HN.out]; exact hi
    rw [← HQ.out i hi']
    exact ask_ok _ _ g r n c i xs[i] h W hi (one_cell (blk_below B hW)) (one_cell (blk_below C hW)) (three_cells (blk_below A hW)).2.1 (row_cell (own_later R.out hW) hi')
  rintro e w3 ⟨rfl, hb⟩
  have A := blk_below A hb
  have B := blk_below B hb
  have C := blk_below C hb
  have K := Lib.hid (below_after K.out hb)
  have R := Lib.hid (own_later R.out hb)
  clear hb
  obtain ⟨a0, a1, a2, _, _⟩ := three_cells A
  have b0 := one_cell B
  have c0 := one_cell C

  go_wp2_with fail
  go_quiet (fail)
  rename_i nq
  generalize hw4 : w3.drewN nq = w4
  have A := blk_drewN A nq
  have B := blk_drewN B nq
  have C := blk_drewN C nq
  have K := Lib.hid (below_drN K.out nq)
  have R := Lib.hid (own_move (w1 := w3.drewN nq) R.out (fun _ _ => rfl))
  rw [hw4] at A B C K R
  clear hw4 a0 a1 a2 b0 c0
  go_wp2_with fail
  have hgw : Hid (g < w4.heap.size ∧ w.heap.size < w4.heap.size ∧ w.heap.size + 1 < w4.heap.size ∧ g ≠ w.heap.size ∧ g ≠ w.heap.size + 1) := ⟨lt_of_block A, lt_of_block B, lt_of_block C, by have := HG.out; omega, by have := HG.out; omega⟩
  have hrow : Hid (∀ j, ((.slice (some ⟨r, 0, none⟩) n c) : Value).ownBlock = some j → j ≠ g ∧ j ≠ w.heap.size ∧ j ≠ w.heap.size + 1) := fun j hj => by
    have h1 := HR.out j hj
    obtain ⟨cells, h2⟩ := own_typed R.out j hj
    refine ⟨fun e => ?_, by omega, by omega⟩
    subst e
    rw [A] at h2
    injection h2 with h2
    injection h2 with _ h2
    exact absurd h2 (by decide)
  have R5 := Lib.hid (own_move (w1 := (w4.alloc (.cells #[.int .u64 h] 23 (0, 0))).drew) (R.out.alloc (.cells #[.int .u64 h] 23 (0, 0))) (fun _ _ => rfl))
  have V5 : (w4.alloc (.cells #[.int .u64 h] 23 (0, 0))).drew.heap[w4.heap.size]? = some (.cells #[.int .u64 h] 23 (0, 0)) := blk_new w4 _
  have hv5 : Hid (((.slice (some ⟨r, 0, none⟩) n c) : Value).ownBlock ≠ some w4.heap.size) := fun e => by
    have := lt_of_block (own_typed R.out _ e).choose_spec
    omega
  have HV := Lib.hid V5
  clear V5
  obtain ⟨a0, a1, a2, f1, f2⟩ := three_cells A
  have b0 := one_cell B
  have c0 := one_cell C
  have a1' := (three_cells (blk_old A (.cells #[.int .u64 h] 23 (0, 0)))).2.1
  have hne1 : ¬ w.heap.size = g := fun e => hgw.out.2.2.2.1 e.symm
  have hne2 : ¬ w.heap.size + 1 = g := fun e => hgw.out.2.2.2.2 e.symm
  go_region_held3 (fun w' => w'.cell? ⟨w.heap.size, 0, none⟩ = some (.pointer (some ⟨g, 0, none⟩)) ∧ w'.cell? ⟨w.heap.size + 1, 0, none⟩ = some (.int .u64 h))
    (first | exact ⟨k5 _, k6 _⟩ | go_keep)
    ((go_at_call 38; refine (insert_own R5.out (Nat.zero_le _) (by omega) (show n ≤ n by omega) (fun v hv => by obtain ⟨_, _, rfl⟩ := List.mem_map.1 hv; rfl) w4.heap.size h HV.out hv5.out).mono ?_; rintro e w5 hI; obtain ⟨r5, c5, rfl, hown, hgr, hloc, hc5, hc6⟩ := hI.form (m := (n + 1)) rfl; have A5 := blk_ins A hgr rfl (fun e => (hrow.out _ e).1 rfl); have B5 := blk_ins B hgr rfl (fun e => (hrow.out _ e).2.1 rfl); have C5 := blk_ins C hgr rfl (fun e => (hrow.out _ e).2.2 rfl); have f5 := (three_cells A5).2.2.2.1; have a5 := (three_cells A5).2.1; have b5 := one_cell B5; have d5 := one_cell C5; have k5 := fun u => one_cell (blk_far (b := g) (o := 1) B5 hne1 u); have k6 := fun u => one_cell (blk_far (b := g) (o := 1) C5 hne2 u)))
  all_goals
    clear a0 a1 a2 b0 c0 a1' a5 b5 d5 f5 f1 f2 k5 k6
    have hr5 : Hid (r5 ≠ g) := fun e => by
      obtain ⟨cells, h2⟩ := own_typed hown r5 rfl
      subst e
      rw [A5] at h2
      injection h2 with h2
      injection h2 with _ h2
      exact absurd h2 (by decide)
    have K6 := Lib.hid ((((Touch.of_below (F := fun j => j = g ∨ ((.slice (some ⟨r, 0, none⟩) n c) : Value).ownBlock = some j) K.out).trans (Touch.of_below (below_dr (below_al (Below.refl _ _) (.cells #[.int .u64 h] 23 (0, 0)))))).trans (Touch.grown hgr fun _ e _ => .inr e)).trans (touch_set _ g 1 (.slice (some ⟨r5, 0, none⟩) (n + 1) c5) (.inl rfl)))
    have A6 := three_set1 A5 (.slice (some ⟨r5, 0, none⟩) (n + 1) c5)
    have B6 := blk_far (b := g) (o := 1) B5 hne1 (.slice (some ⟨r5, 0, none⟩) (n + 1) c5)
    have C6 := blk_far (b := g) (o := 1) C5 hne2 (.slice (some ⟨r5, 0, none⟩) (n + 1) c5)
    have O6 := Lib.hid (own_move (w1 := w5.setCell ⟨g, 1, none⟩ (.slice (some ⟨r5, 0, none⟩) (n + 1) c5)) hown (fun j hj => by
      have e : r5 = j := by simpa [Value.ownBlock] using hj
      exact Below.heap_setCell w5 ⟨g, 1, none⟩ _ j (fun e2 => hr5.out (e.trans e2))))
    have L6 : Hid (((.slice (some ⟨r, 0, none⟩) n c) : Value).ownBlock = some r5 ∨ ∃ j, some r5 = some j ∧ w.heap.size ≤ j) := hloc.imp id (fun e => ⟨r5, rfl, by
      have h1 := K.out.size
      have h2 : r5 = w4.heap.size + 1 := by simpa using e
      omega⟩)
    clear hown hgr hloc A5 B5 C5 hne1 hne2 HV hv5 R5 hrow hgw A B C R K hr5
    generalize w5.setCell ⟨g, 1, none⟩ (.slice (some ⟨r5, 0, none⟩) (n + 1) c5) = w6 at *
    obtain ⟨a0, a1, a2, f1, f2⟩ := three_cells A6
    have b0 := one_cell B6
    have c0 := one_cell C6
    go_wp2_with fail
    go_quiet (fail)
    rename_i nq
    go_wp2_with fail
    have A7 := blk_drewN A6 nq
    have B7 := blk_drewN B6 nq
    have O7 := Lib.hid (own_move (w1 := w6.drewN nq) O6.out (fun _ _ => rfl))
    have K7 := Lib.hid (K6.out.trans (Touch.of_below (below_drN (Below.refl _ _) nq)))
    have hr7 : Hid (r5 ≠ g) := fun e => by
      obtain ⟨cells, h2⟩ := own_typed O6.out r5 rfl
      subst e
      rw [A6] at h2
      injection h2 with h2
      injection h2 with _ h2
      exact absurd h2 (by decide)
    clear A6 B6 C6 O6 K6 a0 a1 a2 f1 f2 b0 c0
    generalize w6.drewN nq = w7 at *
    have hnc : n ≤ c5 := by omega
    have hnc0 : (n : Int) ≤ (c5 : Int) := by omega
    have hn00 : (0 : Int) ≤ (n : Int) := by omega
    have hbg : ¬ w.heap.size = g := fun e => by have := HG.out; omega
    have S1 := three_set1 A7 (.slice (some ⟨r5, 0, none⟩) n c5)
    have T1 := blk_far (b := g) (o := 1) B7 hbg (.slice (some ⟨r5, 0, none⟩) n c5)
    have A9 := three_set2 S1 (.bool true)
    have B9 := blk_far (b := g) (o := 2) T1 hbg (.bool true)
    have O9 := Lib.hid (own_move (w1 := (w7.setCell ⟨g, 1, none⟩ (.slice (some ⟨r5, 0, none⟩) n c5)).setCell ⟨g, 2, none⟩ (.bool true)) (own_cut O7.out) (fun j hj => by
      have e : r5 = j := by simpa [Value.ownBlock] using hj
      exact (Below.heap_setCell _ ⟨g, 2, none⟩ _ j (fun e2 => hr7.out (e.trans e2))).trans (Below.heap_setCell w7 ⟨g, 1, none⟩ _ j (fun e2 => hr7.out (e.trans e2)))))
    have K9 := Lib.hid ((K7.out.trans (touch_set _ g 1 (.slice (some ⟨r5, 0, none⟩) n c5) (.inl rfl))).trans (touch_set _ g 2 (.bool true) (.inl rfl)))
    obtain ⟨a0, a1, a2, f1, f2⟩ := three_cells A7
    have b0 := one_cell B7
    obtain ⟨p0, p1, p2, g1, g2⟩ := three_cells S1
    have q0 := one_cell T1
    obtain ⟨a3, a4, a5, _, _⟩ := three_cells A9
    have b3 := one_cell B9
    clear O7 K7 hbg A7 B7 S1 T1
    go_region_held3 (fun w' => w'.cell? ⟨w.heap.size, 0, none⟩ = some (.pointer (some ⟨g, 0, none⟩)) ∧ w'.cell? ⟨g, 0, none⟩ = some (.int .i64 n))
      (first | exact ⟨q0, p0⟩ | exact ⟨b3, a3⟩ | go_keep)
      (fail)
    all_goals
      go_wp2_with fail
      go_ret
      exact ⟨rfl, some r5, ⟨_, A9, cut_len HN.out (show n ≤ n by omega) O9.out, rfl⟩, L6.out, ⟨K9.out.os, K9.out.tape, K9.out.output, K9.out.size, K9.out.block⟩⟩
end Go.Proofs.Ytlbpdlhelkokbaa
