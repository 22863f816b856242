/- The counter's put, where the hash is new: the walk. -/
import Derived.Test.YtlbpdlhelkokbaaDL
import Derived.Test.YtlbpdlhelkokbaaFloat
namespace Go.Proofs.Ytlbpdlhelkokbaa
open Go.RowKit

theorem own_move {w w1 : World} {base : Nat} {e : TypeId} {size n : Nat} {v : Value} {xs : List Value} (h : w.ownsRow base e size v n xs) (hm : ∀ k, v.ownBlock = some k → w1.heap[k]? = w.heap[k]?) : w1.ownsRow base e size v n xs := by
  obtain ⟨h1, h2⟩ := h
  refine ⟨h1, ?_⟩
  rcases h2 with h2 | ⟨g, cap, cur, rfl, hg, hh, r⟩
  · exact .inl h2
  · exact .inr ⟨g, cap, cur, rfl, hg, (hm g (by simp [Value.ownBlock])).trans hh, r⟩
theorem own_typed {w : World} {base : Nat} {e : TypeId} {size n : Nat} {v : Value} {xs : List Value} (h : w.ownsRow base e size v n xs) (k : Nat) (hk : v.ownBlock = some k) : ∃ cells, w.heap[k]? = some (.cells cells e (0, 0)) := by
  rcases h.2 with ⟨rfl, _⟩ | ⟨g, cap, cur, rfl, hg, hh, r⟩
  · simp [Value.ownBlock] at hk
  · have : g = k := by simpa [Value.ownBlock] using hk
    subst this
    exact ⟨cur, hh⟩
theorem row_cell' {w : World} {base r n c : Nat} {xs : List Int} (h : w.ownsRow base 23 1 (.slice (some ⟨r, 0, none⟩) n c) n (U xs)) {i : Nat} {x : Int} (hi : xs[i]? = some x) : w.cell? ⟨r, i, none⟩ = some (.int .u64 x) := by
  obtain ⟨h1, rfl⟩ := List.getElem?_eq_some_iff.1 hi
  exact row_cell h h1
theorem Inserted.form {w w' : World} {base n m : Nat} {S : Value} {ys : List Value} {e : Ending} (h : Inserted w base S n ys e w') (hm : m = n + 1) : ∃ r' c', e = .returned (.slice (some ⟨r', 0, none⟩) m c') ∧
    w'.ownsRow base 23 1 (.slice (some ⟨r', 0, none⟩) m c') m ys ∧ w.grownBy w' S.ownBlock ∧ (S.ownBlock = some r' ∨ r' = w.heap.size) ∧ m ≤ c' ∧ c' ≤ 9223372036854775807 := by
  subst hm
  obtain ⟨S', rfl, hown, hgr, hloc⟩ := h
  rcases hown.2 with ⟨_, h0⟩ | ⟨r, c, cur, rfl, _, _, h1, h2, _, _⟩
  · omega
  · refine ⟨r, c, rfl, hown, hgr, ?_, h1, by unfold maxLen at h2; omega⟩
    simp only [Value.ownBlock] at hloc
    rcases hloc with h1 | h1
    · exact .inl h1.symm
    · exact .inr (by simpa using h1)
theorem blk_ins {w w0 w1 : World} {row : Option Nat} {g : Nat} {o : Obj} (h : w.heap[g]? = some o) (hg : w0.grownBy w1 row) {O : Obj} (e : w0 = (w.alloc O).drew) (hn : row ≠ some g) : w1.heap[g]? = some o := by
  subst e
  have h1 : (w.alloc O).drew.heap[g]? = some o := blk_drew (blk_old h O)
  exact (hg.block g (lt_of_block h1) (fun e => hn e.symm)).trans h1
theorem touch_set {F : Nat → Prop} (w : World) (g o : Nat) (u : Value) (h : F g) : Touch F w (w.setCell ⟨g, o, none⟩ u) :=
  ⟨rfl, rfl, rfl, by simp [World.setCell], fun k _ hk => Below.heap_setCell w ⟨g, o, none⟩ u k (fun e => hk (by rw [e]; exact h))⟩
theorem three_set1 {w : World} {g : Nat} {t : TypeId} {v0 v1 v2 : Value} (h : w.heap[g]? = some (.cells #[v0, v1, v2] t (0, 0))) (u : Value) :
    (w.setCell ⟨g, 1, none⟩ u).heap[g]? = some (.cells #[v0, u, v2] t (0, 0)) := by rw [blk_set h]; rfl

/-- THE COUNTER in memory: at block g; its row (in block r, or none) holds xs. -/
def Ctr (w : World) (g : Nat) (k : Int) (xs : List Int) (more : Bool) (r : Option Nat) : Prop :=
  ∃ S, w.heap[g]? = some (.cells #[.int .i64 k, S, .bool more] 47 (0, 0)) ∧ w.ownsRow 0 23 1 S xs.length (U xs) ∧ S.ownBlock = r
/-- what a call on a counter leaves: an answer, the counter with another row in its old block or in a new one; nothing else has turned -/
def PutTo (w : World) (g : Nat) (r : Option Nat) (k : Int) (ys : List Int) (m : Bool) (b : Bool) (e : Ending) (w' : World) : Prop :=
  e = .returned (.bool b) ∧ ∃ r', Ctr w' g k ys m r' ∧ (r = r' ∨ ∃ j, r' = some j ∧ w.heap.size ≤ j) ∧ Touch (fun j => j = g ∨ r = some j) w w'
theorem ins_len {w : World} {S : Value} {xs : List Int} {n a m : Nat} {h : Int} (hn : xs.length = n) (hm : m = n + 1) (ha : a ≤ n) (ho : w.ownsRow 0 23 1 S m ((U xs).take a ++ .int .u64 h :: (U xs).drop a)) :
    w.ownsRow 0 23 1 S (xs.take a ++ h :: xs.drop a).length (U (xs.take a ++ h :: xs.drop a)) := by
  have e1 : (xs.take a ++ h :: xs.drop a).length = n + 1 := by simp only [List.length_append, List.length_take, List.length_cons, List.length_drop]; omega
  have e2 : U (xs.take a ++ h :: xs.drop a) = (U xs).take a ++ .int .u64 h :: (U xs).drop a := by simp [U, List.map_take, List.map_drop]
  rw [e1, e2, ← hm]; exact ho
theorem three_set2 {w : World} {g : Nat} {t : TypeId} {v0 v1 v2 : Value} (h : w.heap[g]? = some (.cells #[v0, v1, v2] t (0, 0))) (u : Value) :
    (w.setCell ⟨g, 2, none⟩ u).heap[g]? = some (.cells #[v0, v1, u] t (0, 0)) := by rw [blk_set h]; rfl
theorem own_cut {w : World} {base n c : Nat} {e : TypeId} {a : Addr} {ys : List Value} (h : w.ownsRow base e 1 (.slice (some a) (n + 1) c) (n + 1) ys) : w.ownsRow base e 1 (.slice (some a) n c) n (ys.take n) := by
  obtain ⟨h1, h2⟩ := h
  refine ⟨by rw [List.length_take]; omega, ?_⟩
  rcases h2 with ⟨_, h2⟩ | ⟨g, cap, cur, hv, hg, hh, hn, hm, hs, ht⟩
  · omega
  · injection hv with hv1 hv2 hv3
    subst hv3
    refine .inr ⟨g, c, cur, by rw [hv1], hg, hh, by omega, hm, hs, ?_⟩
    rw [← ht, List.take_take]
    congr 1
    omega
theorem cut_len {w : World} {S : Value} {xs : List Int} {n a : Nat} {h : Int} (hn : xs.length = n) (ha : a ≤ n) (ho : w.ownsRow 0 23 1 S n (((U xs).take a ++ .int .u64 h :: (U xs).drop a).take n)) :
    w.ownsRow 0 23 1 S ((xs.take a ++ h :: xs.drop a).take n).length (U ((xs.take a ++ h :: xs.drop a).take n)) := by
  have e1 : ((xs.take a ++ h :: xs.drop a).take n).length = n := by simp only [List.length_append, List.length_take, List.length_cons, List.length_drop]; omega
  have e2 : U ((xs.take a ++ h :: xs.drop a).take n) = ((U xs).take a ++ .int .u64 h :: (U xs).drop a).take n := by simp [U, List.map_take, List.map_drop]
  rw [e1, e2]; exact ho
theorem blk_touch {F : Nat → Prop} {w w1 : World} {g : Nat} {o : Obj} (h : w.heap[g]? = some o) (hb : Touch F w w1) (hn : ¬ F g) : w1.heap[g]? = some o := (hb.block g (lt_of_block h) hn).trans h
/-- in x, ahead of the insertion -/
def PF (w x : World) (g : Nat) (k h : Int) (S : Value) (n : Nat) (xs : List Int) (more : Bool) : Prop :=
  x.heap[g]? = some (.cells #[.int .i64 k, S, .bool more] 47 (0, 0)) ∧ x.heap[w.heap.size]? = some (.cells #[.pointer (some ⟨g, 0, none⟩)] 28 (0, 0)) ∧
  x.heap[w.heap.size + 1]? = some (.cells #[.int .u64 h] 23 (0, 0)) ∧ x.ownsRow 0 23 1 S n (U xs) ∧ Below w.heap.size w x ∧ g < w.heap.size ∧ (∀ j, S.ownBlock = some j → j < w.heap.size)
theorem PF.later {w x y : World} {g : Nat} {k h : Int} {S : Value} {n : Nat} {xs : List Int} {more : Bool} (p : PF w x g k h S n xs more) (hb : Below x.heap.size x y) : PF w y g k h S n xs more :=
  ⟨blk_below p.1 hb, blk_below p.2.1 hb, blk_below p.2.2.1 hb, own_later p.2.2.2.1 hb, below_after p.2.2.2.2.1 hb, p.2.2.2.2.2⟩
theorem PF.touch {w x y : World} {g : Nat} {k h : Int} {S : Value} {n : Nat} {xs : List Int} {more : Bool} (p : PF w x g k h S n xs more) (hb : Touch (fun _ => False) x y) : PF w y g k h S n xs more :=
  p.later ⟨hb.os, hb.tape, hb.output, hb.size, fun j hj => hb.block j hj (fun h => h)⟩
theorem PF.cells {w x : World} {g : Nat} {k h : Int} {S : Value} {n : Nat} {xs : List Int} {more : Bool} (p : PF w x g k h S n xs more) :
    x.cell? ⟨g, 0, none⟩ = some (.int .i64 k) ∧ x.cell? ⟨g, 1, none⟩ = some S ∧ x.cell? ⟨g, 2, none⟩ = some (.bool more) ∧ x.cell? ⟨w.heap.size, 0, none⟩ = some (.pointer (some ⟨g, 0, none⟩)) ∧ x.cell? ⟨w.heap.size + 1, 0, none⟩ = some (.int .u64 h) :=
  ⟨(three_cells p.1).1, (three_cells p.1).2.1, (three_cells p.1).2.2.1, one_cell p.2.1, one_cell p.2.2.1⟩
/-- in x, behind the insertion (S is the new slice behind the store) -/
def PI (w x : World) (g : Nat) (r : Option Nat) (k : Int) (S : Value) (r5 m c5 : Nat) (ys : List Value) (more : Bool) : Prop :=
  x.heap[g]? = some (.cells #[.int .i64 k, S, .bool more] 47 (0, 0)) ∧ x.heap[w.heap.size]? = some (.cells #[.pointer (some ⟨g, 0, none⟩)] 28 (0, 0)) ∧
  x.ownsRow 0 23 1 (.slice (some ⟨r5, 0, none⟩) m c5) m ys ∧ r5 ≠ g ∧ w.heap.size ≠ g ∧ Touch (fun j => j = g ∨ r = some j) w x ∧ (r = some r5 ∨ ∃ j, some r5 = some j ∧ w.heap.size ≤ j) ∧ m ≤ c5 ∧ c5 ≤ 9223372036854775807
theorem PI.later {w x y : World} {g : Nat} {r : Option Nat} {k : Int} {S : Value} {r5 m c5 : Nat} {ys : List Value} {more : Bool} (p : PI w x g r k S r5 m c5 ys more) (hb : Below x.heap.size x y) : PI w y g r k S r5 m c5 ys more :=
  ⟨blk_below p.1 hb, blk_below p.2.1 hb, own_later p.2.2.1 hb, p.2.2.2.1, p.2.2.2.2.1, p.2.2.2.2.2.1.trans (Touch.of_below hb), p.2.2.2.2.2.2⟩
theorem PI.touch {w x y : World} {g : Nat} {r : Option Nat} {k : Int} {S : Value} {r5 m c5 : Nat} {ys : List Value} {more : Bool} (p : PI w x g r k S r5 m c5 ys more) (hb : Touch (fun _ => False) x y) : PI w y g r k S r5 m c5 ys more :=
  p.later ⟨hb.os, hb.tape, hb.output, hb.size, fun j hj => hb.block j hj (fun h => h)⟩
theorem PI.drewN {w x : World} {g : Nat} {r : Option Nat} {k : Int} {S : Value} {r5 m c5 : Nat} {ys : List Value} {more : Bool} (p : PI w x g r k S r5 m c5 ys more) (q : Nat) : PI w (x.drewN q) g r k S r5 m c5 ys more := p.later (below_drN (Below.refl _ _) q)
theorem PI.cells {w x : World} {g : Nat} {r : Option Nat} {k : Int} {S : Value} {r5 m c5 : Nat} {ys : List Value} {more : Bool} (p : PI w x g r k S r5 m c5 ys more) :
    x.cell? ⟨g, 0, none⟩ = some (.int .i64 k) ∧ x.cell? ⟨g, 1, none⟩ = some S ∧ x.cell? ⟨g, 2, none⟩ = some (.bool more) ∧ x.cell? ⟨w.heap.size, 0, none⟩ = some (.pointer (some ⟨g, 0, none⟩)) ∧ x.frozen? ⟨g, 1, none⟩ = false ∧ x.frozen? ⟨g, 2, none⟩ = false :=
  ⟨(three_cells p.1).1, (three_cells p.1).2.1, (three_cells p.1).2.2.1, one_cell p.2.1, (three_cells p.1).2.2.2.1, (three_cells p.1).2.2.2.2⟩
theorem PI.store {w x : World} {g : Nat} {r : Option Nat} {k : Int} {S : Value} {r5 m c5 : Nat} {ys : List Value} {more : Bool} (p : PI w x g r k S r5 m c5 ys more) (T : Value) : PI w (x.setCell ⟨g, 1, none⟩ T) g r k T r5 m c5 ys more := by
  obtain ⟨p1, p2, p3, p4, p5, p6, p7⟩ := p
  refine ⟨three_set1 p1 _, blk_far p2 p5 _, own_move p3 (fun j hj => ?_), p4, p5, p6.trans (touch_set _ g 1 _ (.inl rfl)), p7⟩
  have e : r5 = j := by simpa [Value.ownBlock] using hj
  exact Below.heap_setCell x ⟨g, 1, none⟩ _ j (fun e2 => p4 (e.trans e2))
theorem PI.more {w x : World} {g : Nat} {r : Option Nat} {k : Int} {S : Value} {r5 m c5 : Nat} {ys : List Value} {more : Bool} (p : PI w x g r k S r5 m c5 ys more) (b : Bool) : PI w (x.setCell ⟨g, 2, none⟩ (.bool b)) g r k S r5 m c5 ys b := by
  obtain ⟨p1, p2, p3, p4, p5, p6, p7⟩ := p
  refine ⟨three_set2 p1 _, blk_far p2 p5 _, own_move p3 (fun j hj => ?_), p4, p5, p6.trans (touch_set _ g 2 _ (.inl rfl)), p7⟩
  have e : r5 = j := by simpa [Value.ownBlock] using hj
  exact Below.heap_setCell x ⟨g, 2, none⟩ _ j (fun e2 => p4 (e.trans e2))
theorem own_cut2 {w : World} {base n c : Nat} {e : TypeId} {a : Addr} {ys : List Value} (h : w.ownsRow base e 1 (.slice (some a) (n + 1) c) (n + 1) ys) : w.ownsRow base e 1 (.slice (some a) n c) n (ys.take n) := own_cut h
theorem own_fresh {w : World} {base n : Nat} {e : TypeId} {v : Value} {xs : List Value} (h : w.ownsRow base e 1 v n xs) : v.ownBlock ≠ some w.heap.size := fun e => by have := (h.lt _ e).2; omega
theorem PF.insert {w x y : World} {g : Nat} {k h : Int} {S : Value} {n m : Nat} {xs : List Int} {more : Bool} {ys : List Value} {e : Ending} (p : PF w x g k h S n xs more) (hm : m = n + 1) (hI : Inserted x 0 S n ys e y) :
    ∃ r5 c5, e = .returned (.slice (some ⟨r5, 0, none⟩) m c5) ∧ PI w y g S.ownBlock k S r5 m c5 ys more := by
  obtain ⟨r5, c5, rfl, hown, hgr, hloc, hc5, hc6⟩ := hI.form hm
  obtain ⟨p1, p2, p3, p4, p5, p6, p7⟩ := p
  have hrow : ∀ j, S.ownBlock = some j → j ≠ g := fun j hj e => by
    obtain ⟨cells, h2⟩ := own_typed p4 j hj
    subst e
    rw [p1] at h2
    injection h2 with h2
    injection h2 with _ h2
    exact absurd h2 (by decide)
  have A5 := (hgr.block g (lt_of_block p1) (fun e => hrow g e.symm rfl)).trans p1
  have B5 := (hgr.block w.heap.size (lt_of_block p2) (fun e => by have := p7 _ e.symm; omega)).trans p2
  refine ⟨r5, c5, rfl, A5, B5, hown, fun e => ?_, by omega, (Touch.of_below p5).trans (Touch.grown hgr fun j e _ => .inr e), ?_, hc5, hc6⟩
  · obtain ⟨cells, h2⟩ := own_typed hown r5 rfl
    subst e
    rw [A5] at h2
    injection h2 with h2
    injection h2 with _ h2
    exact absurd h2 (by decide)
  · rcases hloc with h1 | h1
    · exact .inl h1
    · have := p5.size
      exact .inr ⟨r5, rfl, by omega⟩

set_option maxRecDepth 100000 in
set_option maxHeartbeats 3200000 in
theorem put_new_mid (g r n c a : Nat) (k h : Int) (more : Bool) (xs : List Int) (w : World) (hg : w.heap[g]? = some (.cells #[.int .i64 k, (.slice (some ⟨r, 0, none⟩) n c), .bool more] 47 (0, 0))) (hS : w.ownsRow 0 23 1 (.slice (some ⟨r, 0, none⟩) n c) n (U xs)) (hn : xs.length = n) (_ : n ≤ 50000) (hs : ∀ i (hi : i < xs.length), decide (h ≤ xs[i]) = decide (a ≤ i)) (x : Int) (ha : a < n) (hx : Hid (xs[a]? = some x)) (hne : Hid (¬ x = h)) (hk : (n : Int) + 1 ≤ k) :
    Calls Try.prog 31 #[.pointer (some ⟨g, 0, none⟩), .int .u64 h] w (PutTo w g ((.slice (some ⟨r, 0, none⟩) n c) : Value).ownBlock k (xs.take a ++ h :: xs.drop a) more true) := by
  have HS := Lib.hid hS
  have HQ := Lib.hid hs
  have HN := Lib.hid hn
  have ha0 : (0 : Int) ≤ (a : Int) := by omega
  have ha1 : (a : Int) < (n : Int) := by omega
  clear hS hs hn
  go_enter Try.func31, Try.ntmps31
  have A := blk_old (blk_old hg (.cells #[.pointer (some ⟨g, 0, none⟩)] 28 (0, 0))) (.cells #[.int .u64 h] 23 (0, 0))
  have B := blk_old (blk_new w (.cells #[.pointer (some ⟨g, 0, none⟩)] 28 (0, 0))) (.cells #[.int .u64 h] 23 (0, 0))
  have C := blk_new_at (w := w.alloc (.cells #[.pointer (some ⟨g, 0, none⟩)] 28 (0, 0))) (n := w.heap.size + 1) (.cells #[.int .u64 h] 23 (0, 0)) (by simp)
  have HP : Hid (PF w ((w.alloc (.cells #[.pointer (some ⟨g, 0, none⟩)] 28 (0, 0))).alloc (.cells #[.int .u64 h] 23 (0, 0))) g k h (.slice (some ⟨r, 0, none⟩) n c) n xs more) :=
    ⟨A, B, C, (HS.out.alloc _).alloc _, below_al (below_al (Below.refl w.heap.size w) _) _, lt_of_block hg, fun j hj => (HS.out.lt j hj).2⟩
  clear HS hg A B C
  obtain ⟨a0, a1, a2, b0, _⟩ := HP.out.cells
  go_wp2_with fail
  clear a0 a1 a2 b0
  refine (search_ok n a _ _ (by omega) (by omega) fun W hW i hi => ?_).mono ?_
  · have hi' : i < xs.length := by rw [HN.out]; exact hi
    rw [← HQ.out i hi']
    have HPW := HP.out.later hW
    exact ask_ok _ _ g r n c i xs[i] h W hi HPW.cells.2.2.2.1 HPW.cells.2.2.2.2 HPW.cells.2.1 (row_cell HPW.2.2.2.1 hi')
  rintro e w3 ⟨rfl, hb⟩
  have HP := Lib.hid (HP.out.later hb)
  clear hb
  obtain ⟨a0, a1, a2, b0, c0⟩ := HP.out.cells
  have x0 := row_cell' HP.out.2.2.2.1 hx.out
  have hxh : (x == h) = false := by simpa using hne.out
  go_wp2_with fail
  go_quiet (fail)
  rename_i nq
  generalize hw4 : w3.drewN nq = w4
  have HP := Lib.hid (HP.out.later (below_drN (Below.refl _ _) nq))
  rw [hw4] at HP
  clear hw4 a0 a1 a2 b0 c0 x0 hxh
  go_wp2_with fail
  refine region_keeps (F := fun _ => False) 8 [1, 2, 3, 4, 5, 6] 2 (by kernel_rfl) (by kernel_rfl) ?_ ?_
  · intro _ _ _ _ _ h; exact h
  repeat
    refine wpCalm_ex rfl ?_
    apply Exists.intro
    refine ⟨fun wq hq => ?_, ?_⟩
    · obtain ⟨a0, a1, a2, b0, c0⟩ := (HP.out.touch hq).cells
      go_simp
      first
        | rfl
        | simp
    simp only [Act.put, List.setIfInBounds_toArray, List.set_cons_zero, List.set_cons_succ]
  refine wpCalm_nil (wpT_pair 0 7 rfl rfl (by kernel_rfl) (fun wq hq KK hKK => ?_) (fun wq hq KK hKK => ?_))
  · have HP := Lib.hid (HP.out.touch hq)
    obtain ⟨a0, a1, a2, b0, c0⟩ := HP.out.cells
    go_simp
    refine hKK _ _ ⟨Touch.refl _ _, ?_⟩
    clear hKK KK hq a0 a1 a2 b0 c0
    refine wpT_one 7 rfl (by kernel_rfl) fun wp hp KK hKK => ?_
    have HP := Lib.hid (HP.out.touch hp)
    go_simp
    refine hKK _ _ (Touch.of_below (below_al (Below.refl _ _) _)) ?_
    clear hKK KK hp
    have HF := Lib.hid (own_fresh HP.out.2.2.2.1)
    refine wpT_tail (by kernel_rfl) fun wr hr => ?_
    have HV := Lib.hid (blk_touch (blk_new wp (.cells #[.int .u64 h] 23 (0, 0))) hr (fun h => h))
    have HP := Lib.hid ((HP.out.later (below_al (Below.refl _ _) (.cells #[.int .u64 h] 23 (0, 0)))).touch hr)
    generalize wp.heap.size = vb at *
    clear hr
    have HP5 := HP
    clear HP
    go_wp2_with (go_at_call 38; refine (insert_own HP5.out.2.2.2.1 (Nat.zero_le _) (by omega) (show a ≤ n by omega) (fun v hv => by obtain ⟨_, _, rfl⟩ := List.mem_map.1 hv; rfl) vb h HV.out HF.out).mono ?_; intro e w5 hI; obtain ⟨r5, c5, rfl, hi⟩ := HP5.out.insert (m := (n + 1)) rfl hI; have HI := Lib.hid hi; clear hI hi HP5 HF HV; obtain ⟨a0, a1, a2, b0, f1, f2⟩ := HI.out.cells)
    clear a0 a1 a2 b0 f1 f2
    have HI := Lib.hid (HI.out.store (.slice (some ⟨r5, 0, none⟩) (n + 1) c5))
    generalize w5.setCell ⟨g, 1, none⟩ (.slice (some ⟨r5, 0, none⟩) (n + 1) c5) = w6 at *
    obtain ⟨a0, a1, a2, b0, f1, f2⟩ := HI.out.cells
    go_quiet (fail)
    rename_i nq
    have HI := Lib.hid (HI.out.drewN nq)
    generalize w6.drewN nq = w7 at *
    clear a0 a1 a2 b0 f1 f2
    obtain ⟨a0, a1, a2, b0, f1, f2⟩ := HI.out.cells
    go_wp2_with fail
    go_ret
    exact ⟨rfl, some r5, ⟨_, HI.out.1, ins_len HN.out rfl (show a ≤ n by omega) HI.out.2.2.1, rfl⟩, HI.out.2.2.2.2.2.2.1, HI.out.2.2.2.2.2.1⟩
  · have HP := Lib.hid (HP.out.touch hq)
    go_simp
    refine hKK _ _ ⟨Touch.of_below (below_al (Below.refl _ _) _), ?_⟩
    clear hKK KK hq
    refine wpT_late 0 8 rfl rfl (by kernel_rfl) (fun wp hp KK hKK => ?_) (fun wp hp KK hKK => ?_)
    · have HP2 := Lib.hid ((HP.out.later (below_al (Below.refl _ _) (.cells #[.int .u64 h] 23 (0, 0)))).touch hp)
      have HF := Lib.hid (own_fresh HP.out.2.2.2.1)
      have HV := Lib.hid (blk_touch (blk_new wq (.cells #[.int .u64 h] 23 (0, 0))) hp (fun h => h))
      clear HP
      generalize wq.heap.size = vb at *
      obtain ⟨a0, a1, a2, b0, c0⟩ := HP2.out.cells
      go_simp
      refine hKK _ _ ⟨Touch.refl _ _, ?_⟩
      clear hKK KK hp a0 a1 a2 b0 c0
      refine wpT_tail (by kernel_rfl) fun wr hr => ?_
      have HP := Lib.hid (HP2.out.touch hr)
      have HV := Lib.hid (blk_touch HV.out hr (fun h => h))
      clear HP2 hr
      have HP5 := HP
      clear HP
      go_wp2_with (go_at_call 38; refine (insert_own HP5.out.2.2.2.1 (Nat.zero_le _) (by omega) (show a ≤ n by omega) (fun v hv => by obtain ⟨_, _, rfl⟩ := List.mem_map.1 hv; rfl) vb h HV.out HF.out).mono ?_; intro e w5 hI; obtain ⟨r5, c5, rfl, hi⟩ := HP5.out.insert (m := (n + 1)) rfl hI; have HI := Lib.hid hi; clear hI hi HP5 HF HV; obtain ⟨a0, a1, a2, b0, f1, f2⟩ := HI.out.cells)
      clear a0 a1 a2 b0 f1 f2
      have HI := Lib.hid (HI.out.store (.slice (some ⟨r5, 0, none⟩) (n + 1) c5))
      generalize w5.setCell ⟨g, 1, none⟩ (.slice (some ⟨r5, 0, none⟩) (n + 1) c5) = w6 at *
      obtain ⟨a0, a1, a2, b0, f1, f2⟩ := HI.out.cells
      go_quiet (fail)
      rename_i nq
      have HI := Lib.hid (HI.out.drewN nq)
      generalize w6.drewN nq = w7 at *
      clear a0 a1 a2 b0 f1 f2
      obtain ⟨a0, a1, a2, b0, f1, f2⟩ := HI.out.cells
      go_wp2_with fail
      go_ret
      exact ⟨rfl, some r5, ⟨_, HI.out.1, ins_len HN.out rfl (show a ≤ n by omega) HI.out.2.2.1, rfl⟩, HI.out.2.2.2.2.2.2.1, HI.out.2.2.2.2.2.1⟩
    · have HP2 := Lib.hid ((HP.out.later (below_al (Below.refl _ _) (.cells #[.int .u64 h] 23 (0, 0)))).touch hp)
      have HF := Lib.hid (own_fresh HP.out.2.2.2.1)
      have HV := Lib.hid (blk_touch (blk_new wq (.cells #[.int .u64 h] 23 (0, 0))) hp (fun h => h))
      clear HP
      generalize wq.heap.size = vb at *
      go_simp
      refine (insert_own HP2.out.2.2.2.1 (Nat.zero_le _) (by omega) (show a ≤ n by omega) (fun v hv => by obtain ⟨_, _, rfl⟩ := List.mem_map.1 hv; rfl) vb h HV.out HF.out).mono ?_
      intro e w5 hI
      obtain ⟨r5, c5, rfl, hi⟩ := HP2.out.insert (m := (n + 1)) rfl hI
      have HI := Lib.hid hi
      clear hI hi HP2 HF HV hp
      obtain ⟨a0, a1, a2, b0, f1, f2⟩ := HI.out.cells
      refine hKK _ _ (any_one 0 rfl (by kernel_rfl) fun KK hKK => ?_)
      go_simp
      refine hKK _ _ ?_
      clear hKK KK
      refine any_tail (n := 9) (by kernel_rfl) ?_
      go_wp2_with fail
      clear a0 a1 a2 b0 f1 f2
      have HI := Lib.hid (HI.out.store (.slice (some ⟨r5, 0, none⟩) (n + 1) c5))
      generalize w5.setCell ⟨g, 1, none⟩ (.slice (some ⟨r5, 0, none⟩) (n + 1) c5) = w6 at *
      obtain ⟨a0, a1, a2, b0, f1, f2⟩ := HI.out.cells
      go_quiet (fail)
      rename_i nq
      have HI := Lib.hid (HI.out.drewN nq)
      generalize w6.drewN nq = w7 at *
      clear a0 a1 a2 b0 f1 f2
      obtain ⟨a0, a1, a2, b0, f1, f2⟩ := HI.out.cells
      go_wp2_with fail
      go_ret
      exact ⟨rfl, some r5, ⟨_, HI.out.1, ins_len HN.out rfl (show a ≤ n by omega) HI.out.2.2.1, rfl⟩, HI.out.2.2.2.2.2.2.1, HI.out.2.2.2.2.2.1⟩
set_option maxRecDepth 100000 in
set_option maxHeartbeats 3200000 in
theorem put_new_end (g r n c : Nat) (k h : Int) (more : Bool) (xs : List Int) (w : World) (hg : w.heap[g]? = some (.cells #[.int .i64 k, (.slice (some ⟨r, 0, none⟩) n c), .bool more] 47 (0, 0))) (hS : w.ownsRow 0 23 1 (.slice (some ⟨r, 0, none⟩) n c) n (U xs)) (hn : xs.length = n) (_ : n ≤ 50000) (hs : ∀ i (hi : i < xs.length), decide (h ≤ xs[i]) = decide (n ≤ i)) (hk : (n : Int) + 1 ≤ k) :
    Calls Try.prog 31 #[.pointer (some ⟨g, 0, none⟩), .int .u64 h] w (PutTo w g ((.slice (some ⟨r, 0, none⟩) n c) : Value).ownBlock k (xs.take n ++ h :: xs.drop n) more true) := by
  have HS := Lib.hid hS
  have HQ := Lib.hid hs
  have HN := Lib.hid hn

  clear hS hs hn
  go_enter Try.func31, Try.ntmps31
  have A := blk_old (blk_old hg (.cells #[.pointer (some ⟨g, 0, none⟩)] 28 (0, 0))) (.cells #[.int .u64 h] 23 (0, 0))
  have B := blk_old (blk_new w (.cells #[.pointer (some ⟨g, 0, none⟩)] 28 (0, 0))) (.cells #[.int .u64 h] 23 (0, 0))
  have C := blk_new_at (w := w.alloc (.cells #[.pointer (some ⟨g, 0, none⟩)] 28 (0, 0))) (n := w.heap.size + 1) (.cells #[.int .u64 h] 23 (0, 0)) (by simp)
  have HP : Hid (PF w ((w.alloc (.cells #[.pointer (some ⟨g, 0, none⟩)] 28 (0, 0))).alloc (.cells #[.int .u64 h] 23 (0, 0))) g k h (.slice (some ⟨r, 0, none⟩) n c) n xs more) :=
    ⟨A, B, C, (HS.out.alloc _).alloc _, below_al (below_al (Below.refl w.heap.size w) _) _, lt_of_block hg, fun j hj => (HS.out.lt j hj).2⟩
  clear HS hg A B C
  obtain ⟨a0, a1, a2, b0, _⟩ := HP.out.cells
  go_wp2_with fail
  clear a0 a1 a2 b0
  refine (search_ok n n _ _ (by omega) (by omega) fun W hW i hi => ?_).mono ?_
  · have hi' : i < xs.length := by rw [HN.out]; exact hi
    rw [← HQ.out i hi']
    have HPW := HP.out.later hW
    exact ask_ok _ _ g r n c i xs[i] h W hi HPW.cells.2.2.2.1 HPW.cells.2.2.2.2 HPW.cells.2.1 (row_cell HPW.2.2.2.1 hi')
  rintro e w3 ⟨rfl, hb⟩
  have HP := Lib.hid (HP.out.later hb)
  clear hb
  obtain ⟨a0, a1, a2, b0, c0⟩ := HP.out.cells

  go_wp2_with fail
  go_quiet (fail)
  rename_i nq
  generalize hw4 : w3.drewN nq = w4
  have HP := Lib.hid (HP.out.later (below_drN (Below.refl _ _) nq))
  rw [hw4] at HP
  clear hw4 a0 a1 a2 b0 c0
  go_wp2_with fail
  refine region_keeps (F := fun _ => False) 8 [1, 2, 3, 4, 5, 6] 2 (by kernel_rfl) (by kernel_rfl) ?_ ?_
  · intro _ _ _ _ _ h; exact h
  repeat
    refine wpCalm_ex rfl ?_
    apply Exists.intro
    refine ⟨fun wq hq => ?_, ?_⟩
    · obtain ⟨a0, a1, a2, b0, c0⟩ := (HP.out.touch hq).cells
      go_simp
      first
        | rfl
        | simp
    simp only [Act.put, List.setIfInBounds_toArray, List.set_cons_zero, List.set_cons_succ]
  refine wpCalm_nil (wpT_pair 0 7 rfl rfl (by kernel_rfl) (fun wq hq KK hKK => ?_) (fun wq hq KK hKK => ?_))
  · have HP := Lib.hid (HP.out.touch hq)
    obtain ⟨a0, a1, a2, b0, c0⟩ := HP.out.cells
    go_simp
    refine hKK _ _ ⟨Touch.refl _ _, ?_⟩
    clear hKK KK hq a0 a1 a2 b0 c0
    refine wpT_one 7 rfl (by kernel_rfl) fun wp hp KK hKK => ?_
    have HP := Lib.hid (HP.out.touch hp)
    go_simp
    refine hKK _ _ (Touch.of_below (below_al (Below.refl _ _) _)) ?_
    clear hKK KK hp
    have HF := Lib.hid (own_fresh HP.out.2.2.2.1)
    refine wpT_tail (by kernel_rfl) fun wr hr => ?_
    have HV := Lib.hid (blk_touch (blk_new wp (.cells #[.int .u64 h] 23 (0, 0))) hr (fun h => h))
    have HP := Lib.hid ((HP.out.later (below_al (Below.refl _ _) (.cells #[.int .u64 h] 23 (0, 0)))).touch hr)
    generalize wp.heap.size = vb at *
    clear hr
    have HP5 := HP
    clear HP
    go_wp2_with (go_at_call 38; refine (insert_own HP5.out.2.2.2.1 (Nat.zero_le _) (by omega) (show n ≤ n by omega) (fun v hv => by obtain ⟨_, _, rfl⟩ := List.mem_map.1 hv; rfl) vb h HV.out HF.out).mono ?_; intro e w5 hI; obtain ⟨r5, c5, rfl, hi⟩ := HP5.out.insert (m := (n + 1)) rfl hI; have HI := Lib.hid hi; clear hI hi HP5 HF HV; obtain ⟨a0, a1, a2, b0, f1, f2⟩ := HI.out.cells)
    clear a0 a1 a2 b0 f1 f2
    have HI := Lib.hid (HI.out.store (.slice (some ⟨r5, 0, none⟩) (n + 1) c5))
    generalize w5.setCell ⟨g, 1, none⟩ (.slice (some ⟨r5, 0, none⟩) (n + 1) c5) = w6 at *
    obtain ⟨a0, a1, a2, b0, f1, f2⟩ := HI.out.cells
    go_quiet (fail)
    rename_i nq
    have HI := Lib.hid (HI.out.drewN nq)
    generalize w6.drewN nq = w7 at *
    clear a0 a1 a2 b0 f1 f2
    obtain ⟨a0, a1, a2, b0, f1, f2⟩ := HI.out.cells
    go_wp2_with fail
    go_ret
    exact ⟨rfl, some r5, ⟨_, HI.out.1, ins_len HN.out rfl (show n ≤ n by omega) HI.out.2.2.1, rfl⟩, HI.out.2.2.2.2.2.2.1, HI.out.2.2.2.2.2.1⟩
  · have HP := Lib.hid (HP.out.touch hq)
    go_simp
    refine hKK _ _ ⟨Touch.of_below (below_al (Below.refl _ _) _), ?_⟩
    clear hKK KK hq
    refine wpT_late 0 8 rfl rfl (by kernel_rfl) (fun wp hp KK hKK => ?_) (fun wp hp KK hKK => ?_)
    · have HP2 := Lib.hid ((HP.out.later (below_al (Below.refl _ _) (.cells #[.int .u64 h] 23 (0, 0)))).touch hp)
      have HF := Lib.hid (own_fresh HP.out.2.2.2.1)
      have HV := Lib.hid (blk_touch (blk_new wq (.cells #[.int .u64 h] 23 (0, 0))) hp (fun h => h))
      clear HP
      generalize wq.heap.size = vb at *
      obtain ⟨a0, a1, a2, b0, c0⟩ := HP2.out.cells
      go_simp
      refine hKK _ _ ⟨Touch.refl _ _, ?_⟩
      clear hKK KK hp a0 a1 a2 b0 c0
      refine wpT_tail (by kernel_rfl) fun wr hr => ?_
      have HP := Lib.hid (HP2.out.touch hr)
      have HV := Lib.hid (blk_touch HV.out hr (fun h => h))
      clear HP2 hr
      have HP5 := HP
      clear HP
      go_wp2_with (go_at_call 38; refine (insert_own HP5.out.2.2.2.1 (Nat.zero_le _) (by omega) (show n ≤ n by omega) (fun v hv => by obtain ⟨_, _, rfl⟩ := List.mem_map.1 hv; rfl) vb h HV.out HF.out).mono ?_; intro e w5 hI; obtain ⟨r5, c5, rfl, hi⟩ := HP5.out.insert (m := (n + 1)) rfl hI; have HI := Lib.hid hi; clear hI hi HP5 HF HV; obtain ⟨a0, a1, a2, b0, f1, f2⟩ := HI.out.cells)
      clear a0 a1 a2 b0 f1 f2
      have HI := Lib.hid (HI.out.store (.slice (some ⟨r5, 0, none⟩) (n + 1) c5))
      generalize w5.setCell ⟨g, 1, none⟩ (.slice (some ⟨r5, 0, none⟩) (n + 1) c5) = w6 at *
      obtain ⟨a0, a1, a2, b0, f1, f2⟩ := HI.out.cells
      go_quiet (fail)
      rename_i nq
      have HI := Lib.hid (HI.out.drewN nq)
      generalize w6.drewN nq = w7 at *
      clear a0 a1 a2 b0 f1 f2
      obtain ⟨a0, a1, a2, b0, f1, f2⟩ := HI.out.cells
      go_wp2_with fail
      go_ret
      exact ⟨rfl, some r5, ⟨_, HI.out.1, ins_len HN.out rfl (show n ≤ n by omega) HI.out.2.2.1, rfl⟩, HI.out.2.2.2.2.2.2.1, HI.out.2.2.2.2.2.1⟩
    · have HP2 := Lib.hid ((HP.out.later (below_al (Below.refl _ _) (.cells #[.int .u64 h] 23 (0, 0)))).touch hp)
      have HF := Lib.hid (own_fresh HP.out.2.2.2.1)
      have HV := Lib.hid (blk_touch (blk_new wq (.cells #[.int .u64 h] 23 (0, 0))) hp (fun h => h))
      clear HP
      generalize wq.heap.size = vb at *
      go_simp
      refine (insert_own HP2.out.2.2.2.1 (Nat.zero_le _) (by omega) (show n ≤ n by omega) (fun v hv => by obtain ⟨_, _, rfl⟩ := List.mem_map.1 hv; rfl) vb h HV.out HF.out).mono ?_
      intro e w5 hI
      obtain ⟨r5, c5, rfl, hi⟩ := HP2.out.insert (m := (n + 1)) rfl hI
      have HI := Lib.hid hi
      clear hI hi HP2 HF HV hp
      obtain ⟨a0, a1, a2, b0, f1, f2⟩ := HI.out.cells
      refine hKK _ _ (any_one 0 rfl (by kernel_rfl) fun KK hKK => ?_)
      go_simp
      refine hKK _ _ ?_
      clear hKK KK
      refine any_tail (n := 9) (by kernel_rfl) ?_
      go_wp2_with fail
      clear a0 a1 a2 b0 f1 f2
      have HI := Lib.hid (HI.out.store (.slice (some ⟨r5, 0, none⟩) (n + 1) c5))
      generalize w5.setCell ⟨g, 1, none⟩ (.slice (some ⟨r5, 0, none⟩) (n + 1) c5) = w6 at *
      obtain ⟨a0, a1, a2, b0, f1, f2⟩ := HI.out.cells
      go_quiet (fail)
      rename_i nq
      have HI := Lib.hid (HI.out.drewN nq)
      generalize w6.drewN nq = w7 at *
      clear a0 a1 a2 b0 f1 f2
      obtain ⟨a0, a1, a2, b0, f1, f2⟩ := HI.out.cells
      go_wp2_with fail
      go_ret
      exact ⟨rfl, some r5, ⟨_, HI.out.1, ins_len HN.out rfl (show n ≤ n by omega) HI.out.2.2.1, rfl⟩, HI.out.2.2.2.2.2.2.1, HI.out.2.2.2.2.2.1⟩
set_option maxRecDepth 100000 in
set_option maxHeartbeats 3200000 in
theorem put_new_nil (g : Nat) (k h : Int) (more : Bool) (xs : List Int) (w : World) (hg : w.heap[g]? = some (.cells #[.int .i64 k, (.slice none 0 0), .bool more] 47 (0, 0))) (hS : w.ownsRow 0 23 1 (.slice none 0 0) 0 (U xs)) (hn : xs.length = 0) (_ : 0 ≤ 50000) (hs : ∀ i (hi : i < xs.length), decide (h ≤ xs[i]) = decide (0 ≤ i)) (hk : 1 ≤ k) :
    Calls Try.prog 31 #[.pointer (some ⟨g, 0, none⟩), .int .u64 h] w (PutTo w g ((.slice none 0 0) : Value).ownBlock k (xs.take 0 ++ h :: xs.drop 0) more true) := by
  have HS := Lib.hid hS
  have HQ := Lib.hid hs
  have HN := Lib.hid hn

  clear hS hs hn
  go_enter Try.func31, Try.ntmps31
  have A := blk_old (blk_old hg (.cells #[.pointer (some ⟨g, 0, none⟩)] 28 (0, 0))) (.cells #[.int .u64 h] 23 (0, 0))
  have B := blk_old (blk_new w (.cells #[.pointer (some ⟨g, 0, none⟩)] 28 (0, 0))) (.cells #[.int .u64 h] 23 (0, 0))
  have C := blk_new_at (w := w.alloc (.cells #[.pointer (some ⟨g, 0, none⟩)] 28 (0, 0))) (n := w.heap.size + 1) (.cells #[.int .u64 h] 23 (0, 0)) (by simp)
  have HP : Hid (PF w ((w.alloc (.cells #[.pointer (some ⟨g, 0, none⟩)] 28 (0, 0))).alloc (.cells #[.int .u64 h] 23 (0, 0))) g k h (.slice none 0 0) 0 xs more) :=
    ⟨A, B, C, (HS.out.alloc _).alloc _, below_al (below_al (Below.refl w.heap.size w) _) _, lt_of_block hg, fun j hj => (HS.out.lt j hj).2⟩
  clear HS hg A B C
  obtain ⟨a0, a1, a2, b0, _⟩ := HP.out.cells
  go_wp2_with fail
  clear a0 a1 a2 b0
  refine (search_ok 0 0 _ _ (by omega) (by omega) fun W hW i hi => ?_).mono ?_
  · omega
  rintro e w3 ⟨rfl, hb⟩
  have HP := Lib.hid (HP.out.later hb)
  clear hb
  obtain ⟨a0, a1, a2, b0, c0⟩ := HP.out.cells

  go_wp2_with fail
  go_quiet (fail)
  rename_i nq
  generalize hw4 : w3.drewN nq = w4
  have HP := Lib.hid (HP.out.later (below_drN (Below.refl _ _) nq))
  rw [hw4] at HP
  clear hw4 a0 a1 a2 b0 c0
  go_wp2_with fail
  refine region_keeps (F := fun _ => False) 8 [1, 2, 3, 4, 5, 6] 2 (by kernel_rfl) (by kernel_rfl) ?_ ?_
  · intro _ _ _ _ _ h; exact h
  repeat
    refine wpCalm_ex rfl ?_
    apply Exists.intro
    refine ⟨fun wq hq => ?_, ?_⟩
    · obtain ⟨a0, a1, a2, b0, c0⟩ := (HP.out.touch hq).cells
      go_simp
      first
        | rfl
        | simp
    simp only [Act.put, List.setIfInBounds_toArray, List.set_cons_zero, List.set_cons_succ]
  refine wpCalm_nil (wpT_pair 0 7 rfl rfl (by kernel_rfl) (fun wq hq KK hKK => ?_) (fun wq hq KK hKK => ?_))
  · have HP := Lib.hid (HP.out.touch hq)
    obtain ⟨a0, a1, a2, b0, c0⟩ := HP.out.cells
    go_simp
    refine hKK _ _ ⟨Touch.refl _ _, ?_⟩
    clear hKK KK hq a0 a1 a2 b0 c0
    refine wpT_one 7 rfl (by kernel_rfl) fun wp hp KK hKK => ?_
    have HP := Lib.hid (HP.out.touch hp)
    go_simp
    refine hKK _ _ (Touch.of_below (below_al (Below.refl _ _) _)) ?_
    clear hKK KK hp
    have HF := Lib.hid (own_fresh HP.out.2.2.2.1)
    refine wpT_tail (by kernel_rfl) fun wr hr => ?_
    have HV := Lib.hid (blk_touch (blk_new wp (.cells #[.int .u64 h] 23 (0, 0))) hr (fun h => h))
    have HP := Lib.hid ((HP.out.later (below_al (Below.refl _ _) (.cells #[.int .u64 h] 23 (0, 0)))).touch hr)
    generalize wp.heap.size = vb at *
    clear hr
    have HP5 := HP
    clear HP
    go_wp2_with (go_at_call 38; refine (insert_own HP5.out.2.2.2.1 (Nat.zero_le _) (by omega) (show 0 ≤ 0 by omega) (fun v hv => by obtain ⟨_, _, rfl⟩ := List.mem_map.1 hv; rfl) vb h HV.out HF.out).mono ?_; intro e w5 hI; obtain ⟨r5, c5, rfl, hi⟩ := HP5.out.insert (m := 1) rfl hI; have HI := Lib.hid hi; clear hI hi HP5 HF HV; obtain ⟨a0, a1, a2, b0, f1, f2⟩ := HI.out.cells)
    clear a0 a1 a2 b0 f1 f2
    have HI := Lib.hid (HI.out.store (.slice (some ⟨r5, 0, none⟩) 1 c5))
    generalize w5.setCell ⟨g, 1, none⟩ (.slice (some ⟨r5, 0, none⟩) 1 c5) = w6 at *
    obtain ⟨a0, a1, a2, b0, f1, f2⟩ := HI.out.cells
    go_quiet (fail)
    rename_i nq
    have HI := Lib.hid (HI.out.drewN nq)
    generalize w6.drewN nq = w7 at *
    clear a0 a1 a2 b0 f1 f2
    obtain ⟨a0, a1, a2, b0, f1, f2⟩ := HI.out.cells
    go_wp2_with fail
    go_ret
    exact ⟨rfl, some r5, ⟨_, HI.out.1, ins_len HN.out rfl (show 0 ≤ 0 by omega) HI.out.2.2.1, rfl⟩, HI.out.2.2.2.2.2.2.1, HI.out.2.2.2.2.2.1⟩
  · have HP := Lib.hid (HP.out.touch hq)
    go_simp
    refine hKK _ _ ⟨Touch.of_below (below_al (Below.refl _ _) _), ?_⟩
    clear hKK KK hq
    refine wpT_late 0 8 rfl rfl (by kernel_rfl) (fun wp hp KK hKK => ?_) (fun wp hp KK hKK => ?_)
    · have HP2 := Lib.hid ((HP.out.later (below_al (Below.refl _ _) (.cells #[.int .u64 h] 23 (0, 0)))).touch hp)
      have HF := Lib.hid (own_fresh HP.out.2.2.2.1)
      have HV := Lib.hid (blk_touch (blk_new wq (.cells #[.int .u64 h] 23 (0, 0))) hp (fun h => h))
      clear HP
      generalize wq.heap.size = vb at *
      obtain ⟨a0, a1, a2, b0, c0⟩ := HP2.out.cells
      go_simp
      refine hKK _ _ ⟨Touch.refl _ _, ?_⟩
      clear hKK KK hp a0 a1 a2 b0 c0
      refine wpT_tail (by kernel_rfl) fun wr hr => ?_
      have HP := Lib.hid (HP2.out.touch hr)
      have HV := Lib.hid (blk_touch HV.out hr (fun h => h))
      clear HP2 hr
      have HP5 := HP
      clear HP
      go_wp2_with (go_at_call 38; refine (insert_own HP5.out.2.2.2.1 (Nat.zero_le _) (by omega) (show 0 ≤ 0 by omega) (fun v hv => by obtain ⟨_, _, rfl⟩ := List.mem_map.1 hv; rfl) vb h HV.out HF.out).mono ?_; intro e w5 hI; obtain ⟨r5, c5, rfl, hi⟩ := HP5.out.insert (m := 1) rfl hI; have HI := Lib.hid hi; clear hI hi HP5 HF HV; obtain ⟨a0, a1, a2, b0, f1, f2⟩ := HI.out.cells)
      clear a0 a1 a2 b0 f1 f2
      have HI := Lib.hid (HI.out.store (.slice (some ⟨r5, 0, none⟩) 1 c5))
      generalize w5.setCell ⟨g, 1, none⟩ (.slice (some ⟨r5, 0, none⟩) 1 c5) = w6 at *
      obtain ⟨a0, a1, a2, b0, f1, f2⟩ := HI.out.cells
      go_quiet (fail)
      rename_i nq
      have HI := Lib.hid (HI.out.drewN nq)
      generalize w6.drewN nq = w7 at *
      clear a0 a1 a2 b0 f1 f2
      obtain ⟨a0, a1, a2, b0, f1, f2⟩ := HI.out.cells
      go_wp2_with fail
      go_ret
      exact ⟨rfl, some r5, ⟨_, HI.out.1, ins_len HN.out rfl (show 0 ≤ 0 by omega) HI.out.2.2.1, rfl⟩, HI.out.2.2.2.2.2.2.1, HI.out.2.2.2.2.2.1⟩
    · have HP2 := Lib.hid ((HP.out.later (below_al (Below.refl _ _) (.cells #[.int .u64 h] 23 (0, 0)))).touch hp)
      have HF := Lib.hid (own_fresh HP.out.2.2.2.1)
      have HV := Lib.hid (blk_touch (blk_new wq (.cells #[.int .u64 h] 23 (0, 0))) hp (fun h => h))
      clear HP
      generalize wq.heap.size = vb at *
      go_simp
      refine (insert_own HP2.out.2.2.2.1 (Nat.zero_le _) (by omega) (show 0 ≤ 0 by omega) (fun v hv => by obtain ⟨_, _, rfl⟩ := List.mem_map.1 hv; rfl) vb h HV.out HF.out).mono ?_
      intro e w5 hI
      obtain ⟨r5, c5, rfl, hi⟩ := HP2.out.insert (m := 1) rfl hI
      have HI := Lib.hid hi
      clear hI hi HP2 HF HV hp
      obtain ⟨a0, a1, a2, b0, f1, f2⟩ := HI.out.cells
      refine hKK _ _ (any_one 0 rfl (by kernel_rfl) fun KK hKK => ?_)
      go_simp
      refine hKK _ _ ?_
      clear hKK KK
      refine any_tail (n := 9) (by kernel_rfl) ?_
      go_wp2_with fail
      clear a0 a1 a2 b0 f1 f2
      have HI := Lib.hid (HI.out.store (.slice (some ⟨r5, 0, none⟩) 1 c5))
      generalize w5.setCell ⟨g, 1, none⟩ (.slice (some ⟨r5, 0, none⟩) 1 c5) = w6 at *
      obtain ⟨a0, a1, a2, b0, f1, f2⟩ := HI.out.cells
      go_quiet (fail)
      rename_i nq
      have HI := Lib.hid (HI.out.drewN nq)
      generalize w6.drewN nq = w7 at *
      clear a0 a1 a2 b0 f1 f2
      obtain ⟨a0, a1, a2, b0, f1, f2⟩ := HI.out.cells
      go_wp2_with fail
      go_ret
      exact ⟨rfl, some r5, ⟨_, HI.out.1, ins_len HN.out rfl (show 0 ≤ 0 by omega) HI.out.2.2.1, rfl⟩, HI.out.2.2.2.2.2.2.1, HI.out.2.2.2.2.2.1⟩
set_option maxRecDepth 100000 in
set_option maxHeartbeats 3200000 in
theorem put_cut_mid (g r n c a : Nat) (k h : Int) (more : Bool) (xs : List Int) (w : World) (hg : w.heap[g]? = some (.cells #[.int .i64 k, (.slice (some ⟨r, 0, none⟩) n c), .bool more] 47 (0, 0))) (hS : w.ownsRow 0 23 1 (.slice (some ⟨r, 0, none⟩) n c) n (U xs)) (hn : xs.length = n) (_ : n ≤ 50000) (hs : ∀ i (hi : i < xs.length), decide (h ≤ xs[i]) = decide (a ≤ i)) (x : Int) (ha : a < n) (hx : Hid (xs[a]? = some x)) (hne : Hid (¬ x = h)) (hn1 : 1 ≤ n) (hk : k = (n : Int)) :
    Calls Try.prog 31 #[.pointer (some ⟨g, 0, none⟩), .int .u64 h] w (PutTo w g ((.slice (some ⟨r, 0, none⟩) n c) : Value).ownBlock k ((xs.take a ++ h :: xs.drop a).take n) true true) := by
  have HS := Lib.hid hS
  have HQ := Lib.hid hs
  have HN := Lib.hid hn
  have ha0 : (0 : Int) ≤ (a : Int) := by omega
  have ha1 : (a : Int) < (n : Int) := by omega
  subst hk
  clear hS hs hn
  go_enter Try.func31, Try.ntmps31
  have A := blk_old (blk_old hg (.cells #[.pointer (some ⟨g, 0, none⟩)] 28 (0, 0))) (.cells #[.int .u64 h] 23 (0, 0))
  have B := blk_old (blk_new w (.cells #[.pointer (some ⟨g, 0, none⟩)] 28 (0, 0))) (.cells #[.int .u64 h] 23 (0, 0))
  have C := blk_new_at (w := w.alloc (.cells #[.pointer (some ⟨g, 0, none⟩)] 28 (0, 0))) (n := w.heap.size + 1) (.cells #[.int .u64 h] 23 (0, 0)) (by simp)
  have HP : Hid (PF w ((w.alloc (.cells #[.pointer (some ⟨g, 0, none⟩)] 28 (0, 0))).alloc (.cells #[.int .u64 h] 23 (0, 0))) g (n : Int) h (.slice (some ⟨r, 0, none⟩) n c) n xs more) :=
    ⟨A, B, C, (HS.out.alloc _).alloc _, below_al (below_al (Below.refl w.heap.size w) _) _, lt_of_block hg, fun j hj => (HS.out.lt j hj).2⟩
  clear HS hg A B C
  obtain ⟨a0, a1, a2, b0, _⟩ := HP.out.cells
  go_wp2_with fail
  clear a0 a1 a2 b0
  refine (search_ok n a _ _ (by omega) (by omega) fun W hW i hi => ?_).mono ?_
  · have hi' : i < xs.length := by rw [HN.out]; exact hi
    rw [← HQ.out i hi']
    have HPW := HP.out.later hW
    exact ask_ok _ _ g r n c i xs[i] h W hi HPW.cells.2.2.2.1 HPW.cells.2.2.2.2 HPW.cells.2.1 (row_cell HPW.2.2.2.1 hi')
  rintro e w3 ⟨rfl, hb⟩
  have HP := Lib.hid (HP.out.later hb)
  clear hb
  obtain ⟨a0, a1, a2, b0, c0⟩ := HP.out.cells
  have x0 := row_cell' HP.out.2.2.2.1 hx.out
  have hxh : (x == h) = false := by simpa using hne.out
  go_wp2_with fail
  go_quiet (fail)
  rename_i nq
  generalize hw4 : w3.drewN nq = w4
  have HP := Lib.hid (HP.out.later (below_drN (Below.refl _ _) nq))
  rw [hw4] at HP
  clear hw4 a0 a1 a2 b0 c0 x0 hxh
  go_wp2_with fail
  refine region_keeps (F := fun _ => False) 8 [1, 2, 3, 4, 5, 6] 2 (by kernel_rfl) (by kernel_rfl) ?_ ?_
  · intro _ _ _ _ _ h; exact h
  repeat
    refine wpCalm_ex rfl ?_
    apply Exists.intro
    refine ⟨fun wq hq => ?_, ?_⟩
    · obtain ⟨a0, a1, a2, b0, c0⟩ := (HP.out.touch hq).cells
      go_simp
      first
        | rfl
        | simp
    simp only [Act.put, List.setIfInBounds_toArray, List.set_cons_zero, List.set_cons_succ]
  refine wpCalm_nil (wpT_pair 0 7 rfl rfl (by kernel_rfl) (fun wq hq KK hKK => ?_) (fun wq hq KK hKK => ?_))
  · have HP := Lib.hid (HP.out.touch hq)
    obtain ⟨a0, a1, a2, b0, c0⟩ := HP.out.cells
    go_simp
    refine hKK _ _ ⟨Touch.refl _ _, ?_⟩
    clear hKK KK hq a0 a1 a2 b0 c0
    refine wpT_one 7 rfl (by kernel_rfl) fun wp hp KK hKK => ?_
    have HP := Lib.hid (HP.out.touch hp)
    go_simp
    refine hKK _ _ (Touch.of_below (below_al (Below.refl _ _) _)) ?_
    clear hKK KK hp
    have HF := Lib.hid (own_fresh HP.out.2.2.2.1)
    refine wpT_tail (by kernel_rfl) fun wr hr => ?_
    have HV := Lib.hid (blk_touch (blk_new wp (.cells #[.int .u64 h] 23 (0, 0))) hr (fun h => h))
    have HP := Lib.hid ((HP.out.later (below_al (Below.refl _ _) (.cells #[.int .u64 h] 23 (0, 0)))).touch hr)
    generalize wp.heap.size = vb at *
    clear hr
    have HP5 := HP
    clear HP
    go_wp2_with (go_at_call 38; refine (insert_own HP5.out.2.2.2.1 (Nat.zero_le _) (by omega) (show a ≤ n by omega) (fun v hv => by obtain ⟨_, _, rfl⟩ := List.mem_map.1 hv; rfl) vb h HV.out HF.out).mono ?_; intro e w5 hI; obtain ⟨r5, c5, rfl, hi⟩ := HP5.out.insert (m := (n + 1)) rfl hI; have HI := Lib.hid hi; clear hI hi HP5 HF HV; obtain ⟨a0, a1, a2, b0, f1, f2⟩ := HI.out.cells)
    clear a0 a1 a2 b0 f1 f2
    have HI := Lib.hid (HI.out.store (.slice (some ⟨r5, 0, none⟩) (n + 1) c5))
    generalize w5.setCell ⟨g, 1, none⟩ (.slice (some ⟨r5, 0, none⟩) (n + 1) c5) = w6 at *
    obtain ⟨a0, a1, a2, b0, f1, f2⟩ := HI.out.cells
    go_quiet (fail)
    rename_i nq
    have HI := Lib.hid (HI.out.drewN nq)
    generalize w6.drewN nq = w7 at *
    clear a0 a1 a2 b0 f1 f2
    obtain ⟨a0, a1, a2, b0, f1, f2⟩ := HI.out.cells
    go_wp2_with fail
    clear a0 a1 a2 b0 f1 f2
    have hnc : n ≤ c5 := by have := HI.out.2.2.2.2.2.2.2.1; omega
    have hnc0 : (n : Int) ≤ (c5 : Int) := by omega
    have hn00 : (0 : Int) ≤ (n : Int) := by omega
    have hwg : Hid (w.heap.size ≠ g) := HI.out.2.2.2.2.1
    refine region_keeps (F := fun _ => False) 11 [0, 2, 3, 4, 5, 6, 7, 8, 9, 10] 1 (by kernel_rfl) (by kernel_rfl) ?_ ?_
    · intro _ _ _ _ _ h; exact h
    repeat
      refine wpCalm_ex rfl ?_
      apply Exists.intro
      refine ⟨fun wq hq => ?_, ?_⟩
      · obtain ⟨a0, a1, a2, b0, f1, f2⟩ := (HI.out.touch hq).cells
        go_simp
        first
          | rfl
          | simp
      simp only [Act.put, List.setIfInBounds_toArray, List.set_cons_zero, List.set_cons_succ]
    refine wpCalm_nil (wpT_late 1 11 rfl rfl (by kernel_rfl) (fun w8 h8 KK hKK => ?_) (fun w8 h8 KK hKK => ?_))
    · have HI := Lib.hid (HI.out.touch h8)
      obtain ⟨a0, a1, a2, b0, f1, f2⟩ := HI.out.cells
      go_simp
      refine hKK _ _ ⟨Touch.refl _ _, ?_⟩
      clear hKK KK h8 a0 a1 a2 b0 f1 f2
      refine wpT_tail (by kernel_rfl) fun w9 h9 => ?_
      have HI := Lib.hid (HI.out.touch h9)
      clear h9
      obtain ⟨a0, a1, a2, b0, f1, f2⟩ := HI.out.cells
      have HI := Lib.hid ((HI.out.store (.slice (some ⟨r5, 0, none⟩) n c5)).more true)
      obtain ⟨p0, p1, p2, q0, _, _⟩ := HI.out.cells
      go_wp2_with fail
      go_ret
      exact ⟨rfl, some r5, ⟨_, HI.out.1, cut_len HN.out (show a ≤ n by omega) (own_cut2 HI.out.2.2.1), rfl⟩, HI.out.2.2.2.2.2.2.1, HI.out.2.2.2.2.2.1⟩
    · have HI := Lib.hid (HI.out.touch h8)
      obtain ⟨a0, a1, a2, b0, f1, f2⟩ := HI.out.cells
      go_simp
      refine hKK _ _ (any_two 1 12 rfl rfl (by kernel_rfl) (fun KK hKK => ?_) (fun KK hKK => ?_))
      · go_simp
        refine hKK _ _ (any_tail (n := 12) (by kernel_rfl) ?_)
        have HI := Lib.hid ((HI.out.store (.slice (some ⟨r5, 0, none⟩) n c5)).more true)
        obtain ⟨p0, p1, p2, q0, _, _⟩ := HI.out.cells
        go_wp2_with fail
        go_ret
        exact ⟨rfl, some r5, ⟨_, HI.out.1, cut_len HN.out (show a ≤ n by omega) (own_cut2 HI.out.2.2.1), rfl⟩, HI.out.2.2.2.2.2.2.1, HI.out.2.2.2.2.2.1⟩
      · go_simp
        refine hKK _ _ (any_two 1 13 rfl rfl (by kernel_rfl) (fun KK hKK => ?_) (fun KK hKK => ?_))
        · go_simp
          refine hKK _ _ (any_tail (n := 13) (by kernel_rfl) ?_)
          have HI := Lib.hid ((HI.out.store (.slice (some ⟨r5, 0, none⟩) n c5)).more true)
          obtain ⟨p0, p1, p2, q0, _, _⟩ := HI.out.cells
          go_wp2_with fail
          go_ret
          exact ⟨rfl, some r5, ⟨_, HI.out.1, cut_len HN.out (show a ≤ n by omega) (own_cut2 HI.out.2.2.1), rfl⟩, HI.out.2.2.2.2.2.2.1, HI.out.2.2.2.2.2.1⟩
        · go_simp
          have HI := Lib.hid (HI.out.store (.slice (some ⟨r5, 0, none⟩) n c5))
          clear a0 a1 a2 b0 f1 f2
          obtain ⟨a0, a1, a2, b0, f1, f2⟩ := HI.out.cells
          refine hKK _ _ (any_one 1 rfl (by kernel_rfl) fun KK hKK => ?_)
          go_simp
          refine hKK _ _ (any_tail (n := 14) (by kernel_rfl) ?_)
          have HI := Lib.hid (HI.out.more true)
          obtain ⟨p0, p1, p2, q0, _, _⟩ := HI.out.cells
          go_wp2_with fail
          go_ret
          exact ⟨rfl, some r5, ⟨_, HI.out.1, cut_len HN.out (show a ≤ n by omega) (own_cut2 HI.out.2.2.1), rfl⟩, HI.out.2.2.2.2.2.2.1, HI.out.2.2.2.2.2.1⟩
  · have HP := Lib.hid (HP.out.touch hq)
    go_simp
    refine hKK _ _ ⟨Touch.of_below (below_al (Below.refl _ _) _), ?_⟩
    clear hKK KK hq
    refine wpT_late 0 8 rfl rfl (by kernel_rfl) (fun wp hp KK hKK => ?_) (fun wp hp KK hKK => ?_)
    · have HP2 := Lib.hid ((HP.out.later (below_al (Below.refl _ _) (.cells #[.int .u64 h] 23 (0, 0)))).touch hp)
      have HF := Lib.hid (own_fresh HP.out.2.2.2.1)
      have HV := Lib.hid (blk_touch (blk_new wq (.cells #[.int .u64 h] 23 (0, 0))) hp (fun h => h))
      clear HP
      generalize wq.heap.size = vb at *
      obtain ⟨a0, a1, a2, b0, c0⟩ := HP2.out.cells
      go_simp
      refine hKK _ _ ⟨Touch.refl _ _, ?_⟩
      clear hKK KK hp a0 a1 a2 b0 c0
      refine wpT_tail (by kernel_rfl) fun wr hr => ?_
      have HP := Lib.hid (HP2.out.touch hr)
      have HV := Lib.hid (blk_touch HV.out hr (fun h => h))
      clear HP2 hr
      have HP5 := HP
      clear HP
      go_wp2_with (go_at_call 38; refine (insert_own HP5.out.2.2.2.1 (Nat.zero_le _) (by omega) (show a ≤ n by omega) (fun v hv => by obtain ⟨_, _, rfl⟩ := List.mem_map.1 hv; rfl) vb h HV.out HF.out).mono ?_; intro e w5 hI; obtain ⟨r5, c5, rfl, hi⟩ := HP5.out.insert (m := (n + 1)) rfl hI; have HI := Lib.hid hi; clear hI hi HP5 HF HV; obtain ⟨a0, a1, a2, b0, f1, f2⟩ := HI.out.cells)
      clear a0 a1 a2 b0 f1 f2
      have HI := Lib.hid (HI.out.store (.slice (some ⟨r5, 0, none⟩) (n + 1) c5))
      generalize w5.setCell ⟨g, 1, none⟩ (.slice (some ⟨r5, 0, none⟩) (n + 1) c5) = w6 at *
      obtain ⟨a0, a1, a2, b0, f1, f2⟩ := HI.out.cells
      go_quiet (fail)
      rename_i nq
      have HI := Lib.hid (HI.out.drewN nq)
      generalize w6.drewN nq = w7 at *
      clear a0 a1 a2 b0 f1 f2
      obtain ⟨a0, a1, a2, b0, f1, f2⟩ := HI.out.cells
      go_wp2_with fail
      clear a0 a1 a2 b0 f1 f2
      have hnc : n ≤ c5 := by have := HI.out.2.2.2.2.2.2.2.1; omega
      have hnc0 : (n : Int) ≤ (c5 : Int) := by omega
      have hn00 : (0 : Int) ≤ (n : Int) := by omega
      have hwg : Hid (w.heap.size ≠ g) := HI.out.2.2.2.2.1
      refine region_keeps (F := fun _ => False) 11 [0, 2, 3, 4, 5, 6, 7, 8, 9, 10] 1 (by kernel_rfl) (by kernel_rfl) ?_ ?_
      · intro _ _ _ _ _ h; exact h
      repeat
        refine wpCalm_ex rfl ?_
        apply Exists.intro
        refine ⟨fun wq hq => ?_, ?_⟩
        · obtain ⟨a0, a1, a2, b0, f1, f2⟩ := (HI.out.touch hq).cells
          go_simp
          first
            | rfl
            | simp
        simp only [Act.put, List.setIfInBounds_toArray, List.set_cons_zero, List.set_cons_succ]
      refine wpCalm_nil (wpT_late 1 11 rfl rfl (by kernel_rfl) (fun w8 h8 KK hKK => ?_) (fun w8 h8 KK hKK => ?_))
      · have HI := Lib.hid (HI.out.touch h8)
        obtain ⟨a0, a1, a2, b0, f1, f2⟩ := HI.out.cells
        go_simp
        refine hKK _ _ ⟨Touch.refl _ _, ?_⟩
        clear hKK KK h8 a0 a1 a2 b0 f1 f2
        refine wpT_tail (by kernel_rfl) fun w9 h9 => ?_
        have HI := Lib.hid (HI.out.touch h9)
        clear h9
        obtain ⟨a0, a1, a2, b0, f1, f2⟩ := HI.out.cells
        have HI := Lib.hid ((HI.out.store (.slice (some ⟨r5, 0, none⟩) n c5)).more true)
        obtain ⟨p0, p1, p2, q0, _, _⟩ := HI.out.cells
        go_wp2_with fail
        go_ret
        exact ⟨rfl, some r5, ⟨_, HI.out.1, cut_len HN.out (show a ≤ n by omega) (own_cut2 HI.out.2.2.1), rfl⟩, HI.out.2.2.2.2.2.2.1, HI.out.2.2.2.2.2.1⟩
      · have HI := Lib.hid (HI.out.touch h8)
        obtain ⟨a0, a1, a2, b0, f1, f2⟩ := HI.out.cells
        go_simp
        refine hKK _ _ (any_two 1 12 rfl rfl (by kernel_rfl) (fun KK hKK => ?_) (fun KK hKK => ?_))
        · go_simp
          refine hKK _ _ (any_tail (n := 12) (by kernel_rfl) ?_)
          have HI := Lib.hid ((HI.out.store (.slice (some ⟨r5, 0, none⟩) n c5)).more true)
          obtain ⟨p0, p1, p2, q0, _, _⟩ := HI.out.cells
          go_wp2_with fail
          go_ret
          exact ⟨rfl, some r5, ⟨_, HI.out.1, cut_len HN.out (show a ≤ n by omega) (own_cut2 HI.out.2.2.1), rfl⟩, HI.out.2.2.2.2.2.2.1, HI.out.2.2.2.2.2.1⟩
        · go_simp
          refine hKK _ _ (any_two 1 13 rfl rfl (by kernel_rfl) (fun KK hKK => ?_) (fun KK hKK => ?_))
          · go_simp
            refine hKK _ _ (any_tail (n := 13) (by kernel_rfl) ?_)
            have HI := Lib.hid ((HI.out.store (.slice (some ⟨r5, 0, none⟩) n c5)).more true)
            obtain ⟨p0, p1, p2, q0, _, _⟩ := HI.out.cells
            go_wp2_with fail
            go_ret
            exact ⟨rfl, some r5, ⟨_, HI.out.1, cut_len HN.out (show a ≤ n by omega) (own_cut2 HI.out.2.2.1), rfl⟩, HI.out.2.2.2.2.2.2.1, HI.out.2.2.2.2.2.1⟩
          · go_simp
            have HI := Lib.hid (HI.out.store (.slice (some ⟨r5, 0, none⟩) n c5))
            clear a0 a1 a2 b0 f1 f2
            obtain ⟨a0, a1, a2, b0, f1, f2⟩ := HI.out.cells
            refine hKK _ _ (any_one 1 rfl (by kernel_rfl) fun KK hKK => ?_)
            go_simp
            refine hKK _ _ (any_tail (n := 14) (by kernel_rfl) ?_)
            have HI := Lib.hid (HI.out.more true)
            obtain ⟨p0, p1, p2, q0, _, _⟩ := HI.out.cells
            go_wp2_with fail
            go_ret
            exact ⟨rfl, some r5, ⟨_, HI.out.1, cut_len HN.out (show a ≤ n by omega) (own_cut2 HI.out.2.2.1), rfl⟩, HI.out.2.2.2.2.2.2.1, HI.out.2.2.2.2.2.1⟩
    · have HP2 := Lib.hid ((HP.out.later (below_al (Below.refl _ _) (.cells #[.int .u64 h] 23 (0, 0)))).touch hp)
      have HF := Lib.hid (own_fresh HP.out.2.2.2.1)
      have HV := Lib.hid (blk_touch (blk_new wq (.cells #[.int .u64 h] 23 (0, 0))) hp (fun h => h))
      clear HP
      generalize wq.heap.size = vb at *
      go_simp
      refine (insert_own HP2.out.2.2.2.1 (Nat.zero_le _) (by omega) (show a ≤ n by omega) (fun v hv => by obtain ⟨_, _, rfl⟩ := List.mem_map.1 hv; rfl) vb h HV.out HF.out).mono ?_
      intro e w5 hI
      obtain ⟨r5, c5, rfl, hi⟩ := HP2.out.insert (m := (n + 1)) rfl hI
      have HI := Lib.hid hi
      clear hI hi HP2 HF HV hp
      obtain ⟨a0, a1, a2, b0, f1, f2⟩ := HI.out.cells
      refine hKK _ _ (any_one 0 rfl (by kernel_rfl) fun KK hKK => ?_)
      go_simp
      refine hKK _ _ ?_
      clear hKK KK
      refine any_tail (n := 9) (by kernel_rfl) ?_
      go_wp2_with fail
      clear a0 a1 a2 b0 f1 f2
      have HI := Lib.hid (HI.out.store (.slice (some ⟨r5, 0, none⟩) (n + 1) c5))
      generalize w5.setCell ⟨g, 1, none⟩ (.slice (some ⟨r5, 0, none⟩) (n + 1) c5) = w6 at *
      obtain ⟨a0, a1, a2, b0, f1, f2⟩ := HI.out.cells
      go_quiet (fail)
      rename_i nq
      have HI := Lib.hid (HI.out.drewN nq)
      generalize w6.drewN nq = w7 at *
      clear a0 a1 a2 b0 f1 f2
      obtain ⟨a0, a1, a2, b0, f1, f2⟩ := HI.out.cells
      go_wp2_with fail
      clear a0 a1 a2 b0 f1 f2
      have hnc : n ≤ c5 := by have := HI.out.2.2.2.2.2.2.2.1; omega
      have hnc0 : (n : Int) ≤ (c5 : Int) := by omega
      have hn00 : (0 : Int) ≤ (n : Int) := by omega
      have hwg : Hid (w.heap.size ≠ g) := HI.out.2.2.2.2.1
      refine region_keeps (F := fun _ => False) 11 [0, 2, 3, 4, 5, 6, 7, 8, 9, 10] 1 (by kernel_rfl) (by kernel_rfl) ?_ ?_
      · intro _ _ _ _ _ h; exact h
      repeat
        refine wpCalm_ex rfl ?_
        apply Exists.intro
        refine ⟨fun wq hq => ?_, ?_⟩
        · obtain ⟨a0, a1, a2, b0, f1, f2⟩ := (HI.out.touch hq).cells
          go_simp
          first
            | rfl
            | simp
        simp only [Act.put, List.setIfInBounds_toArray, List.set_cons_zero, List.set_cons_succ]
      refine wpCalm_nil (wpT_late 1 11 rfl rfl (by kernel_rfl) (fun w8 h8 KK hKK => ?_) (fun w8 h8 KK hKK => ?_))
      · have HI := Lib.hid (HI.out.touch h8)
        obtain ⟨a0, a1, a2, b0, f1, f2⟩ := HI.out.cells
        go_simp
        refine hKK _ _ ⟨Touch.refl _ _, ?_⟩
        clear hKK KK h8 a0 a1 a2 b0 f1 f2
        refine wpT_tail (by kernel_rfl) fun w9 h9 => ?_
        have HI := Lib.hid (HI.out.touch h9)
        clear h9
        obtain ⟨a0, a1, a2, b0, f1, f2⟩ := HI.out.cells
        have HI := Lib.hid ((HI.out.store (.slice (some ⟨r5, 0, none⟩) n c5)).more true)
        obtain ⟨p0, p1, p2, q0, _, _⟩ := HI.out.cells
        go_wp2_with fail
        go_ret
        exact ⟨rfl, some r5, ⟨_, HI.out.1, cut_len HN.out (show a ≤ n by omega) (own_cut2 HI.out.2.2.1), rfl⟩, HI.out.2.2.2.2.2.2.1, HI.out.2.2.2.2.2.1⟩
      · have HI := Lib.hid (HI.out.touch h8)
        obtain ⟨a0, a1, a2, b0, f1, f2⟩ := HI.out.cells
        go_simp
        refine hKK _ _ (any_two 1 12 rfl rfl (by kernel_rfl) (fun KK hKK => ?_) (fun KK hKK => ?_))
        · go_simp
          refine hKK _ _ (any_tail (n := 12) (by kernel_rfl) ?_)
          have HI := Lib.hid ((HI.out.store (.slice (some ⟨r5, 0, none⟩) n c5)).more true)
          obtain ⟨p0, p1, p2, q0, _, _⟩ := HI.out.cells
          go_wp2_with fail
          go_ret
          exact ⟨rfl, some r5, ⟨_, HI.out.1, cut_len HN.out (show a ≤ n by omega) (own_cut2 HI.out.2.2.1), rfl⟩, HI.out.2.2.2.2.2.2.1, HI.out.2.2.2.2.2.1⟩
        · go_simp
          refine hKK _ _ (any_two 1 13 rfl rfl (by kernel_rfl) (fun KK hKK => ?_) (fun KK hKK => ?_))
          · go_simp
            refine hKK _ _ (any_tail (n := 13) (by kernel_rfl) ?_)
            have HI := Lib.hid ((HI.out.store (.slice (some ⟨r5, 0, none⟩) n c5)).more true)
            obtain ⟨p0, p1, p2, q0, _, _⟩ := HI.out.cells
            go_wp2_with fail
            go_ret
            exact ⟨rfl, some r5, ⟨_, HI.out.1, cut_len HN.out (show a ≤ n by omega) (own_cut2 HI.out.2.2.1), rfl⟩, HI.out.2.2.2.2.2.2.1, HI.out.2.2.2.2.2.1⟩
          · go_simp
            have HI := Lib.hid (HI.out.store (.slice (some ⟨r5, 0, none⟩) n c5))
            clear a0 a1 a2 b0 f1 f2
            obtain ⟨a0, a1, a2, b0, f1, f2⟩ := HI.out.cells
            refine hKK _ _ (any_one 1 rfl (by kernel_rfl) fun KK hKK => ?_)
            go_simp
            refine hKK _ _ (any_tail (n := 14) (by kernel_rfl) ?_)
            have HI := Lib.hid (HI.out.more true)
            obtain ⟨p0, p1, p2, q0, _, _⟩ := HI.out.cells
            go_wp2_with fail
            go_ret
            exact ⟨rfl, some r5, ⟨_, HI.out.1, cut_len HN.out (show a ≤ n by omega) (own_cut2 HI.out.2.2.1), rfl⟩, HI.out.2.2.2.2.2.2.1, HI.out.2.2.2.2.2.1⟩
set_option maxRecDepth 100000 in
set_option maxHeartbeats 3200000 in
theorem put_cut_end (g r n c : Nat) (k h : Int) (more : Bool) (xs : List Int) (w : World) (hg : w.heap[g]? = some (.cells #[.int .i64 k, (.slice (some ⟨r, 0, none⟩) n c), .bool more] 47 (0, 0))) (hS : w.ownsRow 0 23 1 (.slice (some ⟨r, 0, none⟩) n c) n (U xs)) (hn : xs.length = n) (_ : n ≤ 50000) (hs : ∀ i (hi : i < xs.length), decide (h ≤ xs[i]) = decide (n ≤ i)) (hn1 : 1 ≤ n) (hk : k = (n : Int)) :
    Calls Try.prog 31 #[.pointer (some ⟨g, 0, none⟩), .int .u64 h] w (PutTo w g ((.slice (some ⟨r, 0, none⟩) n c) : Value).ownBlock k ((xs.take n ++ h :: xs.drop n).take n) true false) := by
  have HS := Lib.hid hS
  have HQ := Lib.hid hs
  have HN := Lib.hid hn

  subst hk
  clear hS hs hn
  go_enter Try.func31, Try.ntmps31
  have A := blk_old (blk_old hg (.cells #[.pointer (some ⟨g, 0, none⟩)] 28 (0, 0))) (.cells #[.int .u64 h] 23 (0, 0))
  have B := blk_old (blk_new w (.cells #[.pointer (some ⟨g, 0, none⟩)] 28 (0, 0))) (.cells #[.int .u64 h] 23 (0, 0))
  have C := blk_new_at (w := w.alloc (.cells #[.pointer (some ⟨g, 0, none⟩)] 28 (0, 0))) (n := w.heap.size + 1) (.cells #[.int .u64 h] 23 (0, 0)) (by simp)
  have HP : Hid (PF w ((w.alloc (.cells #[.pointer (some ⟨g, 0, none⟩)] 28 (0, 0))).alloc (.cells #[.int .u64 h] 23 (0, 0))) g (n : Int) h (.slice (some ⟨r, 0, none⟩) n c) n xs more) :=
    ⟨A, B, C, (HS.out.alloc _).alloc _, below_al (below_al (Below.refl w.heap.size w) _) _, lt_of_block hg, fun j hj => (HS.out.lt j hj).2⟩
  clear HS hg A B C
  obtain ⟨a0, a1, a2, b0, _⟩ := HP.out.cells
  go_wp2_with fail
  clear a0 a1 a2 b0
  refine (search_ok n n _ _ (by omega) (by omega) fun W hW i hi => ?_).mono ?_
  · have hi' : i < xs.length := by rw [HN.out]; exact hi
    rw [← HQ.out i hi']
    have HPW := HP.out.later hW
    exact ask_ok _ _ g r n c i xs[i] h W hi HPW.cells.2.2.2.1 HPW.cells.2.2.2.2 HPW.cells.2.1 (row_cell HPW.2.2.2.1 hi')
  rintro e w3 ⟨rfl, hb⟩
  have HP := Lib.hid (HP.out.later hb)
  clear hb
  obtain ⟨a0, a1, a2, b0, c0⟩ := HP.out.cells

  go_wp2_with fail
  go_quiet (fail)
  rename_i nq
  generalize hw4 : w3.drewN nq = w4
  have HP := Lib.hid (HP.out.later (below_drN (Below.refl _ _) nq))
  rw [hw4] at HP
  clear hw4 a0 a1 a2 b0 c0
  go_wp2_with fail
  refine region_keeps (F := fun _ => False) 8 [1, 2, 3, 4, 5, 6] 2 (by kernel_rfl) (by kernel_rfl) ?_ ?_
  · intro _ _ _ _ _ h; exact h
  repeat
    refine wpCalm_ex rfl ?_
    apply Exists.intro
    refine ⟨fun wq hq => ?_, ?_⟩
    · obtain ⟨a0, a1, a2, b0, c0⟩ := (HP.out.touch hq).cells
      go_simp
      first
        | rfl
        | simp
    simp only [Act.put, List.setIfInBounds_toArray, List.set_cons_zero, List.set_cons_succ]
  refine wpCalm_nil (wpT_pair 0 7 rfl rfl (by kernel_rfl) (fun wq hq KK hKK => ?_) (fun wq hq KK hKK => ?_))
  · have HP := Lib.hid (HP.out.touch hq)
    obtain ⟨a0, a1, a2, b0, c0⟩ := HP.out.cells
    go_simp
    refine hKK _ _ ⟨Touch.refl _ _, ?_⟩
    clear hKK KK hq a0 a1 a2 b0 c0
    refine wpT_one 7 rfl (by kernel_rfl) fun wp hp KK hKK => ?_
    have HP := Lib.hid (HP.out.touch hp)
    go_simp
    refine hKK _ _ (Touch.of_below (below_al (Below.refl _ _) _)) ?_
    clear hKK KK hp
    have HF := Lib.hid (own_fresh HP.out.2.2.2.1)
    refine wpT_tail (by kernel_rfl) fun wr hr => ?_
    have HV := Lib.hid (blk_touch (blk_new wp (.cells #[.int .u64 h] 23 (0, 0))) hr (fun h => h))
    have HP := Lib.hid ((HP.out.later (below_al (Below.refl _ _) (.cells #[.int .u64 h] 23 (0, 0)))).touch hr)
    generalize wp.heap.size = vb at *
    clear hr
    have HP5 := HP
    clear HP
    go_wp2_with (go_at_call 38; refine (insert_own HP5.out.2.2.2.1 (Nat.zero_le _) (by omega) (show n ≤ n by omega) (fun v hv => by obtain ⟨_, _, rfl⟩ := List.mem_map.1 hv; rfl) vb h HV.out HF.out).mono ?_; intro e w5 hI; obtain ⟨r5, c5, rfl, hi⟩ := HP5.out.insert (m := (n + 1)) rfl hI; have HI := Lib.hid hi; clear hI hi HP5 HF HV; obtain ⟨a0, a1, a2, b0, f1, f2⟩ := HI.out.cells)
    clear a0 a1 a2 b0 f1 f2
    have HI := Lib.hid (HI.out.store (.slice (some ⟨r5, 0, none⟩) (n + 1) c5))
    generalize w5.setCell ⟨g, 1, none⟩ (.slice (some ⟨r5, 0, none⟩) (n + 1) c5) = w6 at *
    obtain ⟨a0, a1, a2, b0, f1, f2⟩ := HI.out.cells
    go_quiet (fail)
    rename_i nq
    have HI := Lib.hid (HI.out.drewN nq)
    generalize w6.drewN nq = w7 at *
    clear a0 a1 a2 b0 f1 f2
    obtain ⟨a0, a1, a2, b0, f1, f2⟩ := HI.out.cells
    go_wp2_with fail
    clear a0 a1 a2 b0 f1 f2
    have hnc : n ≤ c5 := by have := HI.out.2.2.2.2.2.2.2.1; omega
    have hnc0 : (n : Int) ≤ (c5 : Int) := by omega
    have hn00 : (0 : Int) ≤ (n : Int) := by omega
    have hwg : Hid (w.heap.size ≠ g) := HI.out.2.2.2.2.1
    refine region_keeps (F := fun _ => False) 11 [0, 2, 3, 4, 5, 6, 7, 8, 9, 10] 1 (by kernel_rfl) (by kernel_rfl) ?_ ?_
    · intro _ _ _ _ _ h; exact h
    repeat
      refine wpCalm_ex rfl ?_
      apply Exists.intro
      refine ⟨fun wq hq => ?_, ?_⟩
      · obtain ⟨a0, a1, a2, b0, f1, f2⟩ := (HI.out.touch hq).cells
        go_simp
        first
          | rfl
          | simp
      simp only [Act.put, List.setIfInBounds_toArray, List.set_cons_zero, List.set_cons_succ]
    refine wpCalm_nil (wpT_late 1 11 rfl rfl (by kernel_rfl) (fun w8 h8 KK hKK => ?_) (fun w8 h8 KK hKK => ?_))
    · have HI := Lib.hid (HI.out.touch h8)
      obtain ⟨a0, a1, a2, b0, f1, f2⟩ := HI.out.cells
      go_simp
      refine hKK _ _ ⟨Touch.refl _ _, ?_⟩
      clear hKK KK h8 a0 a1 a2 b0 f1 f2
      refine wpT_tail (by kernel_rfl) fun w9 h9 => ?_
      have HI := Lib.hid (HI.out.touch h9)
      clear h9
      obtain ⟨a0, a1, a2, b0, f1, f2⟩ := HI.out.cells
      have HI := Lib.hid ((HI.out.store (.slice (some ⟨r5, 0, none⟩) n c5)).more true)
      obtain ⟨p0, p1, p2, q0, _, _⟩ := HI.out.cells
      go_wp2_with fail
      go_ret
      exact ⟨rfl, some r5, ⟨_, HI.out.1, cut_len HN.out (show n ≤ n by omega) (own_cut2 HI.out.2.2.1), rfl⟩, HI.out.2.2.2.2.2.2.1, HI.out.2.2.2.2.2.1⟩
    · have HI := Lib.hid (HI.out.touch h8)
      obtain ⟨a0, a1, a2, b0, f1, f2⟩ := HI.out.cells
      go_simp
      refine hKK _ _ (any_two 1 12 rfl rfl (by kernel_rfl) (fun KK hKK => ?_) (fun KK hKK => ?_))
      · go_simp
        refine hKK _ _ (any_tail (n := 12) (by kernel_rfl) ?_)
        have HI := Lib.hid ((HI.out.store (.slice (some ⟨r5, 0, none⟩) n c5)).more true)
        obtain ⟨p0, p1, p2, q0, _, _⟩ := HI.out.cells
        go_wp2_with fail
        go_ret
        exact ⟨rfl, some r5, ⟨_, HI.out.1, cut_len HN.out (show n ≤ n by omega) (own_cut2 HI.out.2.2.1), rfl⟩, HI.out.2.2.2.2.2.2.1, HI.out.2.2.2.2.2.1⟩
      · go_simp
        refine hKK _ _ (any_two 1 13 rfl rfl (by kernel_rfl) (fun KK hKK => ?_) (fun KK hKK => ?_))
        · go_simp
          refine hKK _ _ (any_tail (n := 13) (by kernel_rfl) ?_)
          have HI := Lib.hid ((HI.out.store (.slice (some ⟨r5, 0, none⟩) n c5)).more true)
          obtain ⟨p0, p1, p2, q0, _, _⟩ := HI.out.cells
          go_wp2_with fail
          go_ret
          exact ⟨rfl, some r5, ⟨_, HI.out.1, cut_len HN.out (show n ≤ n by omega) (own_cut2 HI.out.2.2.1), rfl⟩, HI.out.2.2.2.2.2.2.1, HI.out.2.2.2.2.2.1⟩
        · go_simp
          have HI := Lib.hid (HI.out.store (.slice (some ⟨r5, 0, none⟩) n c5))
          clear a0 a1 a2 b0 f1 f2
          obtain ⟨a0, a1, a2, b0, f1, f2⟩ := HI.out.cells
          refine hKK _ _ (any_one 1 rfl (by kernel_rfl) fun KK hKK => ?_)
          go_simp
          refine hKK _ _ (any_tail (n := 14) (by kernel_rfl) ?_)
          have HI := Lib.hid (HI.out.more true)
          obtain ⟨p0, p1, p2, q0, _, _⟩ := HI.out.cells
          go_wp2_with fail
          go_ret
          exact ⟨rfl, some r5, ⟨_, HI.out.1, cut_len HN.out (show n ≤ n by omega) (own_cut2 HI.out.2.2.1), rfl⟩, HI.out.2.2.2.2.2.2.1, HI.out.2.2.2.2.2.1⟩
  · have HP := Lib.hid (HP.out.touch hq)
    go_simp
    refine hKK _ _ ⟨Touch.of_below (below_al (Below.refl _ _) _), ?_⟩
    clear hKK KK hq
    refine wpT_late 0 8 rfl rfl (by kernel_rfl) (fun wp hp KK hKK => ?_) (fun wp hp KK hKK => ?_)
    · have HP2 := Lib.hid ((HP.out.later (below_al (Below.refl _ _) (.cells #[.int .u64 h] 23 (0, 0)))).touch hp)
      have HF := Lib.hid (own_fresh HP.out.2.2.2.1)
      have HV := Lib.hid (blk_touch (blk_new wq (.cells #[.int .u64 h] 23 (0, 0))) hp (fun h => h))
      clear HP
      generalize wq.heap.size = vb at *
      obtain ⟨a0, a1, a2, b0, c0⟩ := HP2.out.cells
      go_simp
      refine hKK _ _ ⟨Touch.refl _ _, ?_⟩
      clear hKK KK hp a0 a1 a2 b0 c0
      refine wpT_tail (by kernel_rfl) fun wr hr => ?_
      have HP := Lib.hid (HP2.out.touch hr)
      have HV := Lib.hid (blk_touch HV.out hr (fun h => h))
      clear HP2 hr
      have HP5 := HP
      clear HP
      go_wp2_with (go_at_call 38; refine (insert_own HP5.out.2.2.2.1 (Nat.zero_le _) (by omega) (show n ≤ n by omega) (fun v hv => by obtain ⟨_, _, rfl⟩ := List.mem_map.1 hv; rfl) vb h HV.out HF.out).mono ?_; intro e w5 hI; obtain ⟨r5, c5, rfl, hi⟩ := HP5.out.insert (m := (n + 1)) rfl hI; have HI := Lib.hid hi; clear hI hi HP5 HF HV; obtain ⟨a0, a1, a2, b0, f1, f2⟩ := HI.out.cells)
      clear a0 a1 a2 b0 f1 f2
      have HI := Lib.hid (HI.out.store (.slice (some ⟨r5, 0, none⟩) (n + 1) c5))
      generalize w5.setCell ⟨g, 1, none⟩ (.slice (some ⟨r5, 0, none⟩) (n + 1) c5) = w6 at *
      obtain ⟨a0, a1, a2, b0, f1, f2⟩ := HI.out.cells
      go_quiet (fail)
      rename_i nq
      have HI := Lib.hid (HI.out.drewN nq)
      generalize w6.drewN nq = w7 at *
      clear a0 a1 a2 b0 f1 f2
      obtain ⟨a0, a1, a2, b0, f1, f2⟩ := HI.out.cells
      go_wp2_with fail
      clear a0 a1 a2 b0 f1 f2
      have hnc : n ≤ c5 := by have := HI.out.2.2.2.2.2.2.2.1; omega
      have hnc0 : (n : Int) ≤ (c5 : Int) := by omega
      have hn00 : (0 : Int) ≤ (n : Int) := by omega
      have hwg : Hid (w.heap.size ≠ g) := HI.out.2.2.2.2.1
      refine region_keeps (F := fun _ => False) 11 [0, 2, 3, 4, 5, 6, 7, 8, 9, 10] 1 (by kernel_rfl) (by kernel_rfl) ?_ ?_
      · intro _ _ _ _ _ h; exact h
      repeat
        refine wpCalm_ex rfl ?_
        apply Exists.intro
        refine ⟨fun wq hq => ?_, ?_⟩
        · obtain ⟨a0, a1, a2, b0, f1, f2⟩ := (HI.out.touch hq).cells
          go_simp
          first
            | rfl
            | simp
        simp only [Act.put, List.setIfInBounds_toArray, List.set_cons_zero, List.set_cons_succ]
      refine wpCalm_nil (wpT_late 1 11 rfl rfl (by kernel_rfl) (fun w8 h8 KK hKK => ?_) (fun w8 h8 KK hKK => ?_))
      · have HI := Lib.hid (HI.out.touch h8)
        obtain ⟨a0, a1, a2, b0, f1, f2⟩ := HI.out.cells
        go_simp
        refine hKK _ _ ⟨Touch.refl _ _, ?_⟩
        clear hKK KK h8 a0 a1 a2 b0 f1 f2
        refine wpT_tail (by kernel_rfl) fun w9 h9 => ?_
        have HI := Lib.hid (HI.out.touch h9)
        clear h9
        obtain ⟨a0, a1, a2, b0, f1, f2⟩ := HI.out.cells
        have HI := Lib.hid ((HI.out.store (.slice (some ⟨r5, 0, none⟩) n c5)).more true)
        obtain ⟨p0, p1, p2, q0, _, _⟩ := HI.out.cells
        go_wp2_with fail
        go_ret
        exact ⟨rfl, some r5, ⟨_, HI.out.1, cut_len HN.out (show n ≤ n by omega) (own_cut2 HI.out.2.2.1), rfl⟩, HI.out.2.2.2.2.2.2.1, HI.out.2.2.2.2.2.1⟩
      · have HI := Lib.hid (HI.out.touch h8)
        obtain ⟨a0, a1, a2, b0, f1, f2⟩ := HI.out.cells
        go_simp
        refine hKK _ _ (any_two 1 12 rfl rfl (by kernel_rfl) (fun KK hKK => ?_) (fun KK hKK => ?_))
        · go_simp
          refine hKK _ _ (any_tail (n := 12) (by kernel_rfl) ?_)
          have HI := Lib.hid ((HI.out.store (.slice (some ⟨r5, 0, none⟩) n c5)).more true)
          obtain ⟨p0, p1, p2, q0, _, _⟩ := HI.out.cells
          go_wp2_with fail
          go_ret
          exact ⟨rfl, some r5, ⟨_, HI.out.1, cut_len HN.out (show n ≤ n by omega) (own_cut2 HI.out.2.2.1), rfl⟩, HI.out.2.2.2.2.2.2.1, HI.out.2.2.2.2.2.1⟩
        · go_simp
          refine hKK _ _ (any_two 1 13 rfl rfl (by kernel_rfl) (fun KK hKK => ?_) (fun KK hKK => ?_))
          · go_simp
            refine hKK _ _ (any_tail (n := 13) (by kernel_rfl) ?_)
            have HI := Lib.hid ((HI.out.store (.slice (some ⟨r5, 0, none⟩) n c5)).more true)
            obtain ⟨p0, p1, p2, q0, _, _⟩ := HI.out.cells
            go_wp2_with fail
            go_ret
            exact ⟨rfl, some r5, ⟨_, HI.out.1, cut_len HN.out (show n ≤ n by omega) (own_cut2 HI.out.2.2.1), rfl⟩, HI.out.2.2.2.2.2.2.1, HI.out.2.2.2.2.2.1⟩
          · go_simp
            have HI := Lib.hid (HI.out.store (.slice (some ⟨r5, 0, none⟩) n c5))
            clear a0 a1 a2 b0 f1 f2
            obtain ⟨a0, a1, a2, b0, f1, f2⟩ := HI.out.cells
            refine hKK _ _ (any_one 1 rfl (by kernel_rfl) fun KK hKK => ?_)
            go_simp
            refine hKK _ _ (any_tail (n := 14) (by kernel_rfl) ?_)
            have HI := Lib.hid (HI.out.more true)
            obtain ⟨p0, p1, p2, q0, _, _⟩ := HI.out.cells
            go_wp2_with fail
            go_ret
            exact ⟨rfl, some r5, ⟨_, HI.out.1, cut_len HN.out (show n ≤ n by omega) (own_cut2 HI.out.2.2.1), rfl⟩, HI.out.2.2.2.2.2.2.1, HI.out.2.2.2.2.2.1⟩
    · have HP2 := Lib.hid ((HP.out.later (below_al (Below.refl _ _) (.cells #[.int .u64 h] 23 (0, 0)))).touch hp)
      have HF := Lib.hid (own_fresh HP.out.2.2.2.1)
      have HV := Lib.hid (blk_touch (blk_new wq (.cells #[.int .u64 h] 23 (0, 0))) hp (fun h => h))
      clear HP
      generalize wq.heap.size = vb at *
      go_simp
      refine (insert_own HP2.out.2.2.2.1 (Nat.zero_le _) (by omega) (show n ≤ n by omega) (fun v hv => by obtain ⟨_, _, rfl⟩ := List.mem_map.1 hv; rfl) vb h HV.out HF.out).mono ?_
      intro e w5 hI
      obtain ⟨r5, c5, rfl, hi⟩ := HP2.out.insert (m := (n + 1)) rfl hI
      have HI := Lib.hid hi
      clear hI hi HP2 HF HV hp
      obtain ⟨a0, a1, a2, b0, f1, f2⟩ := HI.out.cells
      refine hKK _ _ (any_one 0 rfl (by kernel_rfl) fun KK hKK => ?_)
      go_simp
      refine hKK _ _ ?_
      clear hKK KK
      refine any_tail (n := 9) (by kernel_rfl) ?_
      go_wp2_with fail
      clear a0 a1 a2 b0 f1 f2
      have HI := Lib.hid (HI.out.store (.slice (some ⟨r5, 0, none⟩) (n + 1) c5))
      generalize w5.setCell ⟨g, 1, none⟩ (.slice (some ⟨r5, 0, none⟩) (n + 1) c5) = w6 at *
      obtain ⟨a0, a1, a2, b0, f1, f2⟩ := HI.out.cells
      go_quiet (fail)
      rename_i nq
      have HI := Lib.hid (HI.out.drewN nq)
      generalize w6.drewN nq = w7 at *
      clear a0 a1 a2 b0 f1 f2
      obtain ⟨a0, a1, a2, b0, f1, f2⟩ := HI.out.cells
      go_wp2_with fail
      clear a0 a1 a2 b0 f1 f2
      have hnc : n ≤ c5 := by have := HI.out.2.2.2.2.2.2.2.1; omega
      have hnc0 : (n : Int) ≤ (c5 : Int) := by omega
      have hn00 : (0 : Int) ≤ (n : Int) := by omega
      have hwg : Hid (w.heap.size ≠ g) := HI.out.2.2.2.2.1
      refine region_keeps (F := fun _ => False) 11 [0, 2, 3, 4, 5, 6, 7, 8, 9, 10] 1 (by kernel_rfl) (by kernel_rfl) ?_ ?_
      · intro _ _ _ _ _ h; exact h
      repeat
        refine wpCalm_ex rfl ?_
        apply Exists.intro
        refine ⟨fun wq hq => ?_, ?_⟩
        · obtain ⟨a0, a1, a2, b0, f1, f2⟩ := (HI.out.touch hq).cells
          go_simp
          first
            | rfl
            | simp
        simp only [Act.put, List.setIfInBounds_toArray, List.set_cons_zero, List.set_cons_succ]
      refine wpCalm_nil (wpT_late 1 11 rfl rfl (by kernel_rfl) (fun w8 h8 KK hKK => ?_) (fun w8 h8 KK hKK => ?_))
      · have HI := Lib.hid (HI.out.touch h8)
        obtain ⟨a0, a1, a2, b0, f1, f2⟩ := HI.out.cells
        go_simp
        refine hKK _ _ ⟨Touch.refl _ _, ?_⟩
        clear hKK KK h8 a0 a1 a2 b0 f1 f2
        refine wpT_tail (by kernel_rfl) fun w9 h9 => ?_
        have HI := Lib.hid (HI.out.touch h9)
        clear h9
        obtain ⟨a0, a1, a2, b0, f1, f2⟩ := HI.out.cells
        have HI := Lib.hid ((HI.out.store (.slice (some ⟨r5, 0, none⟩) n c5)).more true)
        obtain ⟨p0, p1, p2, q0, _, _⟩ := HI.out.cells
        go_wp2_with fail
        go_ret
        exact ⟨rfl, some r5, ⟨_, HI.out.1, cut_len HN.out (show n ≤ n by omega) (own_cut2 HI.out.2.2.1), rfl⟩, HI.out.2.2.2.2.2.2.1, HI.out.2.2.2.2.2.1⟩
      · have HI := Lib.hid (HI.out.touch h8)
        obtain ⟨a0, a1, a2, b0, f1, f2⟩ := HI.out.cells
        go_simp
        refine hKK _ _ (any_two 1 12 rfl rfl (by kernel_rfl) (fun KK hKK => ?_) (fun KK hKK => ?_))
        · go_simp
          refine hKK _ _ (any_tail (n := 12) (by kernel_rfl) ?_)
          have HI := Lib.hid ((HI.out.store (.slice (some ⟨r5, 0, none⟩) n c5)).more true)
          obtain ⟨p0, p1, p2, q0, _, _⟩ := HI.out.cells
          go_wp2_with fail
          go_ret
          exact ⟨rfl, some r5, ⟨_, HI.out.1, cut_len HN.out (show n ≤ n by omega) (own_cut2 HI.out.2.2.1), rfl⟩, HI.out.2.2.2.2.2.2.1, HI.out.2.2.2.2.2.1⟩
        · go_simp
          refine hKK _ _ (any_two 1 13 rfl rfl (by kernel_rfl) (fun KK hKK => ?_) (fun KK hKK => ?_))
          · go_simp
            refine hKK _ _ (any_tail (n := 13) (by kernel_rfl) ?_)
            have HI := Lib.hid ((HI.out.store (.slice (some ⟨r5, 0, none⟩) n c5)).more true)
            obtain ⟨p0, p1, p2, q0, _, _⟩ := HI.out.cells
            go_wp2_with fail
            go_ret
            exact ⟨rfl, some r5, ⟨_, HI.out.1, cut_len HN.out (show n ≤ n by omega) (own_cut2 HI.out.2.2.1), rfl⟩, HI.out.2.2.2.2.2.2.1, HI.out.2.2.2.2.2.1⟩
          · go_simp
            have HI := Lib.hid (HI.out.store (.slice (some ⟨r5, 0, none⟩) n c5))
            clear a0 a1 a2 b0 f1 f2
            obtain ⟨a0, a1, a2, b0, f1, f2⟩ := HI.out.cells
            refine hKK _ _ (any_one 1 rfl (by kernel_rfl) fun KK hKK => ?_)
            go_simp
            refine hKK _ _ (any_tail (n := 14) (by kernel_rfl) ?_)
            have HI := Lib.hid (HI.out.more true)
            obtain ⟨p0, p1, p2, q0, _, _⟩ := HI.out.cells
            go_wp2_with fail
            go_ret
            exact ⟨rfl, some r5, ⟨_, HI.out.1, cut_len HN.out (show n ≤ n by omega) (own_cut2 HI.out.2.2.1), rfl⟩, HI.out.2.2.2.2.2.2.1, HI.out.2.2.2.2.2.1⟩
end Go.Proofs.Ytlbpdlhelkokbaa
