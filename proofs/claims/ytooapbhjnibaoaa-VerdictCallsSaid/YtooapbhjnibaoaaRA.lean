/- The walks of the functions of package ratio, and of its reference, that have no loop. -/
import Derived.Test.YtooapbhjnibaoaaProg
import Derived.Test.YtooapbhjnibaoaaRM
import Derived.WalkKit
import Derived.WalkSpells
import Derived.WalkLawsBesides
import Derived.Below
import Derived.Deep.QuietTactic
import Derived.BigQuiet
import Derived.Lib.Hide
import Derived.KernelRfl
import Derived.Laws.Rows
namespace Go.Proofs.Ytooapbhjnibaoaa
open Go.RowKit

theorem ret_int {k : IntKind} {a b : Int} (h : a = b) : Ending.returned (.int k a) = .returned (.int k b) := by rw [h]
theorem ret_bool {a b : Bool} (h : a = b) : Ending.returned (.bool a) = .returned (.bool b) := by rw [h]
theorem below_al {w W : World} (h : Below w.heap.size w W) (o : Obj) : Below w.heap.size w (W.alloc o) := h.alloc h.size o
theorem below_dr {B : Nat} {w W : World} (h : Below B w W) : Below B w W.drew := h.drew
theorem below_after {w W W' : World} (h : Below w.heap.size w W) (k : Below W.heap.size W W') : Below w.heap.size w W' := h.trans (k.mono h.size)

theorem bcell {W w1 : World} (hb : Below W.heap.size W w1) : (∀ b o, b < W.heap.size → w1.cell? ⟨b, o, none⟩ = W.cell? ⟨b, o, none⟩) ∧ (∀ b o, b < W.heap.size → w1.frozen? ⟨b, o, none⟩ = W.frozen? ⟨b, o, none⟩) :=
  ⟨fun b o h => hb.cell (p := ⟨b, o, none⟩) h, fun b o h => hb.frozen (p := ⟨b, o, none⟩) h⟩
theorem below_set {B : Nat} {w W : World} (h : Below B w W) {b o : Nat} (hp : B ≤ b) (u : Value) : Below B w (W.setCell ⟨b, o, none⟩ u) := h.setCell hp u

theorem below_drN {B : Nat} {w W : World} (h : Below B w W) (n : Nat) : Below B w (W.drewN n) := ⟨h.os, h.tape, h.output, h.size, h.block⟩
theorem two_cells {w : World} {b : Nat} {v0 v1 : Value} {t : TypeId} (h : w.heap[b]? = some (.cells #[v0, v1] t (0, 0))) :
    w.cell? ⟨b, 0, none⟩ = some v0 ∧ w.cell? ⟨b, 1, none⟩ = some v1 ∧ w.frozen? ⟨b, 0, none⟩ = false ∧ w.frozen? ⟨b, 1, none⟩ = false := by
  simp [World.cell?, World.frozen?, h]
theorem blk_set {w : World} {g : Nat} {t : TypeId} {cs : Array Value} (h : w.heap[g]? = some (.cells cs t (0, 0))) (i : Nat) (u : Value) :
    (w.setCell ⟨g, i, none⟩ u).heap[g]? = some (.cells (cs.setIfInBounds i u) t (0, 0)) := by
  have hlt := lt_of_block h
  have h' : w.heap[g] = .cells cs t (0, 0) := by simpa [Array.getElem?_eq_getElem hlt] using h
  show (w.heap.modify g _)[g]? = _
  rw [Array.getElem?_eq_getElem (by simpa using hlt), Array.getElem_modify_self, h']
  simp
theorem two_set0 {w : World} {g : Nat} {t : TypeId} {v0 v1 : Value} (h : w.heap[g]? = some (.cells #[v0, v1] t (0, 0))) (u : Value) :
    (w.setCell ⟨g, 0, none⟩ u).heap[g]? = some (.cells #[u, v1] t (0, 0)) := by rw [blk_set h]; rfl
theorem two_set1 {w : World} {g : Nat} {t : TypeId} {v0 v1 : Value} (h : w.heap[g]? = some (.cells #[v0, v1] t (0, 0))) (u : Value) :
    (w.setCell ⟨g, 1, none⟩ u).heap[g]? = some (.cells #[v0, u] t (0, 0)) := by rw [blk_set h]; rfl
theorem blk_far {w : World} {g b o : Nat} {x : Obj} (h : w.heap[g]? = some x) (hne : g ≠ b) (u : Value) : (w.setCell ⟨b, o, none⟩ u).heap[g]? = some x :=
  (Below.heap_setCell w ⟨b, o, none⟩ u g hne).trans h
theorem blk_below {w w1 : World} {g : Nat} {o : Obj} (h : w.heap[g]? = some o) (hb : Below w.heap.size w w1) : w1.heap[g]? = some o := (hb.block g (lt_of_block h)).trans h
theorem blk_new (w : World) (o : Obj) : (w.alloc o).heap[w.heap.size]? = some o := by show (w.heap.push o)[w.heap.size]? = _; simp
theorem blk_new_at {w : World} {n : Nat} (o : Obj) (h : w.heap.size = n) : (w.alloc o).heap[n]? = some o := by subst h; exact blk_new w o
theorem blk_drew {w : World} {g : Nat} {x : Obj} (h : w.heap[g]? = some x) : w.drew.heap[g]? = some x := h
theorem blk_drewN {w : World} {g : Nat} {x : Obj} (h : w.heap[g]? = some x) (n : Nat) : (w.drewN n).heap[g]? = some x := h
theorem blk_old {w : World} {g : Nat} {x : Obj} (h : w.heap[g]? = some x) (o : Obj) : (w.alloc o).heap[g]? = some x := (Below.heap_alloc w o g (lt_of_block h)).trans h

/-- results that lie in memory: a struct; a struct and a number; two structs -/
structure InRow (P : Program) (w : World) (ty : TypeId) (v : Value) (cs : Array Value) : Prop where
  ex : ∃ g : Nat, v = .pointer (some ⟨g, 0, none⟩) ∧ (loadVar ty ⟨g, 0, none⟩).run P w = .ok (.agg cs) w
theorem InRow.mk' {P : Program} {w : World} {ty : TypeId} {g : Nat} {t : TypeId} {fr : Nat × Nat} {cs : Array Value} (d : TypeDesc) (hg : w.heap[g]? = some (.cells cs t fr))
    (hu : P.underlying ty = some d) (hd : (match d with | .struct _ | .array _ _ => true | _ => false) = true) (hi : (P.info? ty).map (·.size) = some cs.size) : InRow P w ty (.pointer (some ⟨g, 0, none⟩)) cs :=
  ⟨g, rfl, run_loadVar_row w g t ty cs fr d hg hu hd hi⟩
theorem res_c {P : Program} {fn : Func} {p : Tmp} {ty : TypeId} (h : fn.results = #[.cell p ty]) {tmps : Array Value} {w : World} {cs : Array Value} (hp : InRow P w ty (tmps.getD p undef) cs) :
    (results fn tmps).run P w = .ok (.agg cs) w := by
  obtain ⟨g, hv, hg⟩ := hp.ex
  have hp' : tmps[p]?.getD undef = .pointer (some ⟨g, 0, none⟩) := by simpa using hv
  simp [results, h, hp', asAddr, hg]
theorem res_ct {P : Program} {fn : Func} {p u : Tmp} {ty : TypeId} (h : fn.results = #[.cell p ty, .tmp u]) {tmps : Array Value} {w : World} {cs : Array Value} (hp : InRow P w ty (tmps.getD p undef) cs) :
    (results fn tmps).run P w = .ok (.tuple #[.agg cs, tmps.getD u undef]) w := by
  obtain ⟨g, hv, hg⟩ := hp.ex
  have hp' : tmps[p]?.getD undef = .pointer (some ⟨g, 0, none⟩) := by simpa using hv
  simp [results, h, hp', asAddr, hg]
theorem res_cc {P : Program} {fn : Func} {p q : Tmp} {ty tz : TypeId} (h : fn.results = #[.cell p ty, .cell q tz]) {tmps : Array Value} {w : World} {cs ds : Array Value}
    (hp : InRow P w ty (tmps.getD p undef) cs) (hq : InRow P w tz (tmps.getD q undef) ds) : (results fn tmps).run P w = .ok (.tuple #[.agg cs, .agg ds]) w := by
  obtain ⟨g, hv, hg⟩ := hp.ex
  obtain ⟨g2, hv2, hg2⟩ := hq.ex
  have hp' : tmps[p]?.getD undef = .pointer (some ⟨g, 0, none⟩) := by simpa using hv
  have hq' : tmps[q]?.getD undef = .pointer (some ⟨g2, 0, none⟩) := by simpa using hv2
  simp [results, h, hp', hq', asAddr, hg, hg2]

theorem low_ok (u : Int) (w : World) :
    Calls Try.prog 42 #[.int .u64 u] w fun e w' => e = .returned (.int .u64 (Go.bits .and .u64 u 4294967295)) ∧ w = w' := by
  go_enter Try.func42, Try.ntmps42
  go_wp2
  go_ret
  exact ⟨rfl, rfl⟩

theorem word_ok (n : Int) (hn : I64 n) (w : World) :
    Calls Try.prog 28 #[.int .i64 n] w fun e w' => e = .returned (.int .u64 (max n 0)) ∧ w = w' := by
  have Hn := Lib.hid hn
  clear hn
  go_enter Try.func28, Try.ntmps28
  go_wp2
  all_goals
    go_ret
    refine ⟨ret_int ?_, rfl⟩
    first | (rw [wrap_zero]; omega) | (rw [word_pos Hn.out (by assumption)]; omega)

theorem times_ok (a b : Int) (ha : U64 a) (hb : U64 b) (w : World) :
    Calls Try.prog 27 #[.int .u64 a, .int .u64 b] w fun e w' => e = .returned (.agg #[.int .u64 (hi (a * b)), .int .u64 (lo (a * b))]) ∧ Below w.heap.size w w' := by
  have H := Lib.hid (times_parts ha hb)
  clear ha hb
  go_enter Try.func27, Try.ntmps27
  go_wp2_with (go_at_call 42; refine (low_ok _ _).mono ?_; rintro e w' ⟨rfl, rfl⟩)
  refine bodyPost_ret (v := .agg #[.int .u64 (hi (a * b)), .int .u64 (lo (a * b))]) ?_ rfl ⟨rfl, (Below.refl _ _).alloc (Nat.le_refl _) _⟩
  rw [← H.out.1, ← H.out.2]
  simp [results, Try.results27, go_sem]

theorem refPlus_ok (x y : Int) (hx : 0 ≤ x) (hy : 0 ≤ y) (h : U128 (x + y)) (w : World) :
    Calls Try.prog 49 #[.agg #[.int .u64 (hi x), .int .u64 (lo x)], .agg #[.int .u64 (hi y), .int .u64 (lo y)]] w fun e w' => e = .returned (.agg #[.int .u64 (hi (x + y)), .int .u64 (lo (x + y))]) ∧ Below w.heap.size w w' := by
  have H := Lib.hid (plus_parts hx hy h)
  clear hx hy h
  go_enter Try.func49, Try.ntmps49
  go_wp2
  all_goals
    refine bodyPost_ret (v := .agg #[.int .u64 (hi (x + y)), .int .u64 (lo (x + y))]) ?_ rfl ⟨rfl, below_al (below_al (below_al (Below.refl _ _) _) _) _⟩
    rw [← H.out.1]
    first
      | (rw [← H.out.2.1 (by assumption)]; simp [results, Try.results49, go_sem])
      | (rw [← H.out.2.2 (by assumption)]; simp [results, Try.results49, go_sem])


theorem may_yes (n d : Int) (hn : 0 ≤ n) (hd : 1 ≤ d) (w : World) :
    Calls Try.prog 41 #[.agg #[.int .i64 n, .int .i64 d]] w fun e w' => e = .returned (.bool true) ∧ Below w.heap.size w w' := by
  go_enter Try.func41, Try.ntmps41
  go_wp2
  go_ret
  exact ⟨rfl, below_al (Below.refl _ _) _⟩
theorem may_no (n d : Int) (h : ¬ (0 ≤ n ∧ 1 ≤ d)) (w : World) :
    Calls Try.prog 41 #[.agg #[.int .i64 n, .int .i64 d]] w fun e w' => e = .returned (.bool false) ∧ Below w.heap.size w w' := by
  by_cases hn : 0 ≤ n
  · have hd : ¬ 1 ≤ d := fun hd => h ⟨hn, hd⟩
    clear h
    go_enter Try.func41, Try.ntmps41
    go_wp2
    go_ret
    exact ⟨rfl, below_al (Below.refl _ _) _⟩
  · clear h
    go_enter Try.func41, Try.ntmps41
    go_wp2
    go_ret
    exact ⟨rfl, below_al (Below.refl _ _) _⟩

theorem refMay_yes (n d : Int) (hn : 0 ≤ n) (hd : 1 ≤ d) (w : World) :
    Calls Try.prog 48 #[.agg #[.int .i64 n, .int .i64 d]] w fun e w' => e = .returned (.bool true) ∧ Below w.heap.size w w' := by
  go_enter Try.func48, Try.ntmps48
  go_wp2
  go_ret
  exact ⟨rfl, below_al (Below.refl _ _) _⟩
theorem refMay_no (n d : Int) (h : ¬ (0 ≤ n ∧ 1 ≤ d)) (w : World) :
    Calls Try.prog 48 #[.agg #[.int .i64 n, .int .i64 d]] w fun e w' => e = .returned (.bool false) ∧ Below w.heap.size w w' := by
  by_cases hn : 0 ≤ n
  · have hd : ¬ 1 ≤ d := fun hd => h ⟨hn, hd⟩
    clear h
    go_enter Try.func48, Try.ntmps48
    go_wp2
    go_ret
    exact ⟨rfl, below_al (Below.refl _ _) _⟩
  · clear h
    go_enter Try.func48, Try.ntmps48
    go_wp2
    go_ret
    exact ⟨rfl, below_al (Below.refl _ _) _⟩

theorem held_yes (n d : Int) (hn : 0 ≤ n) (hd : 1 ≤ d) (w : World) :
    Calls Try.prog 26 #[.agg #[.int .i64 n, .int .i64 d]] w fun e w' => e = .returned (.agg #[.int .i64 n, .int .i64 d]) ∧ Below w.heap.size w w' := by
  go_enter Try.func26, Try.ntmps26
  go_wp2_with (go_at_call 41; refine (may_yes _ _ hn hd _).mono ?_; rintro e w' ⟨rfl, hb⟩; obtain ⟨hc, hf⟩ := bcell hb)
  refine bodyPost_ret (v := .agg #[.int .i64 n, .int .i64 d]) ?_ rfl ⟨rfl, ?_⟩
  · simp [results, Try.results26, go_sem, hc]
  · exact below_set (below_set (below_after (below_al (below_al (Below.refl _ _) _) _) hb) (by simp) _) (by simp) _

theorem held_no (n d : Int) (h : ¬ (0 ≤ n ∧ 1 ≤ d)) (w : World) :
    Calls Try.prog 26 #[.agg #[.int .i64 n, .int .i64 d]] w fun e w' => e = .returned (.agg #[.int .i64 0, .int .i64 1]) ∧ Below w.heap.size w w' := by
  have Hh := Lib.hid h
  clear h
  go_enter Try.func26, Try.ntmps26
  go_wp2_with (go_at_call 41; refine (may_no _ _ Hh.out _).mono ?_; rintro e w' ⟨rfl, hb⟩; obtain ⟨hc, hf⟩ := bcell hb)
  refine bodyPost_ret (v := .agg #[.int .i64 0, .int .i64 1]) ?_ rfl ⟨rfl, ?_⟩
  · simp [results, Try.results26, go_sem, hc]
  · exact below_set (below_set (below_after (below_al (below_al (Below.refl _ _) _) _) hb) (by simp) _) (by simp) _

theorem own_yes (n d : Int) (hn : 0 ≤ n) (hd : 1 ≤ d) (w : World) :
    Calls Try.prog 38 #[.agg #[.int .i64 n, .int .i64 d]] w fun e w' => e = .returned (.agg #[.int .i64 n, .int .i64 d]) ∧ Below w.heap.size w w' := by
  go_enter Try.func38, Try.ntmps38
  go_wp2_with (go_at_call 48; refine (refMay_yes _ _ hn hd _).mono ?_; rintro e w' ⟨rfl, hb⟩; obtain ⟨hc, hf⟩ := bcell hb)
  refine bodyPost_ret (v := .agg #[.int .i64 n, .int .i64 d]) ?_ rfl ⟨rfl, ?_⟩
  · simp [results, Try.results38, go_sem, hc]
  · exact below_set (below_set (below_after (below_al (below_al (Below.refl _ _) _) _) hb) (by simp) _) (by simp) _

theorem own_no (n d : Int) (h : ¬ (0 ≤ n ∧ 1 ≤ d)) (w : World) :
    Calls Try.prog 38 #[.agg #[.int .i64 n, .int .i64 d]] w fun e w' => e = .returned (.agg #[.int .i64 0, .int .i64 1]) ∧ Below w.heap.size w w' := by
  have Hh := Lib.hid h
  clear h
  go_enter Try.func38, Try.ntmps38
  go_wp2_with (go_at_call 48; refine (refMay_no _ _ Hh.out _).mono ?_; rintro e w' ⟨rfl, hb⟩; obtain ⟨hc, hf⟩ := bcell hb)
  refine bodyPost_ret (v := .agg #[.int .i64 0, .int .i64 1]) ?_ rfl ⟨rfl, ?_⟩
  · simp [results, Try.results38, go_sem, hc]
  · exact below_set (below_set (below_after (below_al (below_al (Below.refl _ _) _) _) hb) (by simp) _) (by simp) _

theorem less_yes (x y : Int) (h : x < y) (w : World) :
    Calls Try.prog 40 #[.agg #[.int .u64 (hi x), .int .u64 (lo x)], .agg #[.int .u64 (hi y), .int .u64 (lo y)]] w fun e w' => e = .returned (.bool true) ∧ Below w.heap.size w w' := by
  have H := h
  rw [← less_parts] at H
  clear h
  by_cases h1 : hi x < hi y
  · clear H
    go_enter Try.func40, Try.ntmps40
    go_wp2
    go_ret
    exact ⟨rfl, below_al (below_al (Below.refl _ _) _) _⟩
  · have h2 : (hi x == hi y) = true := beq_iff_eq.2 (by omega)
    have h3 : lo x < lo y := by omega
    clear H
    go_enter Try.func40, Try.ntmps40
    go_wp2
    go_ret
    exact ⟨rfl, below_al (below_al (Below.refl _ _) _) _⟩

theorem less_no (x y : Int) (h : ¬ x < y) (w : World) :
    Calls Try.prog 40 #[.agg #[.int .u64 (hi x), .int .u64 (lo x)], .agg #[.int .u64 (hi y), .int .u64 (lo y)]] w fun e w' => e = .returned (.bool false) ∧ Below w.heap.size w w' := by
  have H := h
  rw [← less_parts] at H
  clear h
  by_cases h1 : hi x < hi y
  · exact absurd (.inl h1) H
  · by_cases h2 : hi x = hi y
    · have h3 : ¬ lo x < lo y := by omega
      have h2 : (hi x == hi y) = true := beq_iff_eq.2 h2
      clear H
      go_enter Try.func40, Try.ntmps40
      go_wp2
      go_ret
      exact ⟨rfl, below_al (below_al (Below.refl _ _) _) _⟩
    · have h2 : (hi x == hi y) = false := beq_eq_false_iff_ne.2 h2
      clear H
      go_enter Try.func40, Try.ntmps40
      go_wp2
      go_ret
      exact ⟨rfl, below_al (below_al (Below.refl _ _) _) _⟩

end Go.Proofs.Ytooapbhjnibaoaa
