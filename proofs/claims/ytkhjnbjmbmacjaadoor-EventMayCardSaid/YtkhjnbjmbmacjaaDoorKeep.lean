/- A region whose operations may come up in any order: operations that only read, and calls that only lay new blocks, are taken first; what is left is walked in its order.
   Conditions: such an operation yields one value in every world that has grown out of the world at the region's head. -/
import Derived.StillTail
import Derived.Deep.Quiet
import Derived.Deep.QuietTactic
import Derived.Below
import Derived.BigRegion
namespace Go.Proofs.YtkhjnbjmbmacjaaDoor
open Go Go.RowKit

/-- Of the blocks that lay in w those in F alone may have turned. -/
structure Touch (F : Nat → Prop) (w w' : World) : Prop where
  os : w'.os = w.os
  tape : w'.tape = w.tape
  output : w'.output = w.output
  size : w.heap.size ≤ w'.heap.size
  block : ∀ k, k < w.heap.size → ¬ F k → w'.heap[k]? = w.heap[k]?
theorem Touch.refl (F : Nat → Prop) (w : World) : Touch F w w := ⟨rfl, rfl, rfl, Nat.le_refl _, fun _ _ _ => rfl⟩
theorem Touch.trans {F : Nat → Prop} {a b c : World} (h : Touch F a b) (k : Touch F b c) : Touch F a c :=
  ⟨k.os.trans h.os, k.tape.trans h.tape, k.output.trans h.output, Nat.le_trans h.size k.size, fun i hi hf => (k.block i (Nat.lt_of_lt_of_le hi h.size) hf).trans (h.block i hi hf)⟩
theorem Touch.of_below {F : Nat → Prop} {w w' : World} (h : Below w.heap.size w w') : Touch F w w' := ⟨h.os, h.tape, h.output, h.size, fun k hk _ => h.block k hk⟩
theorem Touch.mono {F G : Nat → Prop} {w w' : World} (h : Touch F w w') (hf : ∀ k, k < w.heap.size → F k → G k) : Touch G w w' :=
  ⟨h.os, h.tape, h.output, h.size, fun k hk hn => h.block k hk (fun hF => hn (hf k hk hF))⟩
theorem Touch.below {F : Nat → Prop} {B : Nat} {w w' : World} (h : Touch F w w') (hB : B ≤ w.heap.size) (hf : ∀ k, k < B → ¬ F k) : Below B w w' :=
  ⟨h.os, h.tape, h.output, h.size, fun k hk => h.block k (by omega) (hf k hk)⟩
theorem Touch.grown {F : Nat → Prop} {w w' : World} {row : Option Nat} (h : w.grownBy w' row) (hf : ∀ k, row = some k → k < w.heap.size → F k) : Touch F w w' :=
  ⟨h.os, h.tape, h.output, h.size, fun k hk hn => h.block k hk (fun e => hn (hf k e.symm hk))⟩

section
variable {F : Nat → Prop} {P : Program} {ops : Array Oper} {md : Region.Mode}

/-- In every world grown out of w0 the operation yields v, and at most lays blocks. -/
def calmAt (F : Nat → Prop) (P : Program) (o : Oper) (a : Act) (w0 : World) (v : Value) : Prop :=
  ∀ w, Touch F w0 w → o.quietAt P a (fun w2 => Touch F w w2) w v

def calm (F : Nat → Prop) (P : Program) (o : Oper) (a : Act) (w0 : World) (next : Act → Prop) : Prop := ∃ v, calmAt F P o a w0 v ∧ next (a.put o.dst v)

def YieldsC (F : Nat → Prop) (P : Program) (ops : Array Oper) (w0 : World) (o : Oper) (v : Value) (a : Act) : Prop :=
  (Region.wanted o (yielded ops a.tmps) = true ∧ calmAt F P o a w0 v) ∨ (Region.wanted o (yielded ops a.tmps) = false ∧ v = undef)

theorem YieldsC.of_same {w0 : World} {o : Oper} {v : Value} {a a' : Act} (hy : YieldsC F P ops w0 o v a) (he : execOp a'.eval o = execOp a.eval o)
    (hw : Region.wanted o (yielded ops a'.tmps) = Region.wanted o (yielded ops a.tmps)) : YieldsC F P ops w0 o v a' := by
  unfold YieldsC calmAt Oper.quietAt at *
  rw [he, hw]
  exact hy



theorem YieldsC.later {w0 w1 : World} {o : Oper} {v : Value} {a : Act} (hy : YieldsC F P ops w0 o v a) (hb : Touch F w0 w1) : YieldsC F P ops w1 o v a :=
  hy.imp (fun ⟨h1, h2⟩ => ⟨h1, fun w hw => h2 w (Touch.trans hb hw)⟩) id

/-- One operation of the front: no panic; the world has only grown. -/
def bOp (P : Program) (ops : Array Oper) (i : Nat) (K : Act → World → Prop) (a : Act) (w : World) : Prop :=
  match ops[i]? with
  | none => False
  | some o => if Region.wanted o (yielded ops a.tmps) then o.wp P a w K (fun _ _ _ => False) else K (a.put o.dst undef) w

theorem wp_weaken {o : Oper} {a : Act} {w : World} {K K' : Act → World → Prop} {Q : Exit → Act → World → Prop} (h : ∀ a w, K a w → K' a w)
    (hh : o.wp P a w K (fun _ _ _ => False)) : o.wp P a w K' Q := by
  unfold Oper.wp at *
  generalize (execOp a.eval o).run P w = r at *
  cases r with
  | ok n w' =>
    cases n <;> simp only [Oper.upon] at hh ⊢ <;>
      first
        | exact h _ _ hh
        | (refine Calls.mono hh (fun e w'' he => ?_); cases e
           · exact h _ _ he
           · exact (he : False).elim
           · exact (he.elim fun _ h => h.elim fun _ h => h.elim))
        | exact Rows.mono hh (fun _ _ he => h _ _ he)
  | halt x w' => cases x <;> simp only [Oper.upon] at hh

theorem wpOp_of_bOp {i : Nat} {K K' : Act → World → Prop} {Q : Exit → Act → World → Prop} {a : Act} {w : World} (h : ∀ a w, K a w → K' a w) (hh : bOp P ops i K a w) : wpOp P ops Q i K' a w := by
  unfold bOp at hh
  unfold wpOp
  split
  · rename_i ho; simp only [ho] at hh
  · rename_i o ho
    simp only [ho] at hh
    split
    · rename_i hw; simp only [hw, if_true] at hh; exact .inl (wp_weaken h hh)
    · rename_i hw; simp only [hw] at hh; exact h _ _ hh

theorem bOp_mono {i : Nat} {K K' : Act → World → Prop} {a : Act} {w : World} (h : ∀ a w, K a w → K' a w) (hh : bOp P ops i K a w) : bOp P ops i K' a w := by
  unfold bOp at *
  split
  · rename_i ho; simp only [ho] at hh
  · rename_i o ho
    simp only [ho] at hh
    split
    · rename_i hw; simp only [hw, if_true] at hh; exact wp_weaken h hh
    · rename_i hw; simp only [hw] at hh; exact h _ _ hh

theorem YieldsC.bOp {i : Nat} {o : Oper} {v : Value} {a : Act} {w0 w : World} (hi : ops[i]? = some o) (hy : YieldsC F P ops w0 o v a) (hw0 : Touch F w0 w)
    {K : Act → World → Prop} (h : ∀ w', Touch F w w' → K (a.put o.dst v) w') : bOp P ops i K a w := by
  unfold Go.Proofs.YtkhjnbjmbmacjaaDoor.bOp
  simp only [hi]
  rcases hy with ⟨hw, hv⟩ | ⟨hw, rfl⟩
  · simp only [hw, if_true]
    have h3 := hv w hw0
    unfold Oper.quietAt at h3
    unfold Oper.wp
    generalize (execOp a.eval o).run P w = r at *
    cases r with
    | ok n w' =>
      cases n <;> simp only [Oper.quietUpon] at h3 <;> simp only [Oper.upon]
      case value u => obtain ⟨rfl, rfl⟩ := h3; exact h _ (Touch.refl _ _)
      case skip => obtain ⟨rfl, rfl⟩ := h3; exact h _ (Touch.refl _ _)
      case enter f args =>
        obtain ⟨rfl, hc⟩ := h3
        exact hc.mono fun e w'' ⟨he, hw''⟩ => by subst he; exact h _ hw''
    | halt x w' => simp only [Oper.quietUpon] at h3
  · simp only [hw, Bool.false_eq_true, if_false]; exact h _ (Touch.refl _ _)

theorem bOp_put {j : Nat} {oi oj : Oper} {v : Value} {w0 : World} (hj : ops[j]? = some oj) (hap : oi.apart ops oj = true)
    (hsi : ∀ cs b, oi.op ≠ .select cs b) (hsj : ∀ cs b, oj.op ≠ .select cs b) {K : Act → World → Prop} {a : Act} {w : World}
    (hy : YieldsC F P ops w0 oi v a) (h : bOp P ops j K (a.put oi.dst v) w) :
    bOp P ops j (fun a' w' => YieldsC F P ops w0 oi v a' ∧ K (a'.put oi.dst v) w') a w := by
  obtain ⟨h1, h2, h3⟩ := Oper.apart_spec hap
  have keep : ∀ (a : Act), YieldsC F P ops w0 oi v a → ∀ u, YieldsC F P ops w0 oi v (a.put oj.dst u) := fun a hy u =>
    hy.of_same (execOp_put oi hsi a oj.dst u h3) (wanted_put oi a oj.dst u h3)
  have keepD : ∀ d, YieldsC F P ops w0 oi v { a with defers := d :: a.defers } := fun d => hy.of_same rfl rfl
  unfold bOp at *
  simp only [hj] at *
  rw [wanted_put oj a oi.dst v h1] at h
  split
  · rename_i hw
    simp only [hw, if_true] at h
    unfold Oper.wp at *
    rw [execOp_put oj hsj a oi.dst v h1] at h
    generalize (execOp a.eval oj).run P w = r at *
    cases r with
    | ok n w' =>
      cases n <;> simp only [Oper.upon] at h ⊢
      case value u => exact ⟨keep a hy u, by rw [← Act.put_comm a v u h2]; exact h⟩
      case skip => exact ⟨keep a hy _, by rw [← Act.put_comm a v undef h2]; exact h⟩
      case defer d =>
        refine ⟨keep _ (keepD d) _, ?_⟩
        rw [← Act.put_comm _ v undef h2, ← Act.put_defers]
        exact h
      case enter f args =>
        refine Calls.mono h fun e w'' he => ?_
        cases e with
        | returned u => exact ⟨keep a hy u, by rw [← Act.put_comm a v u h2]; exact he⟩
        | panicked c => exact he
        | outgrown => exact he
      case row row args => exact Rows.mono h fun u w'' he => ⟨keep a hy u, by rw [← Act.put_comm a v u h2]; exact he⟩
    | halt x w' =>
      cases x <;> simp only [Oper.upon] at h ⊢
  · rename_i hw
    simp only [hw] at h
    exact ⟨keep a hy _, by rw [← Act.put_comm a v undef h2]; exact h⟩

/-- A copy, or a part of a tuple: the world plays no part. -/
def pureKind (o : Oper) : Bool := match o.op with | .move _ | .assign _ | .extract _ _ => true | _ => false

theorem pure_any {ρ : Operand → Value} {o : Oper} {C : World → Prop} {v : Value} {w : World} (hk : pureKind o = true) (h : Oper.quietUpon P C w v ((execOp ρ o).run P w)) (w' : World) :
    (execOp ρ o).run P w' = .ok (.value v) w' := by
  unfold pureKind at hk
  split at hk
  · rename_i x hx
    rw [BigFrame.run_move x hx] at h ⊢
    simp only [Oper.quietUpon] at h
    rw [h.2]
  · rename_i x hx
    rw [BigFrame.run_assign x hx] at h ⊢
    simp only [Oper.quietUpon] at h
    rw [h.2]
  · rename_i x ix hx
    unfold execOp at h ⊢
    rw [hx] at h ⊢
    simp only [Instr.extract] at h ⊢
    cases hr : ρ x with
    | tuple vs =>
      rw [hr] at h
      cases hv : vs[ix]? with
      | none => simp [hv, Oper.quietUpon, stuck] at h
      | some u => simp [hv, Oper.quietUpon] at h ⊢; exact h
    | _ => rw [hr] at h; simp [Oper.quietUpon, stuck] at h
  · cases hk

theorem YieldsC.yields {w0 : World} {o : Oper} {v : Value} {a : Act} (hk : pureKind o = true) (hy : YieldsC F P ops w0 o v a) : Yields P ops o v a :=
  hy.imp (fun ⟨h1, h2⟩ => ⟨h1, fun w => pure_any (C := fun w2 => Touch F w0 w2) hk (h2 w0 (Touch.refl _ _)) w⟩) id

/-- What is listed is closed under the edges. -/
structure Closed (md : Region.Mode) (ops : Array Oper) (l : Array Bool) : Prop where
  size : l.size = ops.size
  closed : ∀ j oj, ops[j]? = some oj → l.getD j false = true → ∀ e ∈ oj.after, Region.binds md e = true → l.getD e.on false = true

theorem Closed.set {i : Nat} {l : Array Bool} (inv : Closed md ops l) (hi : i ∈ Region.ready md ops l) : Closed md ops (l.setIfInBounds i true) := by
  obtain ⟨_, oi, hoi, hall⟩ := mem_ready.1 hi
  refine ⟨by simp [inv.size], fun j oj hj hl e he hb => ?_⟩
  by_cases hij : i = j
  · subst hij
    have : oj = oi := Option.some.inj (hj.symm.trans hoi)
    subst this
    exact getD_set_true (hall e he hb)
  · rw [getD_set_ne false hij] at hl
    exact getD_set_true (inv.closed j oj hj hl e he hb)

/-- Which operations wait for i, by a chain of edges: one after the other, in the order of the text. -/
def reachL (md : Region.Mode) (i : Nat) : List Oper → List Bool → List Bool
  | [], r => r
  | o :: os, r => reachL md i os (r ++ [o.after.any fun e => Region.binds md e && (e.on == i || r.getD e.on false)])

def ReachOk (md : Region.Mode) (ops : Array Oper) (i : Nat) (r : List Bool) : Prop :=
  ∀ t, r.getD t false = true → ∃ o, ops[t]? = some o ∧ ∃ e ∈ o.after, Region.binds md e = true ∧ (e.on = i ∨ (e.on < t ∧ r.getD e.on false = true))

theorem reachL_ok {i : Nat} : ∀ (os pre : List Oper) (r : List Bool), ops.toList = pre ++ os → r.length = pre.length → ReachOk md ops i r → ReachOk md ops i (reachL md i os r)
  | [], _, _, _, _, h => h
  | o :: os, pre, r, ho, hl, h => by
    refine reachL_ok os (pre ++ [o]) _ (by rw [ho, List.append_assoc]; rfl) (by simp [hl]) ?_
    intro t ht
    rw [List.getD_eq_getElem?_getD] at ht
    rcases Nat.lt_trichotomy t r.length with hlt | heq | hgt
    · rw [List.getElem?_append_left hlt, ← List.getD_eq_getElem?_getD] at ht
      obtain ⟨o', h1, e, he, hb, h2⟩ := h t ht
      refine ⟨o', h1, e, he, hb, h2.imp id fun ⟨h3, h4⟩ => ⟨h3, ?_⟩⟩
      rw [List.getD_eq_getElem?_getD, List.getElem?_append_left (by omega), ← List.getD_eq_getElem?_getD]
      exact h4
    · subst heq
      rw [List.getElem?_append_right (Nat.le_refl _), Nat.sub_self] at ht
      simp only [List.getElem?_cons_zero, Option.getD_some] at ht
      obtain ⟨e, he, hb⟩ := Array.any_eq_true'.1 ht
      simp only [Bool.and_eq_true, Bool.or_eq_true, beq_iff_eq] at hb
      refine ⟨o, ?_, e, he, hb.1, hb.2.imp id fun h4 => ?_⟩
      · rw [← Array.getElem?_toList, ho, hl, List.getElem?_append_right (Nat.le_refl _), Nat.sub_self]; rfl
      · have hlt : e.on < r.length := by
          rcases Nat.lt_or_ge e.on r.length with h5 | h5
          · exact h5
          · rw [List.getD_eq_getElem?_getD, List.getElem?_eq_none h5] at h4; cases h4
        refine ⟨hlt, ?_⟩
        rw [List.getD_eq_getElem?_getD, List.getElem?_append_left hlt, ← List.getD_eq_getElem?_getD]
        exact h4
    · rw [List.getElem?_eq_none (by simp; omega)] at ht
      cases ht

theorem reach_listed {i : Nat} {l : Array Bool} {r : List Bool} (inv : Closed md ops l) (hr : ReachOk md ops i r) : ∀ (t : Nat), r.getD t false = true → (∀ o, ops[t]? = some o → ∀ e ∈ o.after, Region.binds md e = true → l.getD e.on false = true) → l.getD i false = true := by
  intro t
  induction t using Nat.strongRecOn with
  | _ t ih =>
    intro ht hall
    obtain ⟨o, ho, e, he, hb, h2⟩ := hr t ht
    have hl := hall o ho e he hb
    rcases h2 with h2 | ⟨h3, h4⟩
    · rw [← h2]; exact hl
    · exact ih e.on h3 h4 (fun o' ho' e' he' hb' => inv.closed _ _ ho' hl e' he' hb')

/-- Every operation from n on waits for i. -/
def lateB (md : Region.Mode) (ops : Array Oper) (n i : Nat) : Bool := (List.range ops.size).all fun t => decide (t < n) || (reachL md i ops.toList []).getD t false

theorem lateB_ready {n i : Nat} {l : Array Bool} (inv : Closed md ops l) (hl : lateB md ops n i = true) (hun : l.getD i true = false) : ∀ j ∈ Region.ready md ops l, j < n := by
  intro j hj
  obtain ⟨_, o, ho, hall⟩ := mem_ready.1 hj
  have hlt := (Array.getElem?_eq_some_iff.1 ho).1
  have h := List.all_eq_true.1 hl j (List.mem_range.2 hlt)
  simp only [Bool.or_eq_true, decide_eq_true_eq] at h
  rcases h with h | h
  · exact h
  · have hr : ReachOk md ops i (reachL md i ops.toList []) := reachL_ok ops.toList [] [] rfl rfl (fun t ht => by simp at ht)
    have := reach_listed inv hr j h (fun o' ho' => by rw [ho] at ho'; cases ho'; exact hall)
    rw [getD_both hun] at this
    cases this

/-- Whatever order is picked from here on, in whatever world grown out of w0; f operations below n are left, g from n on. -/
def wpB (F : Nat → Prop) (P : Program) (md : Region.Mode) (ops : Array Oper) (n g : Nat) (Q : Exit → Act → World → Prop) : Nat → World → Array Bool → Act → Prop
  | 0, w0, l, a => (∀ j ∈ Region.ready md ops l, n ≤ j) ∧ ∀ w, Touch F w0 w → wpAny P md ops Q g l a w
  | f + 1, w0, l, a => Region.ready md ops l ≠ [] ∧ ∀ i ∈ Region.ready md ops l, ∀ w, Touch F w0 w →
      (i < n → bOp P ops i (fun a' w' => Touch F w w' ∧ wpB F P md ops n g Q f w' (l.setIfInBounds i true) a') a w) ∧
      (n ≤ i → wpOp P ops Q i (wpAny P md ops Q (f + g) (l.setIfInBounds i true)) a w)

theorem wpB_later {n g : Nat} {Q : Exit → Act → World → Prop} {w0 w1 : World} (hb : Touch F w0 w1) :
    ∀ (f : Nat) (l : Array Bool) (a : Act), wpB F P md ops n g Q f w0 l a → wpB F P md ops n g Q f w1 l a
  | 0, _, _, h => ⟨h.1, fun w hw => h.2 w (Touch.trans hb hw)⟩
  | _ + 1, _, _, h => ⟨h.1, fun i hi w hw => h.2 i hi w (Touch.trans hb hw)⟩

theorem wpAny_of_B {n g : Nat} {Q : Exit → Act → World → Prop} :
    ∀ (f : Nat) (w0 : World) (l : Array Bool) (a : Act), wpB F P md ops n g Q f w0 l a → ∀ w, Touch F w0 w → wpAny P md ops Q (f + g) l a w
  | 0, _, _, _, h, w, hw => by rw [Nat.zero_add]; exact h.2 _ hw
  | f + 1, w0, l, a, h, w, hw => by
    rw [show f + 1 + g = (f + g) + 1 by omega]
    refine ⟨fun h0 => absurd h0 h.1, fun i hi => ?_⟩
    rcases Nat.lt_or_ge i n with hin | hin
    · exact wpOp_of_bOp (fun a' w' h' => wpAny_of_B f w' _ a' h'.2 w' (Touch.refl _ _)) ((h.2 i hi w hw).1 hin)
    · exact (h.2 i hi w hw).2 hin

theorem late_put {F i j : Nat} {oi oj : Oper} {v : Value} {Q : Exit → Act → World → Prop} {l : Array Bool} {a : Act} {w : World} (hi : ops[i]? = some oi) (hsel : ∀ (j : Nat) (o : Oper) cs b, ops[j]? = some o → o.op ≠ .select cs b)
    (hQ : ∀ c a w, Q (.panic c) (a.put oi.dst v) w → Q (.panic c) a w) (hj : ops[j]? = some oj) (hji : j ≠ i) (hap : oi.apart ops oj = true)
    (hfree : ∀ k ok, ops[k]? = some ok → k ≠ i → l.getD k true = false → (∀ e ∈ ok.after, Region.binds md e = true → e.on ≠ i) → oi.apart ops ok = true) (hjun : l.getD j true = false)
    (hr : i ∈ Region.ready md ops l) (hy : Yields P ops oi v a) (h : wpOp P ops Q j (wpAny P md ops Q F ((l.setIfInBounds i true).setIfInBounds j true)) (a.put oi.dst v) w) :
    wpOp P ops Q j (wpAny P md ops Q (F + 1) (l.setIfInBounds j true)) a w := by
  have h2 := wpOp_put hj hap (fun cs b => hsel i oi cs b hi) (fun cs b => hsel j oj cs b hj) hQ hy h
  have hfree' : ∀ k ok, ops[k]? = some ok → k ≠ i → (l.setIfInBounds j true).getD k true = false →
      (∀ e ∈ ok.after, Region.binds md e = true → e.on ≠ i) → oi.apart ops ok = true := fun k ok hk hki hun hno => by
    refine hfree k ok hk hki ?_ hno
    by_cases hjk : j = k
    · subst hjk; exact hjun
    · rw [getD_set_ne true hjk] at hun; exact hun
  refine wpOp_mono (fun a' w' h3 => wpAny_first hi hsel hQ F (l.setIfInBounds j true) a' w' hfree' (ready_mono hr (Ne.symm hji)) h3.1 ?_) h2
  rw [Array.setIfInBounds_comm _ _ hji]
  exact h3.2

theorem wpB_first {n g i : Nat} {oi : Oper} {v : Value} {Q : Exit → Act → World → Prop} (hi : ops[i]? = some oi) (hsel : ∀ (j : Nat) (o : Oper) cs b, ops[j]? = some o → o.op ≠ .select cs b)
    (hin : i < n) (hp : lateB md ops n i = true ∨ (pureKind oi = true ∧ ∀ c a w, Q (.panic c) (a.put oi.dst v) w → Q (.panic c) a w)) :
    ∀ (f : Nat) (w0 : World) (l : Array Bool) (a : Act), Closed md ops l →
      (∀ j oj, ops[j]? = some oj → j ≠ i → l.getD j true = false → (∀ e ∈ oj.after, Region.binds md e = true → e.on ≠ i) → oi.apart ops oj = true) →
      i ∈ Region.ready md ops l → YieldsC F P ops w0 oi v a →
      wpB F P md ops n g Q f w0 (l.setIfInBounds i true) (a.put oi.dst v) → wpB F P md ops n g Q (f + 1) w0 l a := by
  intro f
  induction f with
  | zero =>
    intro w0 l a inv hfree hr hy H
    have hun := (mem_ready.1 hr).1
    refine ⟨fun h => (by rw [h] at hr; cases hr), fun j hj w hw => ⟨fun hjn => ?_, fun hjn => ?_⟩⟩
    · by_cases hji : j = i
      · subst hji; exact hy.bOp hi hw fun w' hw' => ⟨hw', wpB_later (Touch.trans hw hw') 0 _ _ H⟩
      · have := H.1 j (ready_mono hj hji)
        omega
    · rcases hp with hl | ⟨hk, hQ⟩
      · have := lateB_ready inv hl hun j hj
        omega
      · have hji : j ≠ i := by omega
        obtain ⟨hjun, oj, hoj, hall⟩ := mem_ready.1 hj
        have hnot : ∀ e ∈ oj.after, Region.binds md e = true → e.on ≠ i := fun e he hb heq => by
          have h1 := hall e he hb
          rw [heq, getD_both hun] at h1
          cases h1
        have h1 := H.2 w hw
        cases g with
        | zero =>
          have := ready_mono hj hji
          rw [h1.1] at this
          cases this
        | succ g =>
          have h2 := h1.2 j (ready_mono hj hji)
          have := late_put hi hsel hQ hoj hji (hfree j oj hoj hji hjun hnot) hfree hjun hr (hy.yields hk) h2
          rwa [Nat.zero_add]
  | succ f ih =>
    intro w0 l a inv hfree hr hy H
    have hun := (mem_ready.1 hr).1
    refine ⟨fun h => (by rw [h] at hr; cases hr), fun j hj w hw => ?_⟩
    obtain ⟨hjun, oj, hoj, hall⟩ := mem_ready.1 hj
    have hnot : ∀ e ∈ oj.after, Region.binds md e = true → e.on ≠ i := fun e he hb heq => by
      have h1 := hall e he hb
      rw [heq, getD_both hun] at h1
      cases h1
    refine ⟨fun hjn => ?_, fun hjn => ?_⟩
    · by_cases hji : j = i
      · subst hji; exact hy.bOp hi hw fun w' hw' => ⟨hw', wpB_later (Touch.trans hw hw') _ _ _ H⟩
      · have h1 := (H.2 j (ready_mono hj hji) w hw).1 hjn
        have h2 := bOp_put hoj (hfree j oj hoj hji hjun hnot) (fun cs b => hsel i oi cs b hi) (fun cs b => hsel j oj cs b hoj) hy h1
        have hfree' : ∀ k ok, ops[k]? = some ok → k ≠ i → (l.setIfInBounds j true).getD k true = false →
            (∀ e ∈ ok.after, Region.binds md e = true → e.on ≠ i) → oi.apart ops ok = true := fun k ok hk hki hun hno => by
          refine hfree k ok hk hki ?_ hno
          by_cases hjk : j = k
          · subst hjk; exact hjun
          · rw [getD_set_ne true hjk] at hun; exact hun
        refine bOp_mono (fun a' w' h3 => ⟨h3.2.1, ih w' (l.setIfInBounds j true) a' (inv.set hj) hfree' (ready_mono hr (Ne.symm hji)) (h3.1.later (Touch.trans hw h3.2.1)) ?_⟩) h2
        rw [Array.setIfInBounds_comm _ _ hji]
        exact h3.2.2
    · rcases hp with hl | ⟨hk, hQ⟩
      · have := lateB_ready inv hl hun j hj
        omega
      · have hji : j ≠ i := by omega
        have h1 := (H.2 j (ready_mono hj hji) w hw).2 hjn
        have := late_put hi hsel hQ hoj hji (hfree j oj hoj hji hjun hnot) hfree hjun hr (hy.yields hk) h1
        rwa [show f + 1 + g = f + g + 1 by omega]

def closedB (md : Region.Mode) (ops : Array Oper) (l : Array Bool) : Bool :=
  decide (l.size = ops.size) &&
  ((List.range ops.size).all fun j => !l.getD j false || match ops[j]? with
    | some o => o.after.all fun e => !Region.binds md e || l.getD e.on false
    | none => true)

theorem closedB_spec {l : Array Bool} (h : closedB md ops l = true) : Closed md ops l := by
  simp only [closedB, Bool.and_eq_true, decide_eq_true_eq] at h
  obtain ⟨h1, h2⟩ := h
  refine ⟨h1, fun j oj hj hl e he hb => ?_⟩
  have := List.all_eq_true.1 h2 j (List.mem_range.2 (Array.getElem?_eq_some_iff.1 hj).1)
  rw [hl, hj] at this
  simp only [Bool.not_true, Bool.false_or] at this
  have := Array.all_eq_true_iff_forall_mem.1 this e he
  rw [hb] at this
  simpa using this

abbrev wpT (F : Nat → Prop) (P : Program) (ops : Array Oper) (n g : Nat) (Q : Exit → Act → World → Prop) (f : Nat) (w0 : World) (l : Array Bool) (a : Act) : Prop :=
  wpB F P .any ops n g Q f w0 l a

/-- The lexical walk over the operations that are taken first. -/
def wpCalm (F : Nat → Prop) (P : Program) (ops : Array Oper) (w0 : World) (Q : Act → Prop) : List Oper → Act → Prop
  | [], a => Q a
  | o :: rest, a => if Region.wanted o (yielded ops a.tmps) then calm F P o a w0 (wpCalm F P ops w0 Q rest) else wpCalm F P ops w0 Q rest (a.put o.dst undef)

theorem wpCalm_nil {w0 : World} {Q : Act → Prop} {a : Act} (h : Q a) : wpCalm F P ops w0 Q [] a := h
theorem wpCalm_want {w0 : World} {Q : Act → Prop} {a : Act} {o : Oper} {rest : List Oper} {v : Value} (hw : Region.wanted o (yielded ops a.tmps) = true)
    (hv : ∀ w, Touch F w0 w → Oper.quietUpon P (fun w2 => Touch F w w2) w v ((execOp a.eval o).run P w)) (h : wpCalm F P ops w0 Q rest (a.put o.dst v)) : wpCalm F P ops w0 Q (o :: rest) a := by
  unfold wpCalm
  rw [if_pos hw]
  exact ⟨v, hv, h⟩
theorem wpCalm_ex {w0 : World} {Q : Act → Prop} {a : Act} {o : Oper} {rest : List Oper} (hw : Region.wanted o (yielded ops a.tmps) = true)
    (hv : ∃ v, (∀ w, Touch F w0 w → Oper.quietUpon P (fun w2 => Touch F w w2) w v ((execOp a.eval o).run P w)) ∧ wpCalm F P ops w0 Q rest (a.put o.dst v)) : wpCalm F P ops w0 Q (o :: rest) a :=
  let ⟨_, h1, h2⟩ := hv
  wpCalm_want hw h1 h2
theorem wpCalm_skip {w0 : World} {Q : Act → Prop} {a : Act} {o : Oper} {rest : List Oper} (hw : Region.wanted o (yielded ops a.tmps) = false)
    (h : wpCalm F P ops w0 Q rest (a.put o.dst undef)) : wpCalm F P ops w0 Q (o :: rest) a := by
  unfold wpCalm
  rw [if_neg (by rw [hw]; exact Bool.false_ne_true)]
  exact h

/-- A callee that leaves the world alone. -/
theorem calm_same {f : FuncId} {args : Array Value} {w : World} {v : Value} (h : Calls P f args w fun e w' => e = .returned v ∧ w = w') :
    Calls P f args w fun e w' => e = .returned v ∧ Touch F w w' := h.mono fun _ _ ⟨he, hw⟩ => ⟨he, by subst hw; exact Touch.refl _ _⟩

def pureAt (ops : Array Oper) (i : Nat) : Bool := match ops[i]? with | some o => pureKind o | none => false

def calmOk (ops : Array Oper) (n : Nat) : List Nat → Array Bool → Bool
  | [], _ => true
  | i :: cs, l => Region.free .any ops l i && (Region.ready .any ops l).contains i && decide (i < n) && closedB .any ops l && (lateB .any ops n i || pureAt ops i) && calmOk ops n cs (l.setIfInBounds i true)

def listedBy : List Nat → Array Bool → Array Bool
  | [], l => l
  | i :: cs, l => listedBy cs (l.setIfInBounds i true)

theorem wpT_calm {n g f : Nat} {Q : Exit → Act → World → Prop} {w0 : World} (hs : Region.noSelect ops = true) (hQ : ∀ (d : Tmp) (v : Value) c a w, Q (.panic c) (Act.put a (some d) v) w → Q (.panic c) a w) :
    ∀ (cs : List Nat) (os : List Oper) (l : Array Bool) (a : Act), os.map some = cs.map (fun i => ops[i]?) → calmOk ops n cs l = true →
      wpCalm F P ops w0 (fun a' => wpT F P ops n g Q f w0 (listedBy cs l) a') os a → wpT F P ops n g Q (f + cs.length) w0 l a
  | [], os, l, a, ho, _, h => by
    obtain rfl : os = [] := by simpa using ho
    exact h
  | i :: cs, [], l, a, ho, _, h => by simp at ho
  | i :: cs, o :: os, l, a, ho, hc, h => by
    simp only [List.map_cons, List.cons.injEq] at ho
    simp only [calmOk, Bool.and_eq_true, decide_eq_true_eq] at hc
    obtain ⟨⟨⟨⟨⟨h5, h6⟩, h3⟩, h4⟩, h7⟩, hc⟩ := hc
    have hi : ops[i]? = some o := ho.1.symm
    have step : ∀ v, YieldsC F P ops w0 o v a → wpCalm F P ops w0 (fun a' => wpT F P ops n g Q f w0 (listedBy (i :: cs) l) a') os (a.put o.dst v) → wpT F P ops n g Q (f + (i :: cs).length) w0 l a := fun v hy hk =>
      wpB_first hi (Region.noSelect_spec hs) h3 (by
          simp only [Bool.or_eq_true] at h7
          refine h7.imp id fun h => ⟨?_, fun c a w hq => ?_⟩
          · unfold pureAt at h
            rw [hi] at h
            exact h
          · cases hd : o.dst with
            | none => rw [hd] at hq; exact hq
            | some d => rw [hd] at hq; exact hQ d _ c a w hq) (f + cs.length) w0 l a (closedB_spec h4) (Region.free_spec hi h5) (by simpa using h6) hy
        (wpT_calm hs hQ cs os _ _ ho.2 hc hk)
    unfold wpCalm at h
    by_cases hw : Region.wanted o (yielded ops a.tmps) = true
    · rw [if_pos hw] at h
      obtain ⟨v, hv, hk⟩ := h
      exact step v (.inl ⟨hw, hv⟩) hk
    · rw [if_neg hw] at h
      exact step undef (.inr ⟨by simpa using hw, rfl⟩) h

/-- One operation alone may come up: it is run; behind it the world has only grown. -/
theorem wpT_one {n g f : Nat} {oi : Oper} {Q : Exit → Act → World → Prop} {w0 : World} {l : Array Bool} {a : Act} (i : Nat) (hi : ops[i]? = some oi)
    (hc : (Region.ready .any ops l == [i] && decide (i < n)) = true)
    (h : ∀ w, Touch F w0 w → ∀ K : Act → World → Prop, (∀ a' w', Touch F w w' → wpT F P ops n g Q f w' (l.setIfInBounds i true) a' → K a' w') →
      if Region.wanted oi (yielded ops a.tmps) then oi.wp P a w K (fun _ _ _ => False) else K (a.put oi.dst undef) w) : wpT F P ops n g Q (f + 1) w0 l a := by
  simp only [Bool.and_eq_true, decide_eq_true_eq, beq_iff_eq] at hc
  obtain ⟨h1, h2⟩ := hc
  refine ⟨by rw [h1]; simp, fun j hj w hw => ?_⟩
  rw [h1] at hj
  obtain rfl : j = i := by simpa using hj
  refine ⟨fun _ => ?_, fun h => by omega⟩
  unfold bOp
  simp only [hi]
  exact h w hw _ (fun a' w' hb hk => ⟨hb, hk⟩)

/-- Several may come up, all below n. -/
theorem wpT_any {n g f : Nat} {Q : Exit → Act → World → Prop} {w0 : World} {l : Array Bool} {a : Act} (rs : List Nat) (hc : (Region.ready .any ops l == rs && !rs.isEmpty && rs.all (fun i => decide (i < n))) = true)
    (h : ∀ i ∈ rs, ∀ w, Touch F w0 w → bOp P ops i (fun a' w' => Touch F w w' ∧ wpT F P ops n g Q f w' (l.setIfInBounds i true) a') a w) : wpT F P ops n g Q (f + 1) w0 l a := by
  simp only [Bool.and_eq_true, beq_iff_eq] at hc
  obtain ⟨⟨h1, h2⟩, h3⟩ := hc
  refine ⟨by rw [h1]; intro e; rw [e] at h2; simp at h2, fun j hj w hw => ?_⟩
  rw [h1] at hj
  have h3 := List.all_eq_true.1 h3 j hj
  simp only [decide_eq_true_eq] at h3
  exact ⟨fun _ => h j hj w hw, fun h => by omega⟩

/-- The region of a text: cs (numbers) are taken first, in that order; f operations below n are left, then the tail. -/
def pickOps (l : List Oper) : List Nat → List Oper
  | [] => []
  | i :: cs => match l[i]? with
    | some o => o :: pickOps l cs
    | none => pickOps l cs

theorem pickOps_map (l : List Oper) : ∀ cs : List Nat, (cs.all fun i => decide (i < l.length)) = true → (pickOps l cs).map some = cs.map (fun i => l.toArray[i]?)
  | [], _ => rfl
  | i :: cs, h => by
    simp only [List.all_cons, Bool.and_eq_true, decide_eq_true_eq] at h
    have hi : l[i]? = some l[i] := List.getElem?_eq_getElem h.1
    have hi' : l.toArray[i]? = some l[i] := by simp
    simp only [pickOps, hi, List.map_cons, hi']
    rw [pickOps_map l cs h.2]

def calmAll (l : List Oper) (n : Nat) (cs : List Nat) (f : Nat) : Bool :=
  Region.noSelect l.toArray && decide (n ≤ l.length) && (f + cs.length == n) && (cs.all fun i => decide (i < l.length)) &&
    calmOk l.toArray n cs (Array.replicate l.length false)

theorem region_keeps {id : Nat} {Q : Exit → Act → World → Prop} {a : Act} {w : World} {l : List Oper} (n : Nat) (cs : List Nat) (f : Nat) (hm : P.follows .mixedOrders = true)
    (hB : calmAll l n cs f = true) (hQ : ∀ (d : Tmp) (v : Value) c a w, Q (.panic c) (Act.put a (some d) v) w → Q (.panic c) a w)
    (h : wpCalm F P l.toArray w (fun a' => wpT F P l.toArray n (l.length - n) Q f w (listedBy cs (Array.replicate l.length false)) a') (pickOps l cs) a) : (Code.region id l.toArray true).wp P Q a w := by
  simp only [calmAll, Bool.and_eq_true, decide_eq_true_eq, beq_iff_eq] at hB
  obtain ⟨⟨⟨⟨h1, h3⟩, h4⟩, h5⟩, h6⟩ := hB
  have H := wpT_calm (P := P) (Q := Q) (f := f) (w0 := w) h1 hQ cs (pickOps l cs) (Array.replicate l.length false) a (pickOps_map l cs h5) h6 h
  refine wp_region_any hm ?_
  have := wpAny_of_B _ _ _ _ H { w with drawn := w.drawn + 1 } ⟨rfl, rfl, rfl, Nat.le_refl _, fun _ _ _ => rfl⟩
  rw [h4, show n + (l.length - n) = l.length by omega] at this
  simpa using this

/-- What is left stands in one order, all of it from n on. -/
theorem wpT_tail {n : Nat} {Q : Exit → Act → World → Prop} {w0 : World} {ls : List Oper} {l : Array Bool} {a : Act} (hs : (Region.seqB .any ls.toArray (ls.length - n) n l && (Region.ready .any ls.toArray l).all (fun j => decide (n ≤ j))) = true)
    (h : ∀ w, Touch F w0 w → wpList P ls.toArray Q (ls.drop n) a w) : wpT F P ls.toArray n (ls.length - n) Q 0 w0 l a := by
  simp only [Bool.and_eq_true] at hs
  refine ⟨fun j hj => by simpa using List.all_eq_true.1 hs.2 j hj, fun w hw => ?_⟩
  have := wpAny_of_seq (md := .any) (ops := ls.toArray) (Q' := Q) (ls.drop n) n l a w (fun j => by simp [List.getElem?_drop]) (by
    have : (ls.drop n).length = ls.length - n := by simp
    rw [this]; exact hs.1) (h w hw)
  have hlen : (ls.drop n).length = ls.length - n := by simp
  rwa [hlen] at this
/-- Nothing is left. -/
theorem wpT_done {n : Nat} {Q : Exit → Act → World → Prop} {w0 : World} {ls : List Oper} {l : Array Bool} {a : Act} (hs : (Region.ready .any ls.toArray l == []) = true)
    (h : ∀ w, Touch F w0 w → Q .normal a w) : wpT F P ls.toArray n (ls.length - n) Q 0 w0 l a := by
  have hr : Region.ready .any ls.toArray l = [] := by simpa using hs
  refine ⟨fun j hj => ?_, fun w hw => wpAny_done hr (h w hw) _⟩
  rw [hr] at hj
  cases hj
end
end Go.Proofs.YtkhjnbjmbmacjaaDoor
