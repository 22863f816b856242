/- A region whose operations may come up in any order: operations that only read are taken first, in the very world at the region's head; what is left is walked in its order, in the very world that the last one left.
   Conditions: such a reading yields one value in every world that the relation T leads to from the region's head, and each operation ahead of the tail keeps to T. -/
import Derived.Test.YtkhjnbjmbmacjaaDoorKeep
namespace Go.Proofs.YtkhjnbjmbmacjaaDoor
open Go Go.RowKit

section
variable {T : World → World → Prop} {P : Program} {ops : Array Oper} {md : Region.Mode}

/-- A relation of worlds that may be run through one by one. -/
structure Runs (T : World → World → Prop) : Prop where
  refl : ∀ w, T w w
  trans : ∀ a b c, T a b → T b c → T a c

def YieldsR (T : World → World → Prop) (P : Program) (ops : Array Oper) (w0 : World) (o : Oper) (v : Value) (a : Act) : Prop :=
  (Region.wanted o (yielded ops a.tmps) = true ∧ ∀ w, T w0 w → (execOp a.eval o).run P w = .ok (.value v) w) ∨ (Region.wanted o (yielded ops a.tmps) = false ∧ v = undef)

theorem YieldsR.of_same {w0 : World} {o : Oper} {v : Value} {a a' : Act} (hy : YieldsR T P ops w0 o v a) (he : execOp a'.eval o = execOp a.eval o)
    (hw : Region.wanted o (yielded ops a'.tmps) = Region.wanted o (yielded ops a.tmps)) : YieldsR T P ops w0 o v a' := by
  unfold YieldsR at *
  rw [he, hw]
  exact hy
theorem YieldsR.later (hT : Runs T) {w0 w1 : World} {o : Oper} {v : Value} {a : Act} (hy : YieldsR T P ops w0 o v a) (hb : T w0 w1) : YieldsR T P ops w1 o v a :=
  hy.imp (fun ⟨h1, h2⟩ => ⟨h1, fun w hw => h2 w (hT.trans _ _ _ hb hw)⟩) id
theorem YieldsR.bOp (hT : Runs T) {i : Nat} {o : Oper} {v : Value} {a : Act} {w : World} (hi : ops[i]? = some o) (hy : YieldsR T P ops w o v a)
    {K : Act → World → Prop} (h : K (a.put o.dst v) w) : bOp P ops i K a w := by
  unfold Go.Proofs.YtkhjnbjmbmacjaaDoor.bOp
  simp only [hi]
  rcases hy with ⟨hw, hv⟩ | ⟨hw, rfl⟩
  · simp only [hw, if_true]
    have h3 := hv w (hT.refl w)
    unfold Oper.wp
    rw [h3]
    exact h
  · simp only [hw, Bool.false_eq_true, if_false]; exact h
theorem bOp_putR {j : Nat} {oi oj : Oper} {v : Value} {w0 : World} (hj : ops[j]? = some oj) (hap : oi.apart ops oj = true)
    (hsi : ∀ cs b, oi.op ≠ .select cs b) (hsj : ∀ cs b, oj.op ≠ .select cs b) {K : Act → World → Prop} {a : Act} {w : World}
    (hy : YieldsR T P ops w0 oi v a) (h : bOp P ops j K (a.put oi.dst v) w) :
    bOp P ops j (fun a' w' => YieldsR T P ops w0 oi v a' ∧ K (a'.put oi.dst v) w') a w := by
  obtain ⟨h1, h2, h3⟩ := Oper.apart_spec hap
  have keep : ∀ (a : Act), YieldsR T P ops w0 oi v a → ∀ u, YieldsR T P ops w0 oi v (a.put oj.dst u) := fun a hy u =>
    hy.of_same (execOp_put oi hsi a oj.dst u h3) (wanted_put oi a oj.dst u h3)
  have keepD : ∀ d, YieldsR T P ops w0 oi v { a with defers := d :: a.defers } := fun d => hy.of_same rfl rfl
  unfold bOp at *
  simp only [hj] at *
  rw [wanted_put oj a oi.dst v h1] at h
  split
  · rename_i hw
    simp only [hw, if_true] at h
    unfold Oper.wp at *
    rw [execOp_put oj hsj a oi.dst v h1] at h
    generalize (execOp a.eval oj).run P w = r at *
    cases r with
    | ok n w' =>
      cases n <;> simp only [Oper.upon] at h ⊢
      case value u => exact ⟨keep a hy u, by rw [← Act.put_comm a v u h2]; exact h⟩
      case skip => exact ⟨keep a hy _, by rw [← Act.put_comm a v undef h2]; exact h⟩
      case defer d =>
        refine ⟨keep _ (keepD d) _, ?_⟩
        rw [← Act.put_comm _ v undef h2, ← Act.put_defers]
        exact h
      case enter f args =>
        refine Calls.mono h fun e w'' he => ?_
        cases e with
        | returned u => exact ⟨keep a hy u, by rw [← Act.put_comm a v u h2]; exact he⟩
        | panicked c => exact he
        | outgrown => exact he
      case row row args => exact Rows.mono h fun u w'' he => ⟨keep a hy u, by rw [← Act.put_comm a v u h2]; exact he⟩
    | halt x w' =>
      cases x <;> simp only [Oper.upon] at h ⊢
  · rename_i hw
    simp only [hw] at h
    exact ⟨keep a hy _, by rw [← Act.put_comm a v undef h2]; exact h⟩

/-- Whatever order is picked from here on; f operations below n are left, g from n on. -/
def wpR (T : World → World → Prop) (P : Program) (md : Region.Mode) (ops : Array Oper) (n g : Nat) (Q : Exit → Act → World → Prop) : Nat → World → Array Bool → Act → Prop
  | 0, w, l, a => (∀ j ∈ Region.ready md ops l, n ≤ j) ∧ wpAny P md ops Q g l a w
  | f + 1, w, l, a => Region.ready md ops l ≠ [] ∧ ∀ i ∈ Region.ready md ops l,
      i < n ∧ bOp P ops i (fun a' w' => T w w' ∧ wpR T P md ops n g Q f w' (l.setIfInBounds i true) a') a w

theorem wpAny_of_R {n g : Nat} {Q : Exit → Act → World → Prop} :
    ∀ (f : Nat) (w : World) (l : Array Bool) (a : Act), wpR T P md ops n g Q f w l a → wpAny P md ops Q (f + g) l a w
  | 0, _, _, _, h => by rw [Nat.zero_add]; exact h.2
  | f + 1, w, l, a, h => by
    rw [show f + 1 + g = (f + g) + 1 by omega]
    exact ⟨fun h0 => absurd h0 h.1, fun i hi => wpOp_of_bOp (fun a' w' h' => wpAny_of_R f w' _ a' h'.2) (h.2 i hi).2⟩

theorem wpR_first (hT : Runs T) {n g i : Nat} {oi : Oper} {v : Value} {Q : Exit → Act → World → Prop} (hi : ops[i]? = some oi) (hsel : ∀ (j : Nat) (o : Oper) cs b, ops[j]? = some o → o.op ≠ .select cs b)
    (hin : i < n) (hl : lateB md ops n i = true) :
    ∀ (f : Nat) (w0 : World) (l : Array Bool) (a : Act), Closed md ops l →
      (∀ j oj, ops[j]? = some oj → j ≠ i → l.getD j true = false → (∀ e ∈ oj.after, Region.binds md e = true → e.on ≠ i) → oi.apart ops oj = true) →
      i ∈ Region.ready md ops l → YieldsR T P ops w0 oi v a →
      wpR T P md ops n g Q f w0 (l.setIfInBounds i true) (a.put oi.dst v) → wpR T P md ops n g Q (f + 1) w0 l a := by
  intro f
  induction f with
  | zero =>
    intro w0 l a inv hfree hr hy H
    have hun := (mem_ready.1 hr).1
    refine ⟨fun h => (by rw [h] at hr; cases hr), fun j hj => ?_⟩
    have hjn := lateB_ready inv hl hun j hj
    refine ⟨hjn, ?_⟩
    by_cases hji : j = i
    · subst hji; exact hy.bOp hT hi ⟨hT.refl _, H⟩
    · have := H.1 j (ready_mono hj hji)
      omega
  | succ f ih =>
    intro w0 l a inv hfree hr hy H
    have hun := (mem_ready.1 hr).1
    refine ⟨fun h => (by rw [h] at hr; cases hr), fun j hj => ?_⟩
    have hjn := lateB_ready inv hl hun j hj
    refine ⟨hjn, ?_⟩
    obtain ⟨hjun, oj, hoj, hall⟩ := mem_ready.1 hj
    have hnot : ∀ e ∈ oj.after, Region.binds md e = true → e.on ≠ i := fun e he hb heq => by
      have h1 := hall e he hb
      rw [heq, getD_both hun] at h1
      cases h1
    by_cases hji : j = i
    · subst hji; exact hy.bOp hT hi ⟨hT.refl _, H⟩
    · have h1 := (H.2 j (ready_mono hj hji)).2
      have h2 := bOp_putR hoj (hfree j oj hoj hji hjun hnot) (fun cs b => hsel i oi cs b hi) (fun cs b => hsel j oj cs b hoj) hy h1
      have hfree' : ∀ k ok, ops[k]? = some ok → k ≠ i → (l.setIfInBounds j true).getD k true = false →
          (∀ e ∈ ok.after, Region.binds md e = true → e.on ≠ i) → oi.apart ops ok = true := fun k ok hk hki hun hno => by
        refine hfree k ok hk hki ?_ hno
        by_cases hjk : j = k
        · subst hjk; exact hjun
        · rw [getD_set_ne true hjk] at hun; exact hun
      refine bOp_mono (fun a' w' h3 => ⟨h3.2.1, ih w' (l.setIfInBounds j true) a' (inv.set hj) hfree' (ready_mono hr (Ne.symm hji)) (h3.1.later hT h3.2.1) ?_⟩) h2
      rw [Array.setIfInBounds_comm _ _ hji]
      exact h3.2.2

abbrev wpS (T : World → World → Prop) (P : Program) (ops : Array Oper) (n g : Nat) (Q : Exit → Act → World → Prop) (f : Nat) (w0 : World) (l : Array Bool) (a : Act) : Prop :=
  wpR T P .any ops n g Q f w0 l a

/-- The lexical walk over the readings that are taken first. -/
def wpReads (T : World → World → Prop) (P : Program) (ops : Array Oper) (w0 : World) (Q : Act → Prop) : List Oper → Act → Prop
  | [], a => Q a
  | o :: rest, a => if Region.wanted o (yielded ops a.tmps) then ∃ v, (∀ w, T w0 w → (execOp a.eval o).run P w = .ok (.value v) w) ∧ wpReads T P ops w0 Q rest (a.put o.dst v) else wpReads T P ops w0 Q rest (a.put o.dst undef)
theorem wpReads_nil {w0 : World} {Q : Act → Prop} {a : Act} (h : Q a) : wpReads T P ops w0 Q [] a := h
theorem wpReads_ex {w0 : World} {Q : Act → Prop} {a : Act} {o : Oper} {rest : List Oper} (hw : Region.wanted o (yielded ops a.tmps) = true)
    (hv : ∃ v, (∀ w, T w0 w → (execOp a.eval o).run P w = .ok (.value v) w) ∧ wpReads T P ops w0 Q rest (a.put o.dst v)) : wpReads T P ops w0 Q (o :: rest) a := by
  unfold wpReads
  rw [if_pos hw]
  exact hv
theorem wpReads_skip {w0 : World} {Q : Act → Prop} {a : Act} {o : Oper} {rest : List Oper} (hw : Region.wanted o (yielded ops a.tmps) = false)
    (h : wpReads T P ops w0 Q rest (a.put o.dst undef)) : wpReads T P ops w0 Q (o :: rest) a := by
  unfold wpReads
  rw [if_neg (by rw [hw]; exact Bool.false_ne_true)]
  exact h

def readOk (ops : Array Oper) (n : Nat) : List Nat → Array Bool → Bool
  | [], _ => true
  | i :: cs, l => Region.free .any ops l i && (Region.ready .any ops l).contains i && decide (i < n) && closedB .any ops l && lateB .any ops n i && readOk ops n cs (l.setIfInBounds i true)

theorem wpS_reads (hT : Runs T) {n g f : Nat} {Q : Exit → Act → World → Prop} {w0 : World} (hs : Region.noSelect ops = true) :
    ∀ (cs : List Nat) (os : List Oper) (l : Array Bool) (a : Act), os.map some = cs.map (fun i => ops[i]?) → readOk ops n cs l = true →
      wpReads T P ops w0 (fun a' => wpS T P ops n g Q f w0 (listedBy cs l) a') os a → wpS T P ops n g Q (f + cs.length) w0 l a
  | [], os, l, a, ho, _, h => by
    obtain rfl : os = [] := by simpa using ho
    exact h
  | i :: cs, [], l, a, ho, _, h => by simp at ho
  | i :: cs, o :: os, l, a, ho, hc, h => by
    simp only [List.map_cons, List.cons.injEq] at ho
    simp only [readOk, Bool.and_eq_true, decide_eq_true_eq] at hc
    obtain ⟨⟨⟨⟨⟨h5, h6⟩, h3⟩, h4⟩, h7⟩, hc⟩ := hc
    have hi : ops[i]? = some o := ho.1.symm
    have step : ∀ v, YieldsR T P ops w0 o v a → wpReads T P ops w0 (fun a' => wpS T P ops n g Q f w0 (listedBy (i :: cs) l) a') os (a.put o.dst v) → wpS T P ops n g Q (f + (i :: cs).length) w0 l a := fun v hy hk =>
      wpR_first hT hi (Region.noSelect_spec hs) h3 h7 (f + cs.length) w0 l a (closedB_spec h4) (Region.free_spec hi h5) (by simpa using h6) hy
        (wpS_reads hT hs cs os _ _ ho.2 hc hk)
    unfold wpReads at h
    by_cases hw : Region.wanted o (yielded ops a.tmps) = true
    · rw [if_pos hw] at h
      obtain ⟨v, hv, hk⟩ := h
      exact step v (.inl ⟨hw, hv⟩) hk
    · rw [if_neg hw] at h
      exact step undef (.inr ⟨by simpa using hw, rfl⟩) h

theorem wpS_more (hT : Runs T) {ls : List Oper} {n g : Nat} {Q : Exit → Act → World → Prop} {w0 : World} {l : Array Bool} {a : Act} (cs : List Nat) (f : Nat)
    (hB : (Region.noSelect ls.toArray && (cs.all fun i => decide (i < ls.length)) && readOk ls.toArray n cs l) = true)
    (h : wpReads T P ls.toArray w0 (fun a' => wpS T P ls.toArray n g Q f w0 (listedBy cs l) a') (pickOps ls cs) a) : wpS T P ls.toArray n g Q (f + cs.length) w0 l a := by
  simp only [Bool.and_eq_true] at hB
  exact wpS_reads hT hB.1.1 cs _ l a (pickOps_map ls cs hB.1.2) hB.2 h

def readAll (l : List Oper) (n : Nat) (cs : List Nat) (f : Nat) : Bool :=
  Region.noSelect l.toArray && decide (n ≤ l.length) && (f + cs.length == n) && (cs.all fun i => decide (i < l.length)) &&
    readOk l.toArray n cs (Array.replicate l.length false)

theorem region_reads (T : World → World → Prop) (hT : Runs T) {id : Nat} {Q : Exit → Act → World → Prop} {a : Act} {w : World} {l : List Oper} (n : Nat) (cs : List Nat) (f : Nat) (hm : P.follows .mixedOrders = true)
    (hB : readAll l n cs f = true)
    (h : wpReads T P l.toArray w.drew (fun a' => wpS T P l.toArray n (l.length - n) Q f w.drew (listedBy cs (Array.replicate l.length false)) a') (pickOps l cs) a) : (Code.region id l.toArray true).wp P Q a w := by
  simp only [readAll, Bool.and_eq_true, decide_eq_true_eq, beq_iff_eq] at hB
  obtain ⟨⟨⟨⟨h1, h3⟩, h4⟩, h5⟩, h6⟩ := hB
  have H := wpS_reads (P := P) (Q := Q) (f := f) (w0 := w.drew) hT h1 cs (pickOps l cs) (Array.replicate l.length false) a (pickOps_map l cs h5) h6 h
  refine wp_region_any hm ?_
  have := wpAny_of_R _ _ _ _ H
  rw [h4, show n + (l.length - n) = l.length by omega] at this
  simpa using this

/-- One operation alone may come up. -/
theorem wpS_one {n g f : Nat} {oi : Oper} {Q : Exit → Act → World → Prop} {w : World} {l : Array Bool} {a : Act} (i : Nat) (hi : ops[i]? = some oi)
    (hc : (Region.ready .any ops l == [i] && decide (i < n)) = true)
    (h : ∀ K : Act → World → Prop, (∀ a' w', T w w' → wpS T P ops n g Q f w' (l.setIfInBounds i true) a' → K a' w') →
      if Region.wanted oi (yielded ops a.tmps) then oi.wp P a w K (fun _ _ _ => False) else K (a.put oi.dst undef) w) : wpS T P ops n g Q (f + 1) w l a := by
  simp only [Bool.and_eq_true, decide_eq_true_eq, beq_iff_eq] at hc
  obtain ⟨h1, h2⟩ := hc
  refine ⟨by rw [h1]; simp, fun j hj => ?_⟩
  rw [h1] at hj
  obtain rfl : j = i := by simpa using hj
  refine ⟨h2, ?_⟩
  unfold bOp
  simp only [hi]
  exact h _ (fun a' w' hb hk => ⟨hb, hk⟩)

/-- What is left stands in one order, all of it from n on. -/
theorem wpS_tail {n : Nat} {Q : Exit → Act → World → Prop} {w : World} {ls : List Oper} {l : Array Bool} {a : Act} (hs : (Region.seqB .any ls.toArray (ls.length - n) n l && (Region.ready .any ls.toArray l).all (fun j => decide (n ≤ j))) = true)
    (h : wpList P ls.toArray Q (ls.drop n) a w) : wpS T P ls.toArray n (ls.length - n) Q 0 w l a := by
  simp only [Bool.and_eq_true] at hs
  refine ⟨fun j hj => by simpa using List.all_eq_true.1 hs.2 j hj, ?_⟩
  have := wpAny_of_seq (md := .any) (ops := ls.toArray) (Q' := Q) (ls.drop n) n l a w (fun j => by simp [List.getElem?_drop]) (by
    have : (ls.drop n).length = ls.length - n := by simp
    rw [this]; exact hs.1) h
  have hlen : (ls.drop n).length = ls.length - n := by simp
  rwa [hlen] at this
end
/-- the blocks of F lie as they lay -/
def Kept (F : Nat → Prop) (a b : World) : Prop := ∀ j, F j → b.heap[j]? = a.heap[j]?
theorem Kept.runs (F : Nat → Prop) : Runs (Kept F) := ⟨fun _ _ _ => rfl, fun _ _ _ h k j hj => (k j hj).trans (h j hj)⟩
end Go.Proofs.YtkhjnbjmbmacjaaDoor
