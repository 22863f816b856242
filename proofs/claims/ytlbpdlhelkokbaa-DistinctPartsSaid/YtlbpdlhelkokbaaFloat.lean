/- Regions that draw their order: what is left when the quiet operations are taken, step by step. -/
import Derived.Test.YtlbpdlhelkokbaaKeep
namespace Go.Proofs.Ytlbpdlhelkokbaa
open Go Go.RowKit
section
variable {F : Nat → Prop} {P : Program} {ops : Array Oper}

/-- what one operation gives, whatever follows -/
abbrev stepTo (P : Program) (ops : Array Oper) (o : Oper) (a : Act) (w : World) (Q : Exit → Act → World → Prop) (R : Act → World → Prop) : Prop :=
  ∀ K : Act → World → Prop, (∀ a' w', R a' w' → K a' w') → if Region.wanted o (yielded ops a.tmps) then o.wp P a w K Q else K (a.put o.dst undef) w

theorem bOp_of_step {i : Nat} {o : Oper} {a : Act} {w : World} {R : Act → World → Prop} (hi : ops[i]? = some o) (h : stepTo P ops o a w (fun _ _ _ => False) R) : bOp P ops i R a w := by
  unfold bOp
  simp only [hi]
  exact h R (fun _ _ h => h)
theorem wpOp_of_step {i : Nat} {o : Oper} {a : Act} {w : World} {Q : Exit → Act → World → Prop} {R : Act → World → Prop} (hi : ops[i]? = some o) (h : stepTo P ops o a w Q R) : wpOp P ops Q i R a w := by
  unfold wpOp
  simp only [hi]
  have := h R (fun _ _ h => h)
  split
  · rename_i hw; rw [if_pos hw] at this; exact .inl this
  · rename_i hw; rw [if_neg hw] at this; exact this

/-- Two may come up, both quiet. -/
theorem wpT_pair {n g f : Nat} {oi oj : Oper} {Q : Exit → Act → World → Prop} {w0 : World} {l : Array Bool} {a : Act} (i j : Nat) (hi : ops[i]? = some oi) (hj : ops[j]? = some oj)
    (hc : (Region.ready .any ops l == [i, j] && decide (i < n) && decide (j < n)) = true)
    (h1 : ∀ w, Touch F w0 w → stepTo P ops oi a w (fun _ _ _ => False) (fun a' w' => Touch F w w' ∧ wpT F P ops n g Q f w' (l.setIfInBounds i true) a'))
    (h2 : ∀ w, Touch F w0 w → stepTo P ops oj a w (fun _ _ _ => False) (fun a' w' => Touch F w w' ∧ wpT F P ops n g Q f w' (l.setIfInBounds j true) a')) : wpT F P ops n g Q (f + 1) w0 l a := by
  simp only [Bool.and_eq_true, decide_eq_true_eq, beq_iff_eq] at hc
  obtain ⟨⟨hr, hin⟩, hjn⟩ := hc
  refine ⟨by rw [hr]; simp, fun k hk w hw => ?_⟩
  rw [hr] at hk
  rcases List.mem_cons.1 hk with rfl | hk
  · exact ⟨fun _ => bOp_of_step hi (h1 w hw), fun h => by omega⟩
  · obtain rfl : k = j := by simpa using hk
    exact ⟨fun _ => bOp_of_step hj (h2 w hw), fun h => by omega⟩
/-- Two may come up: a quiet one, and one of the tail. -/
theorem wpT_late {n g f : Nat} {oi oj : Oper} {Q : Exit → Act → World → Prop} {w0 : World} {l : Array Bool} {a : Act} (i j : Nat) (hi : ops[i]? = some oi) (hj : ops[j]? = some oj)
    (hc : (Region.ready .any ops l == [i, j] && decide (i < n) && decide (n ≤ j)) = true)
    (h1 : ∀ w, Touch F w0 w → stepTo P ops oi a w (fun _ _ _ => False) (fun a' w' => Touch F w w' ∧ wpT F P ops n g Q f w' (l.setIfInBounds i true) a'))
    (h2 : ∀ w, Touch F w0 w → stepTo P ops oj a w Q (fun a' w' => wpAny P .any ops Q (f + g) (l.setIfInBounds j true) a' w')) : wpT F P ops n g Q (f + 1) w0 l a := by
  simp only [Bool.and_eq_true, decide_eq_true_eq, beq_iff_eq] at hc
  obtain ⟨⟨hr, hin⟩, hjn⟩ := hc
  refine ⟨by rw [hr]; simp, fun k hk w hw => ?_⟩
  rw [hr] at hk
  rcases List.mem_cons.1 hk with rfl | hk
  · exact ⟨fun _ => bOp_of_step hi (h1 w hw), fun h => by omega⟩
  · obtain rfl : k = j := by simpa using hk
    exact ⟨fun h => by omega, fun _ => wpOp_of_step hj (h2 w hw)⟩
/-- From here on whatever may come up, in the world at hand. -/
theorem any_one {f : Nat} {oi : Oper} {Q : Exit → Act → World → Prop} {w : World} {l : Array Bool} {a : Act} (i : Nat) (hi : ops[i]? = some oi)
    (hc : (Region.ready .any ops l == [i]) = true) (h : stepTo P ops oi a w Q (fun a' w' => wpAny P .any ops Q f (l.setIfInBounds i true) a' w')) : wpAny P .any ops Q (f + 1) l a w := by
  have hr : Region.ready .any ops l = [i] := by simpa using hc
  refine ⟨fun h0 => by rw [hr] at h0; simp at h0, fun k hk => ?_⟩
  rw [hr] at hk
  obtain rfl : k = i := by simpa using hk
  exact wpOp_of_step hi h
theorem any_two {f : Nat} {oi oj : Oper} {Q : Exit → Act → World → Prop} {w : World} {l : Array Bool} {a : Act} (i j : Nat) (hi : ops[i]? = some oi) (hj : ops[j]? = some oj)
    (hc : (Region.ready .any ops l == [i, j]) = true) (h1 : stepTo P ops oi a w Q (fun a' w' => wpAny P .any ops Q f (l.setIfInBounds i true) a' w'))
    (h2 : stepTo P ops oj a w Q (fun a' w' => wpAny P .any ops Q f (l.setIfInBounds j true) a' w')) : wpAny P .any ops Q (f + 1) l a w := by
  have hr : Region.ready .any ops l = [i, j] := by simpa using hc
  refine ⟨fun h0 => by rw [hr] at h0; simp at h0, fun k hk => ?_⟩
  rw [hr] at hk
  rcases List.mem_cons.1 hk with rfl | hk
  · exact wpOp_of_step hi h1
  · obtain rfl : k = j := by simpa using hk
    exact wpOp_of_step hj h2
/-- What is left stands in one order, from n on. -/
theorem any_tail {n f : Nat} {Q : Exit → Act → World → Prop} {w : World} {ls : List Oper} {l : Array Bool} {a : Act} (hs : (Region.seqB .any ls.toArray f n l && f + n == ls.length) = true)
    (h : wpList P ls.toArray Q (ls.drop n) a w) : wpAny P .any ls.toArray Q f l a w := by
  simp only [Bool.and_eq_true, beq_iff_eq] at hs
  have hlen : (ls.drop n).length = f := by rw [List.length_drop]; omega
  have := wpAny_of_seq (md := .any) (ops := ls.toArray) (Q' := Q) (ls.drop n) n l a w (fun j => by simp [List.getElem?_drop]) (by rw [hlen]; exact hs.1) h
  rwa [hlen] at this
end
end Go.Proofs.Ytlbpdlhelkokbaa
