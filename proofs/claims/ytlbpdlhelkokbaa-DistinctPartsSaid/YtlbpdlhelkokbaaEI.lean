/- Appending a text row that came in, nil or not, to an own one; a text row argument whose nil has no room. -/
import Derived.Test.YtlbpdlhelkokbaaEH
import Derived.Laws.AppendOwnNone
import Derived.Test.YtlbpdlhelkokbaaDS
import Derived.SliceStrings
import Derived.WideShapes
import Derived.ChangeSame
import Derived.ChangeArms
import Derived.ProofKit
import Derived.OpenShut
import Derived.ChangeOld
import Derived.SizedLaws
import Derived.Carry
namespace Go.Proofs.Ytlbpdlhelkokbaa
open Go
open Go.ChangeShapes Go.WideShapes Go.ChangeAt Go.RowKit Go.Proofs.YtlbpdlhelkokbaaW.PrintWords

section
variable {P : Program} {w : World}
theorem wpList_append_any {ops : Array Oper} {rest : List Oper} {o : Oper} {a : Act} {Q : Exit → Act → World → Prop} (hgd : o.guard = none) (s x : Operand) (t : TypeId)
    (ho : o.op = .call { callee := .builtin .append, args := #[s, x], argTypes := #[t, t] })
    (base : Nat) (e : TypeId) (i : TypeInfo) (z : Value) (size bytes : Nat) (ht : P.underlying t = some (.slice e)) (hi : P.info? e = some i) (hz : i.zero = some z)
    (hsize : i.size = size) (hby : i.bytes = bytes) (hzs : z.cells.size = size) (hsz : 0 < size)
    (v : Value) (n : Nat) (xs : List Value) (hs : a.eval s = v) (hown : w.ownsRow base e size v n xs)
    (A : Option Addr) (m c : Nat) (news : List Value) (hx : a.eval x = .slice A m c) (hA : A = none → m = 0 ∧ c = 0) (hl : news.length = m * size) (hnews : ∀ ad, A = some ad → ∀ j u, news[j]? = some u → w.cell? (ad.add j) = some u) (h1 : ∀ u ∈ news, u.oneCell' = true)
    (h63 : n + m ≤ maxLen) (hbytes : (n + m) * bytes ≤ 140737488355328) (hbase : base ≤ w.heap.size)
    (h : ∀ v' w', w'.ownsRow base e size v' (n + m) (xs ++ news) → w.grownBy w' v.ownBlock → wpList P ops Q rest (a.put o.dst v') w') :
    wpList P ops Q (o :: rest) a w := by
  cases A with
  | none =>
    obtain ⟨rfl, rfl⟩ := hA rfl
    obtain rfl : news = [] := List.eq_nil_of_length_eq_zero (by rw [hl]; exact Nat.zero_mul _)
    refine wpList_append_own_none hgd s x t ho base e i size ht hi v n xs hs hown hx (h v w ?_ ⟨rfl, rfl, rfl, Nat.le_refl _, fun _ _ _ => rfl⟩)
    rw [List.append_nil]
    exact hown
  | some ad =>
    exact wpList_append_own_at w hgd s x t ho base e i z size bytes ht hi hz hsize hby hzs hsz v n xs hs hown ad m c news hx hl (hnews ad rfl) h1 h63 hbytes hbase fun v' w' h2 h3 _ _ => h v' w' h2 h3
end

abbrev StrArg0 (W : World) (A : Option Addr) (n cap : Nat) (l : List ByteArray) : Prop := StrArg W A n cap l ∧ (A = none → cap = 0)
theorem open_strs0 {H : Type} {enc : TypeId × Value → H} {W : World} {base b0 : Nat} {spare : Nat → Bool} {held : Bool} {r : Reach} {v : Value} {d : DataW H} {p : List MemPlace}
    (hv : Value.okWide Try.prog W r b0 26 v) (h : DataW.Trod enc Try.prog W base spare held 26 v d p) :
    ∃ A n cap, v = .slice A n cap ∧ ∃ l, StrArg0 W A n cap l := by
  obtain ⟨A, n, cap, rfl, l, hs⟩ := open_strs hv h
  refine ⟨A, n, cap, rfl, l, hs, fun e => ?_⟩
  subst e
  obtain ⟨fuel, hf⟩ := h
  rcases open_strings Try.underlying26 Try.underlying9 (by kernel_rfl) hf with ⟨hc, _⟩ | ⟨a', len', cap', ss, hc, _⟩
  · simp [Value.cells] at hc
    omega
  · simp [Value.cells] at hc
def St (l : List ByteArray) : List Value := l.map Value.string
theorem str_cells {w : World} {A : Option Addr} {n cap : Nat} {l : List ByteArray} (h : StrArg w A n cap l) : ∀ ad, A = some ad → ∀ (j : Nat) (u : Value), (St l)[j]? = some u → w.cell? (ad.add j) = some u := by
  intro ad e j u hj
  obtain ⟨s, hs, rfl⟩ : ∃ s, l[j]? = some s ∧ Value.string s = u := by
    unfold St at hj
    rw [List.getElem?_map] at hj
    cases h2 : l[j]? with
    | none => rw [h2] at hj; cases hj
    | some s => rw [h2] at hj; exact ⟨s, rfl, Option.some.inj hj⟩
  obtain ⟨h1, h2, h3⟩ := h
  have hl := (List.getElem?_eq_some_iff.1 hs).1
  obtain ⟨ad2, e2, hc⟩ := h2.2.2 (by omega)
  rw [e] at e2
  cases e2
  obtain ⟨c, hl, hk, hu⟩ := hc j s hs
  have hk' : c = [.string s] := hk
  subst hk'
  have := hu 0 (.string s) rfl
  rwa [show j * (Kd.string).sz + 0 = j from Nat.mul_one j] at this
theorem own_strs {w : World} {base n : Nat} {V : Value} {us : List Value} (h : w.ownsRow base 9 1 V n us) {L : List ByteArray} (hu : us = St L) : ∃ A c, V = .slice A n c ∧ StrArg w A n c L := by
  subst hu
  have hl : L.length = n := by have := h.1; simpa [St] using this
  subst hl
  rcases h.2 with ⟨rfl, h0⟩ | ⟨g, c, cur, rfl, hb, hg, hn, hm, hs, ht⟩
  · obtain rfl : L = [] := List.eq_nil_of_length_eq_zero h0
    exact ⟨none, 0, rfl, rfl, Kd.C_nil _ _, Nat.le_refl _⟩
  · refine ⟨some ⟨g, 0, none⟩, c, rfl, rfl, ⟨rfl, by unfold maxLen at hm; omega, fun _ => ⟨_, rfl, fun j p hj => ⟨[.string p], rfl, rfl, fun i u hi => ?_⟩⟩⟩, hn⟩
    have e : i = 0 := by cases i with | zero => rfl | succ i => simp at hi
    subst e
    simp only [List.getElem?_cons_zero, Option.some.injEq] at hi
    subst hi
    rw [show j * (Kd.string).sz + 0 = j from Nat.mul_one j]
    exact h.cells (g := g) rfl j _ (by simp [St, hj])
theorem info_str : (Try.prog.info? 9).map (fun i => (i.zero, i.size, i.bytes)) = some (some (.string ByteArray.empty), 1, 16) := by kernel_rfl
end Go.Proofs.Ytlbpdlhelkokbaa
