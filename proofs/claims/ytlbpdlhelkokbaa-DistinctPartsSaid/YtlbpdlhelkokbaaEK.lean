/- A row of bytes that came in; a part of a row of texts; the walk of the law of parts. -/
import Derived.Test.YtlbpdlhelkokbaaEJ
import Derived.ChangeSlices
namespace Go.Proofs.Ytlbpdlhelkokbaa
open Go
open Go.ChangeShapes Go.WideShapes Go.ChangeAt Go.RowKit Go.Proofs.YtlbpdlhelkokbaaW.PrintWords

def By (l : List Int) : List Value := l.map (Value.int .u8)
structure ByteArg (W : World) (A : Option Addr) (n cap : Nat) (l : List Int) : Prop where
  len : l.length = n
  room : n ≤ cap
  top : n ≤ 9223372036854775807
  none : A = none → n = 0 ∧ cap = 0
  cells : ∀ ad, A = some ad → ∀ (j : Nat) (u : Value), (By l)[j]? = some u → W.cell? (ad.add j) = some u
  range : ∀ x ∈ l, 0 ≤ x ∧ x ≤ 255
theorem ByteArg.later {w w' : World} {A : Option Addr} {n cap : Nat} {l : List Int} (h : ByteArg w A n cap l) (hb : Below w.heap.size w w') : ByteArg w' A n cap l :=
  ⟨h.len, h.room, h.top, h.none, fun ad e j u hj => (Below.cell hb (block_lt_of_cell (h.cells ad e j u hj))).trans (h.cells ad e j u hj), h.range⟩
theorem open_bytes0 {H : Type} {enc : TypeId × Value → H} {W : World} {base b0 : Nat} {spare : Nat → Bool} {held : Bool} {r : Reach} {v : Value} {d : DataW H} {p : List MemPlace}
    (hv : Value.okWide Try.prog W r b0 43 v) (h : DataW.Trod enc Try.prog W base spare held 43 v d p) :
    ∃ A n cap, v = .slice A n cap ∧ ∃ l, ByteArg W A n cap l := by
  obtain ⟨A, n, cap, rfl⟩ := okWide_slice Try.underlying43 hv
  refine ⟨A, n, cap, rfl, ?_⟩
  obtain ⟨fuel, hf⟩ := h
  rcases open_ints Try.underlying43 Try.underlying5 (by kernel_rfl) hf with ⟨hc, _⟩ | ⟨a', len', cap', zs, hc, _, hl, hm, hz, _, hcell, hwf⟩
  · simp [Value.cells] at hc
    obtain ⟨rfl, rfl, rfl⟩ := hc
    exact ⟨[], ⟨rfl, Nat.le_refl _, by omega, fun _ => ⟨rfl, rfl⟩, fun ad e => (by cases e), fun x hx => (by cases hx)⟩⟩
  · simp [Value.cells] at hc
    obtain ⟨rfl, rfl, rfl⟩ := hc
    have hnm : n ≤ zs.length := by rw [hz]; split <;> omega
    have hlt : (zs.take n).length = n := by rw [List.length_take]; omega
    refine ⟨zs.take n, ⟨hlt, hl, by unfold maxLen at hm; omega, fun e => (by cases e), ?_, ?_⟩⟩
    · intro ad e j u hj
      cases e
      unfold By at hj
      rw [List.getElem?_map] at hj
      have hjn : j < n := by
        rcases Nat.lt_or_ge j n with h | h
        · exact h
        · rw [List.getElem?_eq_none (by omega)] at hj; cases hj
      rw [List.getElem?_take, if_pos hjn, List.getElem?_eq_getElem (by omega)] at hj
      have := hcell j (by omega)
      rw [List.getD_eq_getElem?_getD, List.getElem?_eq_getElem (by omega)] at this
      rw [this]
      exact hj
    · intro x hx
      have := hwf x (List.mem_of_mem_take hx)
      simp [Lit.wf, IntKind.min, IntKind.max, IntKind.signed, IntKind.bits] at this
      omega

theorem StrArg.part {w : World} {A A' : Option Addr} {n cap cap' i j : Nat} {l : List ByteArray} (h : StrArg w A n cap l) (hij : i ≤ j) (hj : j ≤ n) (hc : j - i ≤ cap') (hA : i < j → ∀ b o, A = some ⟨b, o, Option.none⟩ → A' = some ⟨b, o + i, Option.none⟩) : StrArg w A' (j - i) cap' ((l.drop i).take (j - i)) := by
  have hl : ((l.drop i).take (j - i)).length = j - i := by rw [List.length_take, List.length_drop, h.1]; omega
  have hm := h.2.1.2.1
  refine ⟨hl, ⟨rfl, by have := h.1; omega, fun hn => ?_⟩, by omega⟩
  obtain ⟨b, o, e, hcell⟩ := h.at (by omega)
  refine ⟨⟨b, o + i, Option.none⟩, hA (by omega) b o e, fun t s ht => ⟨[.string s], rfl, rfl, fun y u hy => ?_⟩⟩
  have e0 : y = 0 := by cases y with | zero => rfl | succ y => simp at hy
  subst e0
  simp only [List.getElem?_cons_zero, Option.some.injEq] at hy
  subst hy
  rw [show t * (Kd.string).sz + 0 = t from Nat.mul_one t, add_plain]
  rw [List.getElem?_take] at ht
  split at ht
  · rw [List.getElem?_drop] at ht
    have := hcell _ s ht
    rw [show o + i + t = o + (i + t) by omega]
    exact this
  · cases ht
theorem long_part {l : List ByteArray} (h : isLong l = false) (i k : Nat) : isLong ((l.drop i).take k) = false := by
  unfold isLong at *
  rw [Bool.or_eq_false_iff] at h ⊢
  obtain ⟨h1, h2⟩ := h
  constructor
  · rw [List.any_eq_false] at h1 ⊢
    exact fun x hx => h1 x (List.mem_of_mem_drop (List.mem_of_mem_take hx))
  · have := of_decide_eq_false h2
    refine decide_eq_false ?_
    rw [List.length_take, List.length_drop]
    omega
theorem take_part (l : List ByteArray) {i j : Nat} (h : i ≤ j) : l.take i ++ (l.drop i).take (j - i) = l.take j := by
  rw [show j = i + (j - i) by omega, List.take_add]
  simp
theorem two_own2 {w0 w1 w2 : World} {ga qa gb qb : Nat} {la lb : List Int} (hA : Own w0 w1 ga qa la) (hB : Own w1 w2 gb qb lb) : ∃ ra rb, Two w0 w2 gb qb lb rb ga qa la ra := by
  obtain ⟨ra, rb, h⟩ := two_own hA hB
  obtain ⟨rb', b1, b2, b3, b4⟩ := hB
  have hs := hA.bel.size
  obtain ⟨ra', a1, a2, a3, a4⟩ := hA
  obtain ⟨l1, l2⟩ := cnt_lt a1
  refine ⟨ra', rb', b1, cnt_below a1 b4, by omega, fun j hj => by have := b3 j hj; omega, below_after a4 b4, by omega, fun e => ?_, fun e => ?_, fun j hj e => ?_⟩
  · have := b3 _ e; omega
  · have := l2 _ e; omega
  · have := b3 _ e; have := l2 _ hj; omega
theorem info_u8 : (Try.prog.info? 5).map (fun i => (i.zero, i.size, i.bytes)) = some (some (.int .u8 0), 1, 1) := by kernel_rfl
end Go.Proofs.Ytlbpdlhelkokbaa
