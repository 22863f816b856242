/- A row of texts, opened; whether texts are more than may be asked about. -/
import Derived.Test.YtlbpdlhelkokbaaDS
import Derived.SliceStrings
import Derived.WideShapes
import Derived.ChangeSame
import Derived.ChangeArms
import Derived.ProofKit
import Derived.OpenShut
import Derived.ChangeOld
import Derived.SizedLaws
import Derived.Carry
namespace Go.Proofs.Ytlbpdlhelkokbaa
open Go.ChangeShapes Go.WideShapes Go.ChangeAt Go.RowKit Go.Proofs.YtlbpdlhelkokbaaW.PrintWords

abbrev StrArg (W : World) (A : Option Addr) (n cap : Nat) (l : List ByteArray) : Prop := l.length = n ∧ Kd.C Kd.string W A l.length l ∧ l.length ≤ cap
theorem StrArg.later {w w' : World} {A : Option Addr} {n cap : Nat} {l : List ByteArray} (h : StrArg w A n cap l) (hb : Below w.heap.size w w') : StrArg w' A n cap l := ⟨h.1, Kd.C_below h.2.1 hb, h.2.2⟩

theorem spot_none {w : World} {a : Addr} {v : Value} (h : w.cell? a = some v) : a = ⟨a.block, a.off, none⟩ := by
  obtain ⟨b, o, s⟩ := a
  cases s with
  | none => rfl
  | some k =>
    unfold World.cell? at h
    simp only at h
    split at h
    · simp at h
    · cases h
theorem add_plain (b o i : Nat) : (⟨b, o, none⟩ : Addr).add i = ⟨b, o + i, none⟩ := Addr.add_lit b o i
/-- where the texts lie -/
theorem StrArg.at {w : World} {A : Option Addr} {n cap : Nat} {l : List ByteArray} (h : StrArg w A n cap l) (hn : 0 < n) : ∃ b o, A = some ⟨b, o, none⟩ ∧ ∀ i s, l[i]? = some s → w.cell? ⟨b, o + i, none⟩ = some (.string s) := by
  obtain ⟨h1, h2, h3⟩ := h
  obtain ⟨ad, rfl, hc⟩ := h2.2.2 (by omega)
  have cell : ∀ i s, l[i]? = some s → w.cell? (ad.add i) = some (.string s) := fun i s hi => by
    obtain ⟨c, hl, hk, hu⟩ := hc i s hi
    have hk' : c = [.string s] := hk
    subst hk'
    have := hu 0 (.string s) rfl
    rwa [show i * (Kd.string).sz + 0 = i from Nat.mul_one i] at this
  obtain ⟨s0, hs0⟩ : ∃ s0, l[0]? = some s0 := ⟨_, List.getElem?_eq_getElem (by omega)⟩
  have e0 := cell 0 s0 hs0
  have e1 : ad.spot = none := by
    have := congrArg Addr.spot (spot_none e0)
    unfold Addr.add at this
    split at this <;> simp_all
  obtain ⟨b, o, sp⟩ := ad
  simp only at e1
  subst e1
  exact ⟨b, o, rfl, fun i s hi => by have := cell i s hi; rwa [add_plain] at this⟩

theorem open_strs {H : Type} {enc : TypeId × Value → H} {W : World} {base b0 : Nat} {spare : Nat → Bool} {held : Bool} {r : Reach} {v : Value} {d : DataW H} {p : List MemPlace}
    (hv : Value.okWide Try.prog W r b0 26 v) (h : DataW.Trod enc Try.prog W base spare held 26 v d p) :
    ∃ A n cap, v = .slice A n cap ∧ ∃ l, StrArg W A n cap l := by
  obtain ⟨a, n, cap, rfl⟩ := okWide_slice Try.underlying26 hv
  refine ⟨a, n, cap, rfl, ?_⟩
  obtain ⟨fuel, hf⟩ := h
  rcases open_strings Try.underlying26 Try.underlying9 (by kernel_rfl) hf with ⟨hc, _⟩ | ⟨a', len', cap', ss, hc, _, hl, hm, hz, _, hcell, _⟩
  · simp [Value.cells] at hc
    obtain ⟨rfl, rfl, rfl⟩ := hc
    exact ⟨[], rfl, Kd.C_nil _ _, by simp⟩
  · simp [Value.cells] at hc
    obtain ⟨rfl, rfl, rfl⟩ := hc
    have hnm : n ≤ ss.length := by rw [hz]; split <;> omega
    have hlt : (ss.take n).length = n := by rw [List.length_take]; omega
    refine ⟨ss.take n, hlt, ⟨rfl, by unfold maxLen at hm; omega, fun _ => ⟨a', rfl, fun j s hj => ⟨[.string s], rfl, rfl, fun i u hi => ?_⟩⟩⟩, by omega⟩
    have e : i = 0 := by cases i with | zero => rfl | succ i => simp at hi
    subst e
    simp only [List.getElem?_cons_zero, Option.some.injEq] at hi
    subst hi
    have hjn : j < n := by have := (List.getElem?_eq_some_iff.1 hj).1; omega
    have := hcell j (by omega)
    rw [show j * (Kd.string).sz + 0 = j from Nat.mul_one j, this]
    rw [List.getElem?_take, if_pos hjn] at hj
    rw [List.getD_eq_getElem?_getD, hj]; rfl

def isLong (l : List ByteArray) : Bool := l.any (fun s => decide (60 < s.size)) || decide (200 < l.length)
theorem long_loop (l : List ByteArray) (hl : l.length ≤ 9223372036854775807) : ∀ (d i k : Nat), i + d = l.length → d < k → KA.ciceronelaw13_long.l0 k l l l.length i = some ((l.drop i).any (fun s => decide (60 < s.size)) || decide (200 < l.length)) := by
  intro d
  induction d with
  | zero =>
    intro i k hi hk
    obtain ⟨k, rfl⟩ : ∃ m, k = m + 1 := ⟨k - 1, by omega⟩
    rw [KA.ciceronelaw13_long.l0, if_neg (by omega), List.drop_eq_nil_of_le (by omega)]
    simp only [List.any_nil, Bool.false_or]
    congr 1
    by_cases h : 200 < l.length
    · rw [decide_eq_true h, decide_eq_true (by omega)]
    · rw [decide_eq_false h, decide_eq_false (by omega)]
  | succ d ih =>
    intro i k hi hk
    obtain ⟨k, rfl⟩ : ∃ m, k = m + 1 := ⟨k - 1, by omega⟩
    have hlt : i < l.length := by omega
    have hd := List.drop_eq_getElem_cons hlt
    rw [KA.ciceronelaw13_long.l0, if_pos (by omega), if_pos (by omega), if_pos (by omega), hd, List.any_cons]
    have e : rdOf ByteArray.empty l (i : Int) = l[i] := by
      unfold rdOf
      rw [Int.toNat_natCast, List.getD_eq_getElem?_getD, List.getElem?_eq_getElem hlt]; rfl
    rw [e]
    by_cases h : 60 < l[i].size
    · rw [if_pos (by omega), decide_eq_true h]; rfl
    · rw [if_neg (by omega), decide_eq_false h, show wrap64 ((i : Int) + 1) = ((i + 1 : Nat) : Int) by unfold wrap64; omega, ih (i + 1) k (by omega) (by omega)]
      simp only [Bool.false_or]
theorem long_ok (A : Option Addr) (n cap : Nat) (l : List ByteArray) (w : World) (h : StrArg w A n cap l) :
    Calls Try.prog 13 #[.slice A n cap] w fun e w' => e = .returned (.bool (isLong l)) ∧ Below w.heap.size w w' := by
  obtain ⟨rfl, h2, h3⟩ := h
  have := long_loop l h2.2.1 l.length 0 (l.length + 1) (by omega) (by omega)
  refine (KA.ciceronelaw13_long.calls (l.length + 1) A cap l (isLong l) w h2 h3 (by unfold KA.ciceronelaw13_long.f; rw [show (0 : Int) = ((0 : Nat) : Int) from rfl, this]; rfl)).mono fun _ _ ⟨h1, h2⟩ => ⟨h1, below_drawn h2⟩
theorem short_of {l : List ByteArray} (h : isLong l = false) : l.length ≤ 200 ∧ ∀ (i : Nat) (s : ByteArray), l[i]? = some s → s.size ≤ 60 := by
  unfold isLong at h
  simp only [Bool.or_eq_false_iff, decide_eq_false_iff_not, List.any_eq_false, decide_eq_true_eq] at h
  exact ⟨by omega, fun i s hi => by have := h.1 s (List.mem_of_getElem? hi); omega⟩
end Go.Proofs.Ytlbpdlhelkokbaa
