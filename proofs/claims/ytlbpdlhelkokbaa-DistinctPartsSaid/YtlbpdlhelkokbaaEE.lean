/- Whether a counter is what the document says of hashes (the law's like); the document's size. -/
import Derived.Test.YtlbpdlhelkokbaaED
namespace Go.Proofs.Ytlbpdlhelkokbaa
open Go.RowKit Go.Proofs.YtlbpdlhelkokbaaW.PrintWords

theorem C_take {α : Type} {K : Kd α} {w : World} {A : Option Addr} {l : List α} (h : Kd.C K w A l.length l) (i : Nat) : Kd.C K w A (l.take i).length (l.take i) := by
  obtain ⟨h1, h2, h3⟩ := h
  have hle : (l.take i).length ≤ l.length := by rw [List.length_take]; omega
  refine ⟨rfl, by omega, fun hn => ?_⟩
  obtain ⟨ad, e, h4⟩ := h3 (by omega)
  refine ⟨ad, e, fun j p hj => h4 j p ?_⟩
  rw [List.getElem?_take] at hj
  split at hj
  · exact hj
  · cases hj

theorem StrArg.take {w : World} {A : Option Addr} {n cap : Nat} {l : List ByteArray} (h : StrArg w A n cap l) {i : Nat} (hi : i ≤ n) : StrArg w A i cap (l.take i) := by
  obtain ⟨h1, h2, h3⟩ := h
  refine ⟨by rw [List.length_take]; omega, C_take h2 i, by rw [List.length_take]; omega⟩

theorem nums_at {w : World} {A : Option Addr} {l : List Int} (h : Kd.C (Kd.int .u64) w A l.length l) (hn : 0 < l.length) : ∃ b o, A = some ⟨b, o, none⟩ ∧ ∀ (i : Nat) (x : Int), l[i]? = some x → w.cell? ⟨b, o + i, none⟩ = some (.int .u64 x) := by
  obtain ⟨ad, rfl, hc⟩ := h.2.2 (by omega)
  have cell : ∀ (i : Nat) (x : Int), l[i]? = some x → w.cell? (ad.add i) = some (.int .u64 x) := fun i x hi => by
    obtain ⟨c, hl, hk, hu⟩ := hc i x hi
    have hk' : c = [.int .u64 x] := hk
    subst hk'
    have := hu 0 (.int .u64 x) rfl
    rwa [show i * (Kd.int .u64).sz + 0 = i from Nat.mul_one i] at this
  obtain ⟨s0, hs0⟩ : ∃ s0, l[0]? = some s0 := ⟨_, List.getElem?_eq_getElem (by omega)⟩
  have e0 := cell 0 s0 hs0
  have e1 : ad.spot = none := by
    have := congrArg Addr.spot (spot_none e0)
    unfold Addr.add at this
    split at this <;> simp_all
  obtain ⟨b, o, sp⟩ := ad
  simp only at e1
  subst e1
  exact ⟨b, o, rfl, fun i s hi => by have := cell i s hi; rwa [add_plain] at this⟩

theorem row_touch {F : Nat → Prop} {w w' : World} {base n : Nat} {e : TypeId} {V : Value} {us : List Value} (h : w.ownsRow base e 1 V n us) (ht : Touch F w w') (hF : ∀ j, V.ownBlock = some j → ¬ F j) : w'.ownsRow base e 1 V n us := by
  refine ⟨h.1, h.2.imp id ?_⟩
  rintro ⟨g, c, cur, e, hb, hg, hr⟩
  subst e
  exact ⟨g, c, cur, rfl, hb, (ht.block g (lt_of_block hg) (hF g rfl)).trans hg, hr⟩
theorem row_block {w : World} {base n j : Nat} {e : TypeId} {V : Value} {us : List Value} (h : w.ownsRow base e 1 V n us) (hj : V.ownBlock = some j) : base ≤ j ∧ j < w.heap.size := by
  rcases h.2 with ⟨rfl, _⟩ | ⟨g, c, cur, rfl, hb, hg, _⟩
  · cases hj
  · cases hj
    exact ⟨hb, lt_of_block hg⟩
theorem cnt_touch {F : Nat → Prop} {w w' : World} {g k : Nat} {l : List Int} {r : Option Nat} (h : Cnt w g k l r) (ht : Touch F w w') (hg : ¬ F g) (hr : ∀ j, r = some j → ¬ F j) : Cnt w' g k l r := by
  obtain ⟨S, h1, h2, h3⟩ := h
  exact ⟨S, (ht.block g (lt_of_block h1) hg).trans h1, row_touch h2 ht (fun j hj => hr j (by rw [← h3]; exact hj)), h3⟩
theorem cnt_lt {w : World} {g k : Nat} {l : List Int} {r : Option Nat} (h : Cnt w g k l r) : g < w.heap.size ∧ ∀ j, r = some j → j < w.heap.size := by
  obtain ⟨S, h1, h2, h3⟩ := h
  exact ⟨lt_of_block h1, fun j hj => (row_block h2 (h3.trans hj)).2⟩
theorem cnt_below {w w' : World} {g k : Nat} {l : List Int} {r : Option Nat} (h : Cnt w g k l r) (hb : Below w.heap.size w w') : Cnt w' g k l r := ctr_below h hb

theorem add_touch (g k : Nat) (l : List Int) (r : Option Nat) (s : ByteArray) (w : World) (hC : Cnt w g k l r) (hr : Rise l) (hk1 : 1 ≤ k) (hk2 : k ≤ 4096) (hs : s.size ≤ 140737488351232) :
    Calls Try.prog 18 #[.pointer (some ⟨g, 0, none⟩), .string s] w fun e w' => e = .returned (.bool (fresh l k (hashF s))) ∧ ∃ r', Cnt w' g k (into l (hashF s)) r' ∧ (r = r' ∨ ∃ j, r' = some j ∧ w.heap.size ≤ j) ∧ Touch (fun j => j = g ∨ r = some j) w w' := by
  have HC := Lib.hid hC
  have HR := Lib.hid hr
  clear hC hr
  go_enter Try.func18, Try.ntmps18
  go_wp2_with fail
  refine (hash_ok s hs _).mono ?_
  rintro e w1 ⟨rfl, hb⟩
  have HC := Lib.hid (cnt_below HC.out hb)
  have T := Lib.hid hb
  clear hb
  go_wp2_with fail
  refine (put_ok g k l r (hashF s) _ HC.out HR.out hk1 hk2).mono ?_
  rintro e w2 ⟨rfl, r', hC', hloc, ht⟩
  have K : Hid (∃ r', Cnt w2 g k (into l (hashF s)) r' ∧ (r = r' ∨ ∃ j, r' = some j ∧ w.heap.size ≤ j) ∧ Touch (fun j => j = g ∨ r = some j) w w2) :=
    ⟨r', hC', hloc.imp id (fun ⟨j, e, hj⟩ => ⟨j, e, by have := T.out.size; omega⟩), (Touch.of_below T.out).trans ht⟩
  clear hC' hloc ht
  go_wp2_with fail
  go_ret
  exact ⟨rfl, K.out⟩

theorem own_step {w0 w w' : World} {g k : Nat} {l' : List Int} {r r' : Option Nat} (hC : Cnt w' g k l' r') (hg : w0.heap.size ≤ g) (hr : ∀ j, r = some j → w0.heap.size ≤ j) (hB : Below w0.heap.size w0 w) (hloc : r = r' ∨ ∃ j, r' = some j ∧ w.heap.size ≤ j) (ht : Touch (fun j => j = g ∨ r = some j) w w') : Own w0 w' g k l' := by
  refine ⟨r', hC, hg, fun j hj => ?_, hB.trans (ht.below hB.size ?_)⟩
  · rcases hloc with rfl | ⟨i, rfl, hi⟩
    · exact hr j hj
    · have := hB.size; cases hj; omega
  · rintro i hi (rfl | e)
    · omega
    · have := hr i e; omega

theorem refSize_ok (k : Int) (w : World) : Calls Try.prog 19 #[.int .i64 k] w fun e w' => e = .returned (.int .i64 (sizeK k)) ∧ Below w.heap.size w w' := by
  refine (KA.ciceroneref13_Size.calls k (sizeK k) w ?_).mono fun _ _ ⟨h1, h2⟩ => ⟨h1, below_drawn h2⟩
  unfold KA.ciceroneref13_Size.f sizeK
  by_cases h1 : k < 1
  · rw [if_pos h1]; congr 1; omega
  · rw [if_neg h1]
    by_cases h2 : k > 4096
    · rw [if_pos h2]; congr 1; omega
    · rw [if_neg h2]; congr 1; omega

set_option maxHeartbeats 1000000 in
theorem like_ok (g q : Nat) (full : List Int) (r : Option Nat) (V : Value) (base : Nat) (w : World) (hC : Cnt w g q full r) (hV : w.ownsRow base 23 1 V full.length (U full)) (hq1 : 1 ≤ q) (hq2 : q ≤ 4096) (hl : full.length ≤ 100000) (hU : ∀ x ∈ full, U64 x) :
    Calls Try.prog 22 #[.pointer (some ⟨g, 0, none⟩), V, .int .i64 q] w fun e w' => e = .returned (.bool true) ∧ Below w.heap.size w w' := by
  obtain ⟨A, c, rfl, hc, hK⟩ := own_reads hV
  have HK := Lib.hid hK
  have HV := Lib.hid hV
  have HC := Lib.hid hC
  have HU := Lib.hid hU
  obtain ⟨xs, hxs⟩ : ∃ xs, full.take q = xs := ⟨_, rfl⟩
  obtain ⟨m, hm⟩ : ∃ m, decide (full.length ≤ q) = m := ⟨_, rfl⟩
  obtain ⟨cn, hcn⟩ : ∃ cn, countN full q = cn := ⟨_, rfl⟩
  obtain ⟨ln, hln⟩ : ∃ ln, leastN full q = ln := ⟨_, rfl⟩
  have E := Lib.hid (And.intro hxs (And.intro hm (And.intro hcn hln)))
  have hm' : decide (full.length ≤ q) = m := hm
  have HT := Lib.hid (show Kd.C (Kd.int .u64) w A xs.length xs by rw [← hxs]; exact C_take hK q)
  have HX := Lib.hid (show xs.length ≤ c by rw [← hxs, List.length_take]; omega)
  clear hxs hm hcn hln hK hV hC hU
  go_enter Try.func22, Try.ntmps22
  go_wp2_with fail
  refine (hashes_ok g q full r _ HC.out hq2).mono ?_
  rw [E.out.1]
  rintro e u1 ⟨⟨V, rfl, hV⟩, hb⟩
  have K := Lib.hid hb
  obtain ⟨A1, c1, rfl, hc1, hK1⟩ := own_reads hV
  have H1 := Lib.hid (And.intro hc1 hK1)
  clear hb hV hc1 hK1
  go_wp2_with fail
  refine (kept_ok A c q full _ hc).mono ?_
  rw [E.out.1]
  rintro e u2 ⟨rfl, hb⟩
  have H1 := Lib.hid (And.intro H1.out.1 (Kd.C_below H1.out.2 hb))
  have K := Lib.hid (below_after K.out hb)
  clear hb
  go_wp2_with fail
  refine (same_ok _ A1 A c1 c xs xs H1.out.2 H1.out.1 (Kd.C_below HT.out K.out) HX.out).mono ?_
  rw [decide_eq_true (rfl : xs = xs)]
  rintro e u3 ⟨rfl, hb⟩
  have K := Lib.hid (below_after K.out hb)
  clear hb H1
  go_wp2_with fail
  refine (exact_ok g q full r _ (ctr_below HC.out K.out)).mono ?_
  rw [E.out.2.1]
  rintro e u4 ⟨rfl, hb⟩
  have K := Lib.hid (below_after K.out hb)
  clear hb
  go_wp2_with fail
  refine (count_ok g q full r _ (ctr_below HC.out K.out) hq1 hq2 HU.out).mono ?_
  rw [E.out.2.2.1]
  rintro e u5 ⟨rfl, hb⟩
  have K := Lib.hid (below_after K.out hb)
  clear hb
  go_wp2_with fail
  refine (refCount_ok q full _ _ _ (own_later HV.out K.out) hq1 hq2 hl HU.out).mono ?_
  rw [E.out.2.2.1]
  rintro e u6 ⟨rfl, hb⟩
  have K := Lib.hid (below_after K.out hb)
  clear hb
  go_wp2_with fail
  refine (least_ok g q full r _ (ctr_below HC.out K.out) hq2).mono ?_
  rw [E.out.2.2.2]
  rintro e u7 ⟨rfl, hb⟩
  have K := Lib.hid (below_after K.out hb)
  clear hb
  go_wp2_with fail
  refine (refLeast_ok A c q full _ (Kd.C_below HK.out K.out) hc hq2).mono ?_
  rw [E.out.2.2.2]
  rintro e u8 ⟨rfl, hb⟩
  have K := Lib.hid (below_after K.out hb)
  clear hb
  go_wp2_with fail
  go_ret
  exact ⟨rfl, K.out⟩
end Go.Proofs.Ytlbpdlhelkokbaa
