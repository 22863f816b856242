/- event.Encode. -/
import Derived.Test.YtkhjnbjmbmacjaaDoorNH
import Derived.Test.YtkhjnbjmbmacjaaDoorNE
import Derived.Test.YtkhjnbjmbmacjaaDoorReads
namespace Go.Proofs.YtkhjnbjmbmacjaaDoor
open Go Go.RowKit Go.Proofs.YtkhjnbjmbmacjaaDoorW.PrintWords

/-- in W, on the way through Encode: the event's block, the variable b and its row; of what lay in w nothing has turned -/
structure Mid (w W : World) (base gb ge : Nat) (e : Ev) (S : Value) (us : List Value) : Prop where
  bel : Below w.heap.size w W
  ev : W.heap[ge]? = some (.cells #[.string e.src, .int .i64 e.num, .int .i64 e.at', .int .i64 e.kind, .string e.person, .string e.item, .int .i64 e.val, .string e.text] 24 (0, 0))
  buf : Buf W base gb S us
  hgb : w.heap.size ≤ gb
  hbase : w.heap.size ≤ base
  ne : ge ≠ gb
  bse : base ≤ W.heap.size
theorem Mid.text {w W W' : World} {base gb ge : Nat} {e : Ev} {S S' : Value} {us us' : List Value} (h : Mid w W base gb ge e S us) (hB : Buf W' base gb S' us') (ht : Touch (fun j => j = gb ∨ S.ownBlock = some j) W W') : Mid w W' base gb ge e S' us' := by
  have hrow := row_type h.buf.2 h.ev (by decide)
  refine ⟨h.bel.trans (ht.below h.bel.size ?_), (ht.block ge (lt_of_block h.ev) ?_).trans h.ev, hB, h.hgb, h.hbase, h.ne, by have := ht.size; have := h.bse; omega⟩
  · rintro k hk (e1 | e1)
    · have := h.hgb; omega
    · have := (h.buf.2.lt k e1).1; have := h.hbase; omega
  · rintro (e1 | e1)
    · exact h.ne e1
    · exact hrow e1
theorem Mid.cells {w W : World} {base gb ge : Nat} {e : Ev} {S : Value} {us : List Value} (h : Mid w W base gb ge e S us) : W.cell? ⟨gb, 0, none⟩ = some S ∧ W.frozen? ⟨gb, 0, none⟩ = false := by
  have := h.buf.1
  constructor <;> simp [World.cell?, World.frozen?, this]
/-- a number behind the row: the variable b still has the old slice, till it is stored -/
theorem Mid.grew {w W W' : World} {base gb ge : Nat} {e : Ev} {S S' : Value} {us : List Value} (h : Mid w W base gb ge e S us) (hg : Grew W W' S S') :
    Below w.heap.size w W' ∧ W'.heap[ge]? = W.heap[ge]? ∧ W'.heap[gb]? = W.heap[gb]? := by
  have hrow := row_type h.buf.2 h.ev (by decide)
  have hrow2 := row_type h.buf.2 h.buf.1 (by decide)
  refine ⟨h.bel.trans (hg.1.below h.bel.size ?_), hg.1.block ge (lt_of_block h.ev) hrow, hg.1.block gb (lt_of_block h.buf.1) hrow2⟩
  intro k hk e1
  have := (h.buf.2.lt k e1).1; have := h.hbase; omega
theorem owns_base {w : World} {b1 b2 n : Nat} {t : TypeId} {S : Value} {us : List Value} (h : w.ownsRow b1 t 1 S n us) (hb : b2 ≤ b1) : w.ownsRow b2 t 1 S n us := by
  refine ⟨h.1, h.2.imp id ?_⟩
  rintro ⟨g, c, cur, e, h1, h2⟩
  exact ⟨g, c, cur, e, by omega, h2⟩
theorem Grew.size {w w' : World} {S S' : Value} (h : Grew w w' S S') : w.heap.size ≤ w'.heap.size := h.1.size
theorem Mid.own {w W : World} {base gb ge : Nat} {e : Ev} {S : Value} {us : List Value} (h : Mid w W base gb ge e S us) : W.ownsRow base 5 1 S us.length us := h.buf.2
theorem blk_cell {w : World} {g : Nat} {S : Value} {t : TypeId} (h : w.heap[g]? = some (.cells #[S] t (0, 0))) : w.cell? ⟨g, 0, none⟩ = some S ∧ w.frozen? ⟨g, 0, none⟩ = false := by
  constructor <;> simp [World.cell?, World.frozen?, h]
theorem Mid.kept {w W W' : World} {base gb ge : Nat} {e : Ev} {S S' : Value} {us : List Value} (h : Mid w W base gb ge e S us) (hg : Grew W W' S S') : Kept (fun j => j = ge ∨ j = gb) W W' := by
  obtain ⟨_, g2, g3⟩ := h.grew hg
  rintro j (rfl | rfl)
  · exact g2
  · exact g3
theorem Mid.kept2 {w W W1 W' : World} {base gb ge : Nat} {e : Ev} {S S1 S' : Value} {us : List Value} (h : Mid w W base gb ge e S us) (hg1 : Grew W W1 S S1) (hg : Grew W W' S S') : Kept (fun j => j = ge ∨ j = gb) W1 W' := fun j hj =>
  (h.kept hg j hj).trans (h.kept hg1 j hj).symm
theorem Mid.cells2 {w W W' : World} {base gb ge : Nat} {e : Ev} {S S' : Value} {us : List Value} (h : Mid w W base gb ge e S us) (hg : Grew W W' S S') : W'.cell? ⟨gb, 0, none⟩ = some S ∧ W'.frozen? ⟨gb, 0, none⟩ = false :=
  blk_cell ((h.grew hg).2.2.trans h.buf.1)
theorem Mid.drew {w W : World} {base gb ge : Nat} {e : Ev} {S : Value} {us : List Value} (h : Mid w W base gb ge e S us) : Mid w W.drew base gb ge e S us :=
  ⟨below_dr h.bel, h.ev, h.buf, h.hgb, h.hbase, h.ne, h.bse⟩
theorem Grew.trans {w w1 w2 : World} {S S1 S2 : Value} (h : Grew w w1 S S1) (k : Grew w1 w2 S1 S2) : Grew w w2 S S2 := by
  have hs := h.1.size
  refine ⟨⟨k.1.os.trans h.1.os, k.1.tape.trans h.1.tape, k.1.output.trans h.1.output, Nat.le_trans hs k.1.size, fun i hi hF => ?_⟩, ?_⟩
  · refine (k.1.block i (by omega) ?_).trans (h.1.block i hi hF)
    rcases h.2 with e | ⟨j, e, hj⟩
    · rw [e]; exact hF
    · rw [e]; intro e2; have := Option.some.inj e2; omega
  · rcases k.2 with e | ⟨j, e, hj⟩
    · rw [e]; exact h.2
    · exact .inr ⟨j, e, by omega⟩
theorem Mid.stored {w W W' : World} {base gb ge : Nat} {e : Ev} {S S' : Value} {us us' : List Value} (h : Mid w W base gb ge e S us) (hg : Grew W W' S S') (ho : W'.ownsRow base 5 1 S' us'.length us') : Mid w (W'.setCell ⟨gb, 0, none⟩ S') base gb ge e S' us' := by
  obtain ⟨g1, g2, g3⟩ := h.grew hg
  have hB : W'.heap[gb]? = some (.cells #[S] 28 (0, 0)) := g3.trans h.buf.1
  have hrow := row_type ho hB (by decide)
  have ht : ∀ k, k ≠ gb → (W'.setCell ⟨gb, 0, none⟩ S').heap[k]? = W'.heap[k]? := fun k hk => Below.heap_setCell _ _ _ _ hk
  refine ⟨g1.setCell (p := ⟨gb, 0, none⟩) h.hgb S', (ht ge h.ne).trans (g2.trans h.ev), ⟨by rw [blk_set hB]; rfl, ?_⟩, h.hgb, h.hbase, h.ne, ?_⟩
  · refine ⟨ho.1, ho.2.imp id ?_⟩
    rintro ⟨g, c, cur, e, hb, hg, hr⟩
    exact ⟨g, c, cur, e, hb, (ht g (fun e2 => hrow (by rw [e, ← e2]; rfl))).trans hg, hr⟩
  · have h1 := hg.1.size
    have h2 := h.bse
    have h3 : (W'.setCell ⟨gb, 0, none⟩ S').heap.size = W'.heap.size := by simp [World.setCell]
    omega
def vB (l : List UInt8) : List Value := l.map fun b => Value.int .u8 b.toNat
theorem vB_append (l k : List UInt8) : vB (l ++ k) = vB l ++ vB k := List.map_append
theorem vB_length (l : List UInt8) : (vB l).length = l.length := List.length_map _
theorem u8_nat (n : Nat) (h : n ≤ 255) : ((UInt8.ofNat n).toNat : Int) = n := by rw [UInt8.toNat_ofNat']; omega
def grB (n : Nat) : List UInt8 := if 128 ≤ n then UInt8.ofNat (n % 128 + 128) :: grB (n / 128) else [UInt8.ofNat n]
termination_by n
theorem by_grB (n : Nat) : By (grF n) = vB (grB n) := by
  induction n using Nat.strongRecOn with
  | _ n ih =>
    rw [grF, grB]
    split
    · have := ih (n / 128) (by omega)
      unfold By vB at *
      rw [List.map_cons, List.map_cons, this, u8_nat _ (by omega)]
    · simp only [By, vB, List.map_cons, List.map_nil]
      rw [u8_nat _ (by omega)]
def woB (s : ByteArray) : List UInt8 := UInt8.ofNat s.size :: s.data.toList
theorem vB_wo (s : ByteArray) (h : s.size ≤ 255) : vB (woB s) = .int .u8 s.size :: Lib.strCells s := by
  unfold vB woB Lib.strCells
  rw [List.map_cons, u8_nat _ h]
/-- an event's bytes -/
def encB (e : Ev) : List UInt8 := UInt8.ofNat e.kind.toNat :: (woB e.src ++ (grB e.num.toNat ++ (grB e.at'.toNat ++ (woB e.person ++ (woB e.item ++ (grB e.val.toNat ++ woB e.text))))))
theorem enc_cells (src person item text : ByteArray) (nk na nb nc : Nat) (lk : nk ≤ 255) (s1 : src.size ≤ 255) (s2 : person.size ≤ 255) (s3 : item.size ≤ 255) (s4 : text.size ≤ 255) :
    ((((([Value.int .u8 nk] ++ [Value.int .u8 src.size] ++ Lib.strCells src) ++ By (grF na) ++ By (grF nb)) ++ [Value.int .u8 person.size] ++ Lib.strCells person) ++ [Value.int .u8 item.size] ++ Lib.strCells item) ++ By (grF nc)) ++ [Value.int .u8 text.size] ++ Lib.strCells text
      = vB (encB ⟨src, na, nb, nk, person, item, nc, text⟩) := by
  have e : encB ⟨src, na, nb, nk, person, item, nc, text⟩ = [UInt8.ofNat nk] ++ (woB src ++ (grB na ++ (grB nb ++ (woB person ++ (woB item ++ (grB nc ++ woB text)))))) := rfl
  have e1 : vB [UInt8.ofNat nk] = [.int .u8 nk] := by unfold vB; rw [List.map_cons, u8_nat _ lk]; rfl
  rw [e, vB_append, e1]
  simp only [vB_append, vB_wo _ s1, vB_wo _ s2, vB_wo _ s3, vB_wo _ s4, by_grB, List.append_assoc, List.cons_append, List.nil_append]
theorem grF_len : ∀ (k n : Nat), n < 128 ^ k → (grF n).length ≤ k + 1
  | 0, n, h => by rw [grF, if_neg (by simp at h; omega)]; simp
  | k + 1, n, h => by
    rw [grF]
    split
    · rw [List.length_cons]
      have := grF_len k (n / 128) (by rw [Nat.pow_succ] at h; omega)
      omega
    · simp
theorem grF_len7 (n : Nat) (h : n ≤ 1099511627776) : (grF n).length ≤ 7 := grF_len 6 n (Nat.lt_of_le_of_lt h (by decide))
set_option maxHeartbeats 1000000 in
set_option maxRecDepth 100000 in
theorem encode_of (e : Ev) (w : World) (na nb nc nk : Nat) (ha : e.num = na) (hb : e.at' = nb) (hc : e.val = nc) (hk : e.kind = nk) (la : na ≤ 1099511627776) (lb : nb ≤ 1099511627776) (lc : nc ≤ 1099511627776) (lk : nk ≤ 255)
    (s1 : e.src.size ≤ 255) (s2 : e.person.size ≤ 255) (s3 : e.item.size ≤ 255) (s4 : e.text.size ≤ 255)
    (hM : ∀ W, Below w.heap.size w W → Calls Tryd.prog 19 #[e.v] W fun x w' => x = .returned (.bool true) ∧ Below W.heap.size W w') :
    Calls Tryd.prog 15 #[e.v] w fun x w' => ∃ S', x = .returned (.tuple #[S', .int .i64 0]) ∧ Below w.heap.size w w' ∧ w'.ownsRow w.heap.size 5 1 S' (encB e).length (vB (encB e)) := by
  have HM := Lib.hid hM
  clear hM
  obtain ⟨src, num, at', kind, person, item, val, text⟩ := e
  simp only at ha hb hc hk s1 s2 s3 s4
  subst ha hb hc hk
  have hz : (nk : Int) % 256 = (nk : Int) := by omega
  go_enter Tryd.func15, Tryd.ntmps15
  go_wp2_with fail
  refine (HM.out _ (by first | exact Below.refl _ _ | exact below_al (Below.refl _ _) _)).mono ?_
  rintro x w1 ⟨rfl, hb⟩
  have K0 := below_after (below_al (Below.refl w.heap.size w) _) hb
  have hwl : w.heap.size < w1.heap.size := by have := hb.size; simp at this; omega
  have MD : Hid (Mid w ((w1.alloc (.cells #[.int .u8 (nk : Int)] 5 (0, 0))).alloc (.cells #[.slice (some ⟨w1.heap.size, 0, none⟩) 1 1] 28 (0, 0))) w1.heap.size (w1.heap.size + 1) w.heap.size ⟨src, na, nb, nk, person, item, nc, text⟩ (.slice (some ⟨w1.heap.size, 0, none⟩) 1 1) [.int .u8 (nk : Int)]) := by
    refine ⟨below_al (below_al K0 _) _, blk_old (blk_old (blk_below (blk_new w _) hb) _) _, ⟨blk_new_at _ (by simp), ⟨rfl, .inr ⟨w1.heap.size, 1, #[.int .u8 (nk : Int)], rfl, Nat.le_refl _, blk_old (blk_new w1 _) _, Nat.le_refl _, by unfold maxLen; omega, rfl, rfl⟩⟩⟩, by omega, by omega, by omega, by simp; omega⟩
  have BE : Hid (w1.heap[w.heap.size]? = some (.cells #[.string src, .int .i64 na, .int .i64 nb, .int .i64 nk, .string person, .string item, .int .i64 nc, .string text] 24 (0, 0))) := blk_below (blk_new w _) hb
  obtain ⟨c0, c1, c2, c3, c4, c5, c6, c7⟩ := ev_cells (e := ⟨src, na, nb, nk, person, item, nc, text⟩) BE.out
  obtain ⟨d0, d1, d2, d3, d4, d5, d6, d7⟩ := ev_cells MD.out.ev
  clear hb K0 hwl
  go_wp2_with fail
  refine (text_ok _ _ _ _ src _ MD.out.buf (by simp) s1 MD.out.bse).mono ?_
  rintro x w2 ⟨rfl, S2, hB2, ht2⟩
  have MD := Lib.hid (MD.out.text hB2 ht2)
  obtain ⟨u2, hu2⟩ : ∃ u2, (([Value.int .u8 (nk : Int)] ++ [.int .u8 src.size]) ++ Lib.strCells src) = u2 := ⟨_, rfl⟩
  rw [hu2] at MD
  have l2 : u2.length ≤ 300 := by rw [← hu2]; simp [Lib.strCells_length]; omega
  have HU2 := Lib.hid hu2
  clear hu2 hB2 ht2 c0 c1 c2 c3 c4 c5 c6 c7 d0 d1 d2 d3 d4 d5 d6 d7 BE
  obtain ⟨d0, d1, d2, d3, d4, d5, d6, d7⟩ := ev_cells MD.out.ev
  obtain ⟨b0, bf⟩ := MD.out.cells
  go_wp2_with fail
  have HL2 := Lib.hid l2
  obtain ⟨l2a, l2b⟩ : u2.length ≤ 10000 ∧ (u2 ++ By (grF na)).length ≤ 10000 := by have := grF_len7 na la; simp [By]; omega
  have HL := Lib.hid (And.intro l2a l2b)
  clear l2a l2b l2
  have MD := Lib.hid MD.out.drew
  clear d0 d1 d2 d3 d4 d5 d6 d7 b0 bf
  refine region_reads (Kept (fun j => j = w.heap.size ∨ j = w1.heap.size + 1)) (Kept.runs _) 7 [0, 1, 2, 4, 5] 2 (by kernel_rfl) (by kernel_rfl) ?_
  have BB := Lib.hid MD.out.buf.1
  have BE := Lib.hid MD.out.ev
  repeat
    refine wpReads_ex rfl ?_
    apply Exists.intro
    refine ⟨fun wq hq => ?_, ?_⟩
    · obtain ⟨c0, c1, c2, c3, c4, c5, c6, c7⟩ := ev_cells ((hq _ (.inl rfl)).trans BE.out)
      have b0 := (blk_cell ((hq _ (.inr rfl)).trans BB.out)).1
      go_simp
      first
        | rfl
    simp only [Act.put, List.setIfInBounds_toArray, List.set_cons_zero, List.set_cons_succ]
  refine wpReads_nil (wpS_one 3 rfl (by kernel_rfl) fun K hK => ?_)
  go_simp
  refine (groups_ok w1.heap.size S2 u2 na w2.drew MD.out.own la HL.out.1 MD.out.bse).mono ?_
  rintro x w3 ⟨S3, rfl, ho3, hg3⟩
  refine hK _ _ (MD.out.kept hg3) ?_
  clear hK K
  have HO3 := Lib.hid ho3
  have HG3 := Lib.hid hg3
  clear ho3 hg3
  refine wpS_one 6 rfl (by kernel_rfl) fun K hK => ?_
  go_simp
  refine (groups_ok w1.heap.size S3 (u2 ++ By (grF na)) nb w3 HO3.out lb HL.out.2 (Nat.le_trans MD.out.bse HG3.out.size)).mono ?_
  rintro x w4 ⟨S4, rfl, ho4, hg4⟩
  refine hK _ _ (MD.out.kept2 HG3.out (HG3.out.trans hg4)) ?_
  clear hK K
  obtain ⟨u4, hu4⟩ : ∃ u4, (u2 ++ By (grF na)) ++ By (grF nb) = u4 := ⟨_, rfl⟩
  rw [hu4] at ho4
  obtain ⟨n4, hn4⟩ : ∃ n4, u4.length = n4 := ⟨_, rfl⟩
  have l4 : n4 ≤ 1000 := by rw [← hn4, ← hu4]; have := grF_len7 na la; have := grF_len7 nb lb; have := HL2.out; simp [By]; omega
  rw [hn4] at ho4
  obtain ⟨A4, c4, rfl⟩ := row_slice ho4
  have HG4 := Lib.hid (HG3.out.trans hg4)
  have HO4 := Lib.hid ho4
  have HN4 := Lib.hid hn4
  have HU4 := Lib.hid hu4
  clear ho4 hg4 hn4 hu4
  have MD2 := Lib.hid (MD.out.stored HG4.out (us' := u4) (by rw [HN4.out]; exact HO4.out))
  refine wpS_tail (by kernel_rfl) ?_
  obtain ⟨b0, bf⟩ := MD.out.cells2 HG4.out
  obtain ⟨d0, d1, d2, d3, d4, d5, d6, d7⟩ := ev_cells ((MD.out.grew HG4.out).2.1.trans MD.out.ev)
  clear BB BE MD
  go_wp2_with fail
  refine (text_ok _ _ _ _ person _ MD2.out.buf (by rw [HN4.out]; omega) s2 MD2.out.bse).mono ?_
  rintro x w5 ⟨rfl, S5, hB5, ht5⟩
  have MD := Lib.hid (MD2.out.text hB5 ht5)
  clear hB5 ht5 d0 d1 d2 d3 d4 d5 d6 d7 b0 bf MD2
  obtain ⟨u5, hu5⟩ : ∃ u5, ((u4 ++ [.int .u8 person.size]) ++ Lib.strCells person) = u5 := ⟨_, rfl⟩
  rw [hu5] at MD
  have l5 : u5.length ≤ 2000 := by rw [← hu5]; have := HN4.out; simp [Lib.strCells_length]; omega
  have HU5 := Lib.hid hu5
  clear hu5
  obtain ⟨d0, d1, d2, d3, d4, d5, d6, d7⟩ := ev_cells MD.out.ev
  go_wp2_with fail
  refine (text_ok _ _ _ _ item _ MD.out.buf (by omega) s3 MD.out.bse).mono ?_
  rintro x w6 ⟨rfl, S6, hB6, ht6⟩
  have MD := Lib.hid (MD.out.text hB6 ht6)
  clear hB6 ht6 d0 d1 d2 d3 d4 d5 d6 d7
  obtain ⟨u6, hu6⟩ : ∃ u6, ((u5 ++ [.int .u8 item.size]) ++ Lib.strCells item) = u6 := ⟨_, rfl⟩
  rw [hu6] at MD
  have l6 : u6.length ≤ 3000 := by rw [← hu6]; simp [Lib.strCells_length]; omega
  have HU6 := Lib.hid hu6
  clear hu6
  obtain ⟨d0, d1, d2, d3, d4, d5, d6, d7⟩ := ev_cells MD.out.ev
  obtain ⟨b0, bf⟩ := MD.out.cells
  go_wp2_with fail
  refine (groups_ok w1.heap.size S6 u6 nc _ MD.out.own lc (by omega) MD.out.bse).mono ?_
  rintro x w7 ⟨S7, rfl, ho7, hg7⟩
  obtain ⟨u7, hu7⟩ : ∃ u7, u6 ++ By (grF nc) = u7 := ⟨_, rfl⟩
  rw [hu7] at ho7
  obtain ⟨n7, hn7⟩ : ∃ n7, u7.length = n7 := ⟨_, rfl⟩
  have l7 : n7 ≤ 4000 := by rw [← hn7, ← hu7]; have := grF_len7 nc lc; simp [By]; omega
  rw [hn7] at ho7
  obtain ⟨A7, c7', rfl⟩ := row_slice ho7
  have HG7 := Lib.hid hg7
  have HO7 := Lib.hid ho7
  have HN7 := Lib.hid hn7
  have HU7 := Lib.hid hu7
  clear ho7 hg7 hn7 hu7 d0 d1 d2 d3 d4 d5 d6 d7 b0 bf
  obtain ⟨b0, bf⟩ := MD.out.cells2 HG7.out
  obtain ⟨d0, d1, d2, d3, d4, d5, d6, d7⟩ := ev_cells ((MD.out.grew HG7.out).2.1.trans MD.out.ev)
  have MD2 := Lib.hid (MD.out.stored HG7.out (us' := u7) (by rw [HN7.out]; exact HO7.out))
  clear MD
  go_wp2_with fail
  refine (text_ok _ _ _ _ text _ MD2.out.buf (by rw [HN7.out]; omega) s4 MD2.out.bse).mono ?_
  rintro x w8 ⟨rfl, S8, hB8, ht8⟩
  have MD := Lib.hid (MD2.out.text hB8 ht8)
  clear hB8 ht8 d0 d1 d2 d3 d4 d5 d6 d7 b0 bf MD2
  obtain ⟨b0, bf⟩ := MD.out.cells
  go_wp2_with fail
  have EQ : (u7 ++ [Value.int .u8 text.size]) ++ Lib.strCells text = vB (encB ⟨src, na, nb, nk, person, item, nc, text⟩) := by
    rw [← HU7.out, ← HU6.out, ← HU5.out, ← HU4.out, ← HU2.out]
    exact enc_cells _ _ _ _ _ _ _ _ lk s1 s2 s3 s4
  have OW := MD.out.own
  rw [EQ, vB_length] at OW
  have OW := Lib.hid OW
  clear EQ
  go_ret2
  exact ⟨S8, rfl, MD.out.bel, owns_base OW.out MD.out.hbase⟩
/-- what may not be has no bytes -/
theorem encode_no (e : Ev) (w : World) (hM : ∀ W, Below w.heap.size w W → Calls Tryd.prog 19 #[e.v] W fun x w' => x = .returned (.bool false) ∧ Below W.heap.size W w') :
    Calls Tryd.prog 15 #[e.v] w fun x w' => x = .returned (.tuple #[.slice none 0 0, .int .i64 1]) ∧ Below w.heap.size w w' := by
  have HM := Lib.hid hM
  clear hM
  obtain ⟨src, num, at', kind, person, item, val, text⟩ := e
  go_enter Tryd.func15, Tryd.ntmps15
  go_wp2_with fail
  refine (HM.out _ (by first | exact Below.refl _ _ | exact below_al (Below.refl _ _) _)).mono ?_
  rintro x w1 ⟨rfl, hb⟩
  have K0 := Lib.hid (below_after (below_al (Below.refl w.heap.size w) _) hb)
  clear hb
  go_wp2_with fail
  go_ret2
  exact ⟨rfl, K0.out⟩
end Go.Proofs.YtkhjnbjmbmacjaaDoor
