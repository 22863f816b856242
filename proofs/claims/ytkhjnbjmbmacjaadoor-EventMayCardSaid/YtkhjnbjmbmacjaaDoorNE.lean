/- event.May, walked; printed by wip/tools/maywalk.py. -/
import Derived.Test.YtkhjnbjmbmacjaaDoorND
namespace Go.Proofs.YtkhjnbjmbmacjaaDoor
open Go Go.RowKit Go.Proofs.YtkhjnbjmbmacjaaDoorW.PrintWords

def mayW (e : Ev) (g : Bool) : Bool := (rowF e.kind).ok && (nameB e.src && (inF e.num 1 1099511627776 && (inF e.at' 0 1099511627776 && (inF e.val (rowF e.kind).least (rowF e.kind).most && (namedF e.person (rowF e.kind).person && (namedF e.item (rowF e.kind).item && (if (rowF e.kind).goods then g else namedF e.text (rowF e.kind).maker)))))))
def evObj (e : Ev) : Obj := .cells #[.string e.src, .int .i64 e.num, .int .i64 e.at', .int .i64 e.kind, .string e.person, .string e.item, .int .i64 e.val, .string e.text] 24 (0, 0)
theorem ev_cells {w : World} {g : Nat} {e : Ev} (h : w.heap[g]? = some (.cells #[.string e.src, .int .i64 e.num, .int .i64 e.at', .int .i64 e.kind, .string e.person, .string e.item, .int .i64 e.val, .string e.text] 24 (0, 0))) :
    w.cell? ⟨g, 0, none⟩ = some (.string e.src) ∧ w.cell? ⟨g, 1, none⟩ = some (.int .i64 e.num) ∧ w.cell? ⟨g, 2, none⟩ = some (.int .i64 e.at') ∧ w.cell? ⟨g, 3, none⟩ = some (.int .i64 e.kind) ∧ w.cell? ⟨g, 4, none⟩ = some (.string e.person) ∧ w.cell? ⟨g, 5, none⟩ = some (.string e.item) ∧ w.cell? ⟨g, 6, none⟩ = some (.int .i64 e.val) ∧ w.cell? ⟨g, 7, none⟩ = some (.string e.text) := by
  refine ⟨?_, ?_, ?_, ?_, ?_, ?_, ?_, ?_⟩ <;> simp [World.cell?, h]
theorem ask_cells {w : World} {g : Nat} {rp ri rm rg : Bool} {rl rt : Int} (h : w.heap[g]? = some (.cells #[.bool rp, .bool ri, .bool rm, .bool rg, .int .i64 rl, .int .i64 rt] 66 (0, 0))) :
    w.cell? ⟨g, 0, none⟩ = some (.bool rp) ∧ w.cell? ⟨g, 1, none⟩ = some (.bool ri) ∧ w.cell? ⟨g, 2, none⟩ = some (.bool rm) ∧ w.cell? ⟨g, 3, none⟩ = some (.bool rg) ∧ w.cell? ⟨g, 4, none⟩ = some (.int .i64 rl) ∧ w.cell? ⟨g, 5, none⟩ = some (.int .i64 rt) := by
  refine ⟨?_, ?_, ?_, ?_, ?_, ?_⟩ <;> simp [World.cell?, h]
set_option maxHeartbeats 2000000 in
set_option maxRecDepth 100000 in
theorem may_of (e : Ev) (g : Bool) (w : World) (h1 : e.src.size ≤ 9223372036854775807) (h2 : e.person.size ≤ 9223372036854775807) (h3 : e.item.size ≤ 9223372036854775807) (h4 : e.text.size ≤ 9223372036854775807)
    (hG : (rowF e.kind).goods = true → ∀ W, Below w.heap.size w W → Calls Tryd.prog 53 #[.string e.text] W fun x w' => x = .returned (.bool g) ∧ Below W.heap.size W w') :
    Calls Tryd.prog 19 #[e.v] w fun x w' => x = .returned (.bool (mayW e g)) ∧ Below w.heap.size w w' := by
  have R := Lib.hid (fun W => row_ok e.kind W)
  unfold mayW
  generalize rowF e.kind = r at *
  obtain ⟨rp, ri, rm, rg, rl, rt, ro⟩ := r
  simp only at *
  have N1 := Lib.hid (fun W => name_ok e.src W h1)
  have C1 := Lib.hid (fun W => within_ok e.num 1 1099511627776 W)
  have C2 := Lib.hid (fun W => within_ok e.at' 0 1099511627776 W)
  have C3 := Lib.hid (fun W => within_ok e.val rl rt W)
  have M1 := Lib.hid (fun W => named_ok e.person rp W h2)
  have M2 := Lib.hid (fun W => named_ok e.item ri W h3)
  have M3 := Lib.hid (fun W => named_ok e.text rm W h4)
  have HG := Lib.hid hG
  clear hG h1 h2 h3 h4
  generalize nameB e.src = b1 at *
  generalize inF e.num 1 1099511627776 = b2 at *
  generalize inF e.at' 0 1099511627776 = b3 at *
  generalize inF e.val rl rt = b4 at *
  generalize namedF e.person rp = b5 at *
  generalize namedF e.item ri = b6 at *
  generalize namedF e.text rm = b7 at *
  cases rg with
  | true =>
    go_enter Tryd.func19, Tryd.ntmps19
    go_wp2_with fail
    refine (R.out _).mono ?_
    rintro x w1 ⟨rfl, hb⟩
    have K0 := below_after (below_al (Below.refl w.heap.size w) (.cells #[.string e.src, .int .i64 e.num, .int .i64 e.at', .int .i64 e.kind, .string e.person, .string e.item, .int .i64 e.val, .string e.text] 24 (0, 0))) hb
    have BE := Lib.hid (blk_old (blk_below (blk_new w (.cells #[.string e.src, .int .i64 e.num, .int .i64 e.at', .int .i64 e.kind, .string e.person, .string e.item, .int .i64 e.val, .string e.text] 24 (0, 0))) hb) (.cells #[.bool rp, .bool ri, .bool rm, .bool true, .int .i64 rl, .int .i64 rt] 66 (0, 0)))
    have BR := Lib.hid (blk_new w1 (.cells #[.bool rp, .bool ri, .bool rm, .bool true, .int .i64 rl, .int .i64 rt] 66 (0, 0)))
    have K := Lib.hid (K0.alloc K0.size (.cells #[.bool rp, .bool ri, .bool rm, .bool true, .int .i64 rl, .int .i64 rt] 66 (0, 0)))
    clear hb K0
    cases ro with
    | false =>
      obtain ⟨c0, c1, c2, c3, c4, c5, c6, c7⟩ := ev_cells BE.out
      obtain ⟨a0, a1, a2, a3, a4, a5⟩ := ask_cells BR.out
      go_wp2_with fail
      go_ret
      exact ⟨rfl, K.out⟩
    | true =>
      obtain ⟨c0, c1, c2, c3, c4, c5, c6, c7⟩ := ev_cells BE.out
      obtain ⟨a0, a1, a2, a3, a4, a5⟩ := ask_cells BR.out
      go_wp2_with fail
      refine (N1.out _).mono ?_
      rintro x w2 ⟨rfl, hb⟩
      have K := Lib.hid (below_after K.out hb)
      have BE := Lib.hid (blk_below BE.out hb)
      have BR := Lib.hid (blk_below BR.out hb)
      clear hb c0 c1 c2 c3 c4 c5 c6 c7 a0 a1 a2 a3 a4 a5
      cases b1 with
      | false =>
        obtain ⟨c0, c1, c2, c3, c4, c5, c6, c7⟩ := ev_cells BE.out
        obtain ⟨a0, a1, a2, a3, a4, a5⟩ := ask_cells BR.out
        go_wp2_with fail
        go_ret
        exact ⟨rfl, K.out⟩
      | true =>
        obtain ⟨c0, c1, c2, c3, c4, c5, c6, c7⟩ := ev_cells BE.out
        obtain ⟨a0, a1, a2, a3, a4, a5⟩ := ask_cells BR.out
        go_wp2_with fail
        refine (C1.out _).mono ?_
        rintro x w3 ⟨rfl, hb⟩
        have K := Lib.hid (below_after K.out hb)
        have BE := Lib.hid (blk_below BE.out hb)
        have BR := Lib.hid (blk_below BR.out hb)
        clear hb c0 c1 c2 c3 c4 c5 c6 c7 a0 a1 a2 a3 a4 a5
        cases b2 with
        | false =>
          obtain ⟨c0, c1, c2, c3, c4, c5, c6, c7⟩ := ev_cells BE.out
          obtain ⟨a0, a1, a2, a3, a4, a5⟩ := ask_cells BR.out
          go_wp2_with fail
          go_ret
          exact ⟨rfl, K.out⟩
        | true =>
          obtain ⟨c0, c1, c2, c3, c4, c5, c6, c7⟩ := ev_cells BE.out
          obtain ⟨a0, a1, a2, a3, a4, a5⟩ := ask_cells BR.out
          go_wp2_with fail
          refine (C2.out _).mono ?_
          rintro x w4 ⟨rfl, hb⟩
          have K := Lib.hid (below_after K.out hb)
          have BE := Lib.hid (blk_below BE.out hb)
          have BR := Lib.hid (blk_below BR.out hb)
          clear hb c0 c1 c2 c3 c4 c5 c6 c7 a0 a1 a2 a3 a4 a5
          cases b3 with
          | false =>
            obtain ⟨c0, c1, c2, c3, c4, c5, c6, c7⟩ := ev_cells BE.out
            obtain ⟨a0, a1, a2, a3, a4, a5⟩ := ask_cells BR.out
            go_wp2_with fail
            go_ret
            exact ⟨rfl, K.out⟩
          | true =>
            obtain ⟨c0, c1, c2, c3, c4, c5, c6, c7⟩ := ev_cells BE.out
            obtain ⟨a0, a1, a2, a3, a4, a5⟩ := ask_cells BR.out
            go_wp2_with fail
            refine (C3.out _).mono ?_
            rintro x w5 ⟨rfl, hb⟩
            have K := Lib.hid (below_after K.out hb)
            have BE := Lib.hid (blk_below BE.out hb)
            have BR := Lib.hid (blk_below BR.out hb)
            clear hb c0 c1 c2 c3 c4 c5 c6 c7 a0 a1 a2 a3 a4 a5
            cases b4 with
            | false =>
              obtain ⟨c0, c1, c2, c3, c4, c5, c6, c7⟩ := ev_cells BE.out
              obtain ⟨a0, a1, a2, a3, a4, a5⟩ := ask_cells BR.out
              go_wp2_with fail
              go_ret
              exact ⟨rfl, K.out⟩
            | true =>
              obtain ⟨c0, c1, c2, c3, c4, c5, c6, c7⟩ := ev_cells BE.out
              obtain ⟨a0, a1, a2, a3, a4, a5⟩ := ask_cells BR.out
              go_wp2_with fail
              refine (M1.out _).mono ?_
              rintro x w6 ⟨rfl, hb⟩
              have K := Lib.hid (below_after K.out hb)
              have BE := Lib.hid (blk_below BE.out hb)
              have BR := Lib.hid (blk_below BR.out hb)
              clear hb c0 c1 c2 c3 c4 c5 c6 c7 a0 a1 a2 a3 a4 a5
              cases b5 with
              | false =>
                obtain ⟨c0, c1, c2, c3, c4, c5, c6, c7⟩ := ev_cells BE.out
                obtain ⟨a0, a1, a2, a3, a4, a5⟩ := ask_cells BR.out
                go_wp2_with fail
                go_ret
                exact ⟨rfl, K.out⟩
              | true =>
                obtain ⟨c0, c1, c2, c3, c4, c5, c6, c7⟩ := ev_cells BE.out
                obtain ⟨a0, a1, a2, a3, a4, a5⟩ := ask_cells BR.out
                go_wp2_with fail
                refine (M2.out _).mono ?_
                rintro x w7 ⟨rfl, hb⟩
                have K := Lib.hid (below_after K.out hb)
                have BE := Lib.hid (blk_below BE.out hb)
                have BR := Lib.hid (blk_below BR.out hb)
                clear hb c0 c1 c2 c3 c4 c5 c6 c7 a0 a1 a2 a3 a4 a5
                cases b6 with
                | false =>
                  obtain ⟨c0, c1, c2, c3, c4, c5, c6, c7⟩ := ev_cells BE.out
                  obtain ⟨a0, a1, a2, a3, a4, a5⟩ := ask_cells BR.out
                  go_wp2_with fail
                  go_ret
                  exact ⟨rfl, K.out⟩
                | true =>
                  obtain ⟨c0, c1, c2, c3, c4, c5, c6, c7⟩ := ev_cells BE.out
                  obtain ⟨a0, a1, a2, a3, a4, a5⟩ := ask_cells BR.out
                  go_wp2_with fail
                  refine (HG.out (by trivial) _ K.out).mono ?_
                  rintro x w8 ⟨rfl, hb⟩
                  have K := Lib.hid (below_after K.out hb)
                  have BE := Lib.hid (blk_below BE.out hb)
                  have BR := Lib.hid (blk_below BR.out hb)
                  clear hb c0 c1 c2 c3 c4 c5 c6 c7 a0 a1 a2 a3 a4 a5
                  cases g with
                  | false =>
                    obtain ⟨c0, c1, c2, c3, c4, c5, c6, c7⟩ := ev_cells BE.out
                    obtain ⟨a0, a1, a2, a3, a4, a5⟩ := ask_cells BR.out
                    go_wp2_with fail
                    go_ret
                    exact ⟨rfl, K.out⟩
                  | true =>
                    obtain ⟨c0, c1, c2, c3, c4, c5, c6, c7⟩ := ev_cells BE.out
                    obtain ⟨a0, a1, a2, a3, a4, a5⟩ := ask_cells BR.out
                    go_wp2_with fail
                    go_ret
                    exact ⟨rfl, K.out⟩
  | false =>
    go_enter Tryd.func19, Tryd.ntmps19
    go_wp2_with fail
    refine (R.out _).mono ?_
    rintro x w1 ⟨rfl, hb⟩
    have K0 := below_after (below_al (Below.refl w.heap.size w) (.cells #[.string e.src, .int .i64 e.num, .int .i64 e.at', .int .i64 e.kind, .string e.person, .string e.item, .int .i64 e.val, .string e.text] 24 (0, 0))) hb
    have BE := Lib.hid (blk_old (blk_below (blk_new w (.cells #[.string e.src, .int .i64 e.num, .int .i64 e.at', .int .i64 e.kind, .string e.person, .string e.item, .int .i64 e.val, .string e.text] 24 (0, 0))) hb) (.cells #[.bool rp, .bool ri, .bool rm, .bool false, .int .i64 rl, .int .i64 rt] 66 (0, 0)))
    have BR := Lib.hid (blk_new w1 (.cells #[.bool rp, .bool ri, .bool rm, .bool false, .int .i64 rl, .int .i64 rt] 66 (0, 0)))
    have K := Lib.hid (K0.alloc K0.size (.cells #[.bool rp, .bool ri, .bool rm, .bool false, .int .i64 rl, .int .i64 rt] 66 (0, 0)))
    clear hb K0
    cases ro with
    | false =>
      obtain ⟨c0, c1, c2, c3, c4, c5, c6, c7⟩ := ev_cells BE.out
      obtain ⟨a0, a1, a2, a3, a4, a5⟩ := ask_cells BR.out
      go_wp2_with fail
      go_ret
      exact ⟨rfl, K.out⟩
    | true =>
      obtain ⟨c0, c1, c2, c3, c4, c5, c6, c7⟩ := ev_cells BE.out
      obtain ⟨a0, a1, a2, a3, a4, a5⟩ := ask_cells BR.out
      go_wp2_with fail
      refine (N1.out _).mono ?_
      rintro x w2 ⟨rfl, hb⟩
      have K := Lib.hid (below_after K.out hb)
      have BE := Lib.hid (blk_below BE.out hb)
      have BR := Lib.hid (blk_below BR.out hb)
      clear hb c0 c1 c2 c3 c4 c5 c6 c7 a0 a1 a2 a3 a4 a5
      cases b1 with
      | false =>
        obtain ⟨c0, c1, c2, c3, c4, c5, c6, c7⟩ := ev_cells BE.out
        obtain ⟨a0, a1, a2, a3, a4, a5⟩ := ask_cells BR.out
        go_wp2_with fail
        go_ret
        exact ⟨rfl, K.out⟩
      | true =>
        obtain ⟨c0, c1, c2, c3, c4, c5, c6, c7⟩ := ev_cells BE.out
        obtain ⟨a0, a1, a2, a3, a4, a5⟩ := ask_cells BR.out
        go_wp2_with fail
        refine (C1.out _).mono ?_
        rintro x w3 ⟨rfl, hb⟩
        have K := Lib.hid (below_after K.out hb)
        have BE := Lib.hid (blk_below BE.out hb)
        have BR := Lib.hid (blk_below BR.out hb)
        clear hb c0 c1 c2 c3 c4 c5 c6 c7 a0 a1 a2 a3 a4 a5
        cases b2 with
        | false =>
          obtain ⟨c0, c1, c2, c3, c4, c5, c6, c7⟩ := ev_cells BE.out
          obtain ⟨a0, a1, a2, a3, a4, a5⟩ := ask_cells BR.out
          go_wp2_with fail
          go_ret
          exact ⟨rfl, K.out⟩
        | true =>
          obtain ⟨c0, c1, c2, c3, c4, c5, c6, c7⟩ := ev_cells BE.out
          obtain ⟨a0, a1, a2, a3, a4, a5⟩ := ask_cells BR.out
          go_wp2_with fail
          refine (C2.out _).mono ?_
          rintro x w4 ⟨rfl, hb⟩
          have K := Lib.hid (below_after K.out hb)
          have BE := Lib.hid (blk_below BE.out hb)
          have BR := Lib.hid (blk_below BR.out hb)
          clear hb c0 c1 c2 c3 c4 c5 c6 c7 a0 a1 a2 a3 a4 a5
          cases b3 with
          | false =>
            obtain ⟨c0, c1, c2, c3, c4, c5, c6, c7⟩ := ev_cells BE.out
            obtain ⟨a0, a1, a2, a3, a4, a5⟩ := ask_cells BR.out
            go_wp2_with fail
            go_ret
            exact ⟨rfl, K.out⟩
          | true =>
            obtain ⟨c0, c1, c2, c3, c4, c5, c6, c7⟩ := ev_cells BE.out
            obtain ⟨a0, a1, a2, a3, a4, a5⟩ := ask_cells BR.out
            go_wp2_with fail
            refine (C3.out _).mono ?_
            rintro x w5 ⟨rfl, hb⟩
            have K := Lib.hid (below_after K.out hb)
            have BE := Lib.hid (blk_below BE.out hb)
            have BR := Lib.hid (blk_below BR.out hb)
            clear hb c0 c1 c2 c3 c4 c5 c6 c7 a0 a1 a2 a3 a4 a5
            cases b4 with
            | false =>
              obtain ⟨c0, c1, c2, c3, c4, c5, c6, c7⟩ := ev_cells BE.out
              obtain ⟨a0, a1, a2, a3, a4, a5⟩ := ask_cells BR.out
              go_wp2_with fail
              go_ret
              exact ⟨rfl, K.out⟩
            | true =>
              obtain ⟨c0, c1, c2, c3, c4, c5, c6, c7⟩ := ev_cells BE.out
              obtain ⟨a0, a1, a2, a3, a4, a5⟩ := ask_cells BR.out
              go_wp2_with fail
              refine (M1.out _).mono ?_
              rintro x w6 ⟨rfl, hb⟩
              have K := Lib.hid (below_after K.out hb)
              have BE := Lib.hid (blk_below BE.out hb)
              have BR := Lib.hid (blk_below BR.out hb)
              clear hb c0 c1 c2 c3 c4 c5 c6 c7 a0 a1 a2 a3 a4 a5
              cases b5 with
              | false =>
                obtain ⟨c0, c1, c2, c3, c4, c5, c6, c7⟩ := ev_cells BE.out
                obtain ⟨a0, a1, a2, a3, a4, a5⟩ := ask_cells BR.out
                go_wp2_with fail
                go_ret
                exact ⟨rfl, K.out⟩
              | true =>
                obtain ⟨c0, c1, c2, c3, c4, c5, c6, c7⟩ := ev_cells BE.out
                obtain ⟨a0, a1, a2, a3, a4, a5⟩ := ask_cells BR.out
                go_wp2_with fail
                refine (M2.out _).mono ?_
                rintro x w7 ⟨rfl, hb⟩
                have K := Lib.hid (below_after K.out hb)
                have BE := Lib.hid (blk_below BE.out hb)
                have BR := Lib.hid (blk_below BR.out hb)
                clear hb c0 c1 c2 c3 c4 c5 c6 c7 a0 a1 a2 a3 a4 a5
                cases b6 with
                | false =>
                  obtain ⟨c0, c1, c2, c3, c4, c5, c6, c7⟩ := ev_cells BE.out
                  obtain ⟨a0, a1, a2, a3, a4, a5⟩ := ask_cells BR.out
                  go_wp2_with fail
                  go_ret
                  exact ⟨rfl, K.out⟩
                | true =>
                  obtain ⟨c0, c1, c2, c3, c4, c5, c6, c7⟩ := ev_cells BE.out
                  obtain ⟨a0, a1, a2, a3, a4, a5⟩ := ask_cells BR.out
                  go_wp2_with fail
                  refine (M3.out _).mono ?_
                  rintro x w8 ⟨rfl, hb⟩
                  have K := Lib.hid (below_after K.out hb)
                  have BE := Lib.hid (blk_below BE.out hb)
                  have BR := Lib.hid (blk_below BR.out hb)
                  clear hb c0 c1 c2 c3 c4 c5 c6 c7 a0 a1 a2 a3 a4 a5
                  cases b7 with
                  | false =>
                    obtain ⟨c0, c1, c2, c3, c4, c5, c6, c7⟩ := ev_cells BE.out
                    obtain ⟨a0, a1, a2, a3, a4, a5⟩ := ask_cells BR.out
                    go_wp2_with fail
                    go_ret
                    exact ⟨rfl, K.out⟩
                  | true =>
                    obtain ⟨c0, c1, c2, c3, c4, c5, c6, c7⟩ := ev_cells BE.out
                    obtain ⟨a0, a1, a2, a3, a4, a5⟩ := ask_cells BR.out
                    go_wp2_with fail
                    go_ret
                    exact ⟨rfl, K.out⟩
end Go.Proofs.YtkhjnbjmbmacjaaDoor
