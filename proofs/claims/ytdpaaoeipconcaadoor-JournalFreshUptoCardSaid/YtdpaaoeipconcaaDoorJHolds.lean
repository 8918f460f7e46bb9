/- weftlaw12.holds; JournalWrites, Numbers, Crashes, Reopens, All: a script played on a journal and on the document's answers alike at every step. Conditions: the disk and the script can be read, the table lies. -/
import Derived.Test.YtdpaaoeipconcaaDoorJPlays
import Derived.Test.YtdpaaoeipconcaaDoorJArgs
namespace Go.Proofs.YtdpaaoeipconcaaDoor
open Go.RowKit

set_option maxHeartbeats 2000000 in
theorem holds_any (w : World) (S : Nat → Prop) (lo hi : Int) (A B : Option Addr) (n m c d : Nat) (xs ys : List UInt8) (ha : Bts S w A xs) (hb : Bts S w B ys) (hn : n = xs.length) (hm : m = ys.length) (hc : n ≤ c) (hd : m ≤ d)
    (C : Option Addr) (cc : Nat) (l : List OpJ) (hO : Ops S w C l) (hS : ∀ k, S k → k < w.heap.size) (hT : Tab w) :
    Calls Tryd.prog 34 #[.agg #[.slice A n c, .slice B m d], .slice C l.length cc, .int .i64 lo, .int .i64 hi] w fun e w' => e = .returned (.bool true) ∧ Old w w' := by
  obtain ⟨W0, hW0⟩ : ∃ W, W = w.alloc (.cells #[.slice A n c, .slice B m d] 24) := ⟨_, rfl⟩
  have k0 : Old w W0 := by rw [hW0]; exact (Keeps.refl _ _).alloc _
  have hb0 : W0.heap[w.heap.size]? = some (.cells #[.slice A n c, .slice B m d] 24 (0, 0)) := by rw [hW0]; exact heap_alloc_new _ _
  have hfi := first_any W0 (hT.keep (k0.old (fun _ => True)) trivial)
  have HN := hid hn
  have HM := hid hm
  have hl0 := hO.1
  have hpos := hT.pos
  clear hn hm
  go_enter Tryd.func34, Tryd.ntmps34
  go_upto_region 1 with fail
  rw [← hW0]
  clear hW0
  go_wp2_with fail
  refine hfi.mono ?_
  rintro e w1 ⟨rfl, k1⟩
  clear hfi
  obtain ⟨W1, hW1⟩ : ∃ W, W = w1.alloc (.cells #[.pointer none, .pointer none] 29) := ⟨_, rfl⟩
  have k2 : Old w1 W1 := by rw [hW1]; exact (Keeps.refl _ _).alloc _
  have hp1 : W1.heap[w1.heap.size]? = some (.cells #[.pointer none, .pointer none] 29 (0, 0)) := by rw [hW1]; exact heap_alloc_new _ _
  have K1 := (k0.trans' k1).trans' k2
  have hb1 := (k1.trans' k2).heap hb0 trivial
  have b0 : W1.cell? ⟨w.heap.size, 0, none⟩ = some (.slice A n c) := cell_of_heap hb1
  have b1 : W1.cell? ⟨w.heap.size, 1, none⟩ = some (.slice B m d) := cell_of_heap hb1
  have hpo := popen_any W1 S w1.heap.size _ _ A B n m c d xs ys hp1 (ha.keep (K1.old _)) (hb.keep (K1.old _)) HN.out HM.out hc hd (hT.keep (K1.old (fun _ => True)) trivial)
  go_upto_region 4 with fail
  rw [← hW1]
  clear hW1
  go_wp2_with fail
  refine hpo.mono ?_
  rintro e w4 ⟨rfl, H, hP, hH, k4⟩
  clear hpo b0 b1
  have z0 := (k0.trans' k1).size
  have z1 := k2.size
  have K4 : Old w w4 := K1.trans k4 fun k hk _ => by show k ≠ w1.heap.size; omega
  have hws : wsN ((openJ (xs, ys)).map (·.1)) ≤ 1 := by
    cases ho : openJ (xs, ys) with
    | none => exact Nat.zero_le _
    | some jr => exact (open_down (j := jr.1) (recs := jr.2) ho).2
  generalize (openJ (xs, ys)).map (·.1) = o0 at *
  go_wp2
  go_loopw [10, 11, 12] (fun v _ _ wr => ∃ (k : Nat) (H' : Nat → Prop) (o' : Option Jn), v = .int .i64 k ∧ k ≤ l.length ∧ Hid (PairAt H' wr w1.heap.size o') ∧ Hid (Old w wr) ∧ Hid (∀ k, H' k → w.heap.size ≤ k) ∧ wsN o' ≤ k + 1) (fun v _ _ _ => l.length - (intOf v).toNat)
  case atStart => exact ⟨0, H, o0, rfl, by omega, hid hP, hid K4, hid fun k hk => by
    rcases hH k hk with h | h
    · rw [h]; exact z0
    · omega, hws⟩
  case round =>
    clear hP K4 hH k4
    obtain ⟨k, H', o', rfl, hk, hPr, hold, hHr, hwr⟩ := hrel
    replace hold := hold.out
    by_cases hlt : k < l.length
    · obtain ⟨b, o, rfl, hSb, A1, c1, B1, d1, h0, h1, h2, h3, h4, h5, h6, h7, h8, h9, h10⟩ := (hO.keep (hold.old _)).at_ (j := k) hlt
      generalize l[k] = x at *
      have i1 : (0 : Int) ≤ (k : Int) := by omega
      have i2 : (k : Int) < (l.length : Int) := by omega
      obtain ⟨wa, hA⟩ : ∃ wa, wa = wr.alloc (.cells #[.int .i64 x.kind, .slice A1 x.one.length c1, .slice B1 x.many.length d1, .int .i64 x.n] 54) := ⟨_, rfl⟩
      have ka : Old wr wa := by rw [hA]; exact (Keeps.refl _ _).alloc _
      have hba : wa.heap[wr.heap.size]? = some (.cells #[.int .i64 x.kind, .slice A1 x.one.length c1, .slice B1 x.many.length d1, .int .i64 x.n] 54 (0, 0)) := by rw [hA]; exact heap_alloc_new _ _
      have hza := ka.size
      have hzo := hold.size
      have hpl := plays_any wa H' S w1.heap.size o' x.kind x.n A1 B1 c1 d1 x.one x.many (hPr.out.keep (ka.old _)) (h7.keep (ka.old _)) (h8.keep (ka.old _)) h6 (fun j hj => by have := hS j hj; exact ⟨by omega, fun h => by have := hHr.out j h; omega⟩) h9 h10
        (hT.keep ((hold.trans' ka).old (fun _ => True)) trivial) (fun h => by have := hHr.out 0 h; omega) (by omega)
      have y0 : wa.cell? ⟨wr.heap.size, 0, none⟩ = some (.int .i64 x.kind) := cell_of_heap hba
      have y1 : wa.cell? ⟨wr.heap.size, 1, none⟩ = some (.slice A1 x.one.length c1) := cell_of_heap hba
      have y2 : wa.cell? ⟨wr.heap.size, 2, none⟩ = some (.slice B1 x.many.length d1) := cell_of_heap hba
      have y3 : wa.cell? ⟨wr.heap.size, 3, none⟩ = some (.int .i64 x.n) := cell_of_heap hba
      clear h4 h5
      go_upto_region 10 with fail
      rw [← hA]
      clear hA
      go_wp2_with fail
      refine hpl.mono ?_
      rintro e w3 ⟨rfl, H3, o3, hP3, hH3, k3, hw3⟩
      clear hpl
      go_wp2
      refine ⟨⟨k + 1, H3, o3, by go_num, by omega, hid hP3, hid ((hold.trans' ka).trans k3 fun j hj _ h => by have := hHr.out j h; omega), hid fun j h => ?_, by omega⟩, by simp [intOf]; omega⟩
      rcases hH3 j h with h | h
      · exact hHr.out j h
      · omega
    · go_wp2
      go_ret
      exact ⟨rfl, hold⟩

section
variable (w : World) (S : Nat → Prop) (A B : Option Addr) (n m c d : Nat) (xs ys : List UInt8) (ha : Bts S w A xs) (hb : Bts S w B ys) (hn : n = xs.length) (hm : m = ys.length) (hc : n ≤ c) (hd : m ≤ d)
    (C : Option Addr) (cc : Nat) (l : List OpJ) (hO : Ops S w C l) (hS : ∀ k, S k → k < w.heap.size) (hT : Tab w)
include ha hb hn hm hc hd hO hS hT
theorem writes_any : Calls Tryd.prog 5 #[.agg #[.slice A n c, .slice B m d], .slice C l.length cc] w fun e w' => e = .returned (.bool true) ∧ Old w w' := by
  have k0 : Old w (w.alloc (.cells #[.slice A n c, .slice B m d] 24)) := (Keeps.refl _ _).alloc _
  have hh := holds_any _ S 1 2 A B n m c d xs ys (ha.keep (k0.old _)) (hb.keep (k0.old _)) hn hm hc hd C cc l (hO.keep (k0.old _)) (fun k hk => by have := hS k hk; have := k0.size; omega) (hT.keep (k0.old (fun _ => True)) trivial)
  clear hn hm
  go_enter Tryd.func5, Tryd.ntmps5
  go_wp2_with fail
  refine hh.mono ?_
  rintro e w1 ⟨rfl, k1⟩
  clear hh
  go_wp2
  go_ret
  exact ⟨rfl, k0.trans' k1⟩
theorem numberRow_any : Calls Tryd.prog 6 #[.agg #[.slice A n c, .slice B m d], .slice C l.length cc] w fun e w' => e = .returned (.bool true) ∧ Old w w' := by
  have k0 : Old w (w.alloc (.cells #[.slice A n c, .slice B m d] 24)) := (Keeps.refl _ _).alloc _
  have hh := holds_any _ S 4 5 A B n m c d xs ys (ha.keep (k0.old _)) (hb.keep (k0.old _)) hn hm hc hd C cc l (hO.keep (k0.old _)) (fun k hk => by have := hS k hk; have := k0.size; omega) (hT.keep (k0.old (fun _ => True)) trivial)
  clear hn hm
  go_enter Tryd.func6, Tryd.ntmps6
  go_wp2_with fail
  refine hh.mono ?_
  rintro e w1 ⟨rfl, k1⟩
  clear hh
  go_wp2
  go_ret
  exact ⟨rfl, k0.trans' k1⟩
theorem crashes_any : Calls Tryd.prog 7 #[.agg #[.slice A n c, .slice B m d], .slice C l.length cc] w fun e w' => e = .returned (.bool true) ∧ Old w w' := by
  have k0 : Old w (w.alloc (.cells #[.slice A n c, .slice B m d] 24)) := (Keeps.refl _ _).alloc _
  have hh := holds_any _ S 6 6 A B n m c d xs ys (ha.keep (k0.old _)) (hb.keep (k0.old _)) hn hm hc hd C cc l (hO.keep (k0.old _)) (fun k hk => by have := hS k hk; have := k0.size; omega) (hT.keep (k0.old (fun _ => True)) trivial)
  clear hn hm
  go_enter Tryd.func7, Tryd.ntmps7
  go_wp2_with fail
  refine hh.mono ?_
  rintro e w1 ⟨rfl, k1⟩
  clear hh
  go_wp2
  go_ret
  exact ⟨rfl, k0.trans' k1⟩
theorem reopens_any : Calls Tryd.prog 8 #[.agg #[.slice A n c, .slice B m d], .slice C l.length cc] w fun e w' => e = .returned (.bool true) ∧ Old w w' := by
  have k0 : Old w (w.alloc (.cells #[.slice A n c, .slice B m d] 24)) := (Keeps.refl _ _).alloc _
  have hh := holds_any _ S 7 7 A B n m c d xs ys (ha.keep (k0.old _)) (hb.keep (k0.old _)) hn hm hc hd C cc l (hO.keep (k0.old _)) (fun k hk => by have := hS k hk; have := k0.size; omega) (hT.keep (k0.old (fun _ => True)) trivial)
  clear hn hm
  go_enter Tryd.func8, Tryd.ntmps8
  go_wp2_with fail
  refine hh.mono ?_
  rintro e w1 ⟨rfl, k1⟩
  clear hh
  go_wp2
  go_ret
  exact ⟨rfl, k0.trans' k1⟩
theorem all_any : Calls Tryd.prog 9 #[.agg #[.slice A n c, .slice B m d], .slice C l.length cc] w fun e w' => e = .returned (.bool true) ∧ Old w w' := by
  have k0 : Old w (w.alloc (.cells #[.slice A n c, .slice B m d] 24)) := (Keeps.refl _ _).alloc _
  have hh := holds_any _ S 1 7 A B n m c d xs ys (ha.keep (k0.old _)) (hb.keep (k0.old _)) hn hm hc hd C cc l (hO.keep (k0.old _)) (fun k hk => by have := hS k hk; have := k0.size; omega) (hT.keep (k0.old (fun _ => True)) trivial)
  clear hn hm
  go_enter Tryd.func9, Tryd.ntmps9
  go_wp2_with fail
  refine hh.mono ?_
  rintro e w1 ⟨rfl, k1⟩
  clear hh
  go_wp2
  go_ret
  exact ⟨rfl, k0.trans' k1⟩
end
end Go.Proofs.YtdpaaoeipconcaaDoor
