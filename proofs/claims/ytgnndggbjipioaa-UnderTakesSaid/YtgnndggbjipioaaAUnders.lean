/- weftlaw18.UnderNews, UnderPuts, UnderTakes, UnderChances, UnderLists, UnderAll: each answers true. Condition: the script can be read. -/
import Derived.Test.YtgnndggbjipioaaAHolds
namespace Go.Proofs.Ytgnndggbjipioaa
open Go.RowKit

theorem news_any (w : World) (lim : Int) : Calls Try.prog 4 #[.int .i64 lim] w fun e w' => e = .returned (.bool true) ∧ Old w w' := by
  have hb := both_any w lim
  unfold PostBoth at hb
  have h2 : Calls Try.prog 20 #[.int .i64 lim] w fun e w' => Old w w' ∧ ∃ a b, e = .returned (.tuple #[.pointer a, .pointer b, .bool true]) := by
    refine hb.mono ?_
    rintro e w' ⟨h1, h2⟩
    refine ⟨h1, ?_⟩
    split at h2
    · obtain ⟨gn, gm, _, rfl, _⟩ := h2
      exact ⟨_, _, rfl⟩
    · exact ⟨_, _, h2⟩
  clear hb
  go_enter Try.func4, Try.ntmps4
  go_wp2_with fail
  refine h2.mono ?_
  rintro e w1 ⟨k1, a, b, rfl⟩
  clear h2
  go_wp2_with fail
  refine (first_any w1).mono ?_
  rintro e w2 ⟨rfl, k2⟩
  go_wp2
  go_ret
  exact ⟨rfl, k1.trans' k2⟩

section
variable (w : World) (S : Nat → Prop) (lim : Int) (A : Option Addr) (c : Nat) (l : List OpD) (hO : Ops S w A l) (hS : ∀ k, S k → k < w.heap.size)
include hO hS
theorem puts_any : Calls Try.prog 5 #[.int .i64 lim, .slice A l.length c] w fun e w' => e = .returned (.bool true) ∧ Old w w' := by
  have hh := holds_any w S lim 1 1 A c l hO hS
  go_enter Try.func5, Try.ntmps5
  go_wp2_with fail
  refine hh.mono ?_
  rintro e w1 ⟨rfl, k1⟩
  go_wp2
  go_ret
  exact ⟨rfl, k1⟩
theorem takes_any : Calls Try.prog 6 #[.int .i64 lim, .slice A l.length c] w fun e w' => e = .returned (.bool true) ∧ Old w w' := by
  have hh := holds_any w S lim 2 2 A c l hO hS
  go_enter Try.func6, Try.ntmps6
  go_wp2_with fail
  refine hh.mono ?_
  rintro e w1 ⟨rfl, k1⟩
  go_wp2
  go_ret
  exact ⟨rfl, k1⟩
theorem chances_any : Calls Try.prog 7 #[.int .i64 lim, .slice A l.length c] w fun e w' => e = .returned (.bool true) ∧ Old w w' := by
  have hh := holds_any w S lim 3 5 A c l hO hS
  go_enter Try.func7, Try.ntmps7
  go_wp2_with fail
  refine hh.mono ?_
  rintro e w1 ⟨rfl, k1⟩
  go_wp2
  go_ret
  exact ⟨rfl, k1⟩
theorem lists_any : Calls Try.prog 8 #[.int .i64 lim, .slice A l.length c] w fun e w' => e = .returned (.bool true) ∧ Old w w' := by
  have hh := holds_any w S lim 6 6 A c l hO hS
  go_enter Try.func8, Try.ntmps8
  go_wp2_with fail
  refine hh.mono ?_
  rintro e w1 ⟨rfl, k1⟩
  go_wp2
  go_ret
  exact ⟨rfl, k1⟩
theorem all_any : Calls Try.prog 9 #[.int .i64 lim, .slice A l.length c] w fun e w' => e = .returned (.bool true) ∧ Old w w' := by
  have hh := holds_any w S lim 1 6 A c l hO hS
  go_enter Try.func9, Try.ntmps9
  go_wp2_with fail
  refine hh.mono ?_
  rintro e w1 ⟨rfl, k1⟩
  go_wp2
  go_ret
  exact ⟨rfl, k1⟩
end
end Go.Proofs.Ytgnndggbjipioaa
