/- weftlaw18.placed: a script whose packets are handed in always in the same places. Conditions: the script can be read and is of small bulk. -/
import Derived.Test.YtgnndggbjipioaaAPl
namespace Go.Proofs.Ytgnndggbjipioaa
open Go.RowKit

/-- A script of small bulk. -/
def SmallOps (l : List OpD) : Prop := l.length ≤ 1048576 ∧ ∀ x ∈ l, x.sents.length ≤ 1048576 ∧ ∀ p ∈ x.sents, p.2.length ≤ 1048576

/-- .. and an op's block beside -/
def PlX (w : World) (gn gm lm : Nat) (AO : Option Addr) (N : Nat) (go : Nat) (oc : Array Value) (ps : List Pk) (j : Nat) (vI : Value) (wr : World) : Prop :=
  ∃ H inn, PlJ w gn gm lm H 1048576 AO N ps j vI inn wr ∧ wr.heap[go]? = some (.cells oc 36 (0, 0)) ∧ ¬ H go ∧ j ≤ inn.length
/-- .. the j-th inner list has come to be -/
def PlX1 (w : World) (gn gm lm : Nat) (AO : Option Addr) (N : Nat) (go : Nat) (oc : Array Value) (ps : List Pk) (j : Nat) (vI : Value) (wr : World) : Prop :=
  ∃ H inn, PlJ w gn gm lm H 1048576 AO N ps j vI inn wr ∧ wr.heap[go]? = some (.cells oc 36 (0, 0)) ∧ ¬ H go ∧ j < inn.length
/-- .. it has room -/
def PlX2 (w : World) (gn gm lm : Nat) (AO : Option Addr) (N : Nat) (go : Nat) (oc : Array Value) (ps : List Pk) (j m : Nat) (vI : Value) (wr : World) : Prop :=
  ∃ H inn g n c, PlJ w gn gm lm H 1048576 AO N ps j vI inn wr ∧ wr.heap[go]? = some (.cells oc 36 (0, 0)) ∧ ¬ H go ∧ inn[j]? = some (.slice (some ⟨g, 0, none⟩) n c) ∧ m ≤ n ∧ 0 < n ∧ n ≤ 281474976710656

set_option maxRecDepth 10000 in
set_option maxHeartbeats 16000000 in
theorem placed_any (w : World) (S : Nat → Prop) (lim : Int) (C : Option Addr) (cc : Nat) (l : List OpD) (hO : Ops S w C l) (hS : ∀ k, S k → k < w.heap.size) (hsl : SmallOps l) :
    Calls Try.prog 42 #[.int .i64 lim, .slice C l.length cc] w fun e w' => e = .returned (.bool true) ∧ Old w w' := by
  obtain ⟨i5, hi5, hz0, hz1, hz2⟩ := info_parts info5
  have hmkN : ∀ (N : Nat) (W : World), N ≤ 2000000000000 → (Instr.makeSlice 46 (.int .i64 (N : Int)) (.int .i64 (N : Int))).run Try.prog W = .ok (.slice (some ⟨W.heap.size, 0, none⟩) N N) (W.alloc (.cells (madeCells #[.int .u8 0] N) 5)) := fun N W hN => by
    have hmk := run_make (P := Try.prog) W 46 5 i5 (.int .u8 0) Try.underlying46 hi5 hz0 .i64 .i64 (N : Int) (N : Int) (by omega) (by omega) (by rw [hz2]; omega) (by omega)
    simp only [hz1, Nat.mul_one, Int.toNat_natCast, show (Value.int .u8 0).cells = #[.int .u8 0] from rfl] at hmk
    exact hmk
  obtain ⟨i48, hi48, hy0, hy1, hy2⟩ := info_parts info48
  have hmkO : ∀ (N : Nat) (W : World), N ≤ 2000000000000 → (Instr.makeSlice 34 (.int .i64 (N : Int)) (.int .i64 (N : Int))).run Try.prog W = .ok (.slice (some ⟨W.heap.size, 0, none⟩) N N) (W.alloc (.cells (madeCells #[.int .u32 0, .slice none 0 0] (N * 2)) 48)) := fun N W hN => by
    have hmk := run_make (P := Try.prog) W 34 48 i48 _ Try.underlying34 hi48 hy0 .i64 .i64 (N : Int) (N : Int) (by omega) (by omega) (by rw [hy2]; omega) (by omega)
    simp only [hy1, Int.toNat_natCast] at hmk
    exact hmk
  have HMN := hid hmkN
  have HMO := hid hmkO
  clear hmkN hmkO hz0 hz1 hz2 hi5 hy0 hy1 hy2 hi48
  have hb := both_any w lim
  have hl0 := hO.1
  unfold PostBoth at hb
  by_cases hlm : 1 ≤ lim ∧ lim ≤ 4096
  case neg =>
    simp only [if_neg hlm] at hb
    go_enter Try.func42, Try.ntmps42
    go_wp2_with fail
    refine hb.mono ?_
    rintro e w1 ⟨k1, rfl⟩
    clear hb
    go_wp2
    go_ret
    exact ⟨rfl, k1⟩
  simp only [if_pos hlm] at hb
  go_enter Try.func42, Try.ntmps42
  go_wp2_with fail
  refine hb.mono ?_
  rintro e w4 ⟨k4, gn, gm, H, rfl, hT, hH⟩
  clear hb
  generalize lim.toNat = lm at *
  have HS := hid (show ∃ H inn, PlJ w gn gm lm H 1048576 none 0 [] 0 (.slice none 0 0) inn w4 from ⟨H, [], hT, hH, k4, InnM.nil _, by simp, .inl ⟨rfl, rfl⟩, fun k hk => by
    rcases hk with hk | ⟨x, hx, _⟩
    · simp [Value.ownBlock] at hk
    · simp at hx⟩)
  clear hT hH k4 hlm
  go_wp2
  go_loopw [8, 9, 10, 11, 12, 13, 14] (fun vO vI v _ _ _ _ wr => ∃ (k N : Nat) (AO : Option Addr), v = .int .i64 k ∧ k ≤ l.length ∧ vO = .slice AO N N ∧ Hid (∃ H inn, PlJ w gn gm lm H 1048576 AO N [] 0 vI inn wr)) (fun _ _ v _ _ _ _ _ => l.length - (intOf v).toNat)
  case atStart => exact ⟨0, 0, none, rfl, Nat.zero_le _, rfl, HS⟩
  case round =>
    clear HS
    obtain ⟨k, N, AO, rfl, hk, rfl, hin⟩ := hrel
    have i0 : (0 : Int) ≤ (k : Int) := by omega
    by_cases hlt : k < l.length
    · have i1 : (k : Int) < (l.length : Int) := by omega
      obtain ⟨H, inn, hJ⟩ := hin.out
      clear hin
      have hold := hJ.old
      have hsm := hsl.2 l[k] (List.getElem_mem hlt)
      obtain ⟨b, off, A1, c1, rfl, hSb, h0, h1, h2, h3, h4, h5, h6⟩ := hO.at_ (j := k) hlt
      generalize l[k] = x at *
      obtain ⟨kd, hkd⟩ : ∃ kd, kd = x.kind := ⟨_, rfl⟩
      rw [← hkd] at h0
      have HKD := hid hkd
      clear hkd
      replace h0 := ((hold.old S).cell (lt_of_cell h0) hSb).trans h0
      replace h1 := ((hold.old S).cell (lt_of_cell h1) hSb).trans h1
      replace h2 := ((hold.old S).cell (lt_of_cell h2) hSb).trans h2
      replace h3 := ((hold.old S).cell (lt_of_cell h3) hSb).trans h3
      replace h4 := ((hold.old S).cell (lt_of_cell h4) hSb).trans h4
      obtain ⟨go, hgo⟩ : ∃ g, g = wr.heap.size := ⟨_, rfl⟩
      obtain ⟨wa, hA⟩ : ∃ wa, wa = wr.alloc (.cells #[.int .i64 kd, .slice A1 x.sents.length c1, .int .i64 x.i, .int .i64 x.at_, .int .u8 x.mask.toNat] 36) := ⟨_, rfl⟩
      have ka : Old wr wa := by rw [hA]; exact (Keeps.refl _ _).alloc _
      have hba : wa.heap[go]? = some (.cells #[.int .i64 kd, .slice A1 x.sents.length c1, .int .i64 x.i, .int .i64 x.at_, .int .u8 x.mask.toNat] 36 (0, 0)) := by rw [hA, hgo]; exact heap_alloc_new _ _
      have hgH : ¬ H go := fun e => by have := hJ.t.lt go e; omega
      have HJ := hid (hJ.more ka)
      have HP := hid h6
      have y1 : wa.cell? ⟨go, 1, none⟩ = some (.slice A1 x.sents.length c1) := cell_of_heap hba
      have hgw : w.heap.size ≤ go := by rw [hgo]; exact hold.size
      clear hJ hold h6
      go_upto_region 10 with fail
      rw [← hA, ← hgo]
      clear hA hgo h0 h1 h2 h3 h4 ka
      obtain ⟨hs1, hs2⟩ := hsm
      go_upto_if 47 with fail
      go_cut [8] (fun vO wx => ∃ (N2 : Nat) (AO2 : Option Addr), vO = .slice AO2 N2 N2 ∧ x.sents.length ≤ N2 ∧ Hid (PlX w gn gm lm AO2 N2 go #[.int .i64 kd, .slice A1 x.sents.length c1, .int .i64 x.i, .int .i64 x.at_, .int .u8 x.mask.toNat] x.sents 0 u9 wx))
      case first =>
        by_cases hN : N < x.sents.length
        · have j1 : (N : Int) < (x.sents.length : Int) := by omega
          obtain ⟨N2, hN2⟩ : ∃ N2, N2 = 2 * x.sents.length + 64 := ⟨_, rfl⟩
          have b1 : IntKind.i64.wrap (2 * (x.sents.length : Int)) = 2 * (x.sents.length : Int) := by rw [IntKind.wrap_i64]; omega
          have b2 : IntKind.i64.wrap (2 * (x.sents.length : Int) + 64) = (N2 : Int) := by rw [IntKind.wrap_i64]; omega
          have hmk := HMO.out N2 wa (by omega)
          obtain ⟨W1, hW1⟩ : ∃ W, W = wa.alloc (.cells (madeCells #[.int .u32 0, .slice none 0 0] (N2 * 2)) 48) := ⟨_, rfl⟩
          have k1 : Old wa W1 := by rw [hW1]; exact (Keeps.refl _ _).alloc _
          have hg1 : W1.heap[wa.heap.size]? = some (.cells (madeCells #[.int .u32 0, .slice none 0 0] (N2 * 2)) 48 (0, 0)) := by rw [hW1]; exact heap_alloc_new _ _
          rw [← hW1] at hmk
          have HR := hid (show PlX w gn gm lm (some ⟨wa.heap.size, 0, none⟩) N2 go #[.int .i64 kd, .slice A1 x.sents.length c1, .int .i64 x.i, .int .i64 x.at_, .int .u8 x.mask.toNat] x.sents 0 u9 W1 from ⟨H, inn, HJ.out.begin.newO k1 hg1 (size_madeCells _ _) (Nat.le_refl _), k1.heap hba trivial, hgH, Nat.zero_le _⟩)
          have hnn : x.sents.length ≤ N2 := by omega
          clear hN2 hg1 hW1 k1
          go_wp2
          go_meet
          exact ⟨N2, _, rfl, hnn, HR⟩
        · have j1 : ¬ (N : Int) < (x.sents.length : Int) := by omega
          have HR := hid (show PlX w gn gm lm AO N go #[.int .i64 kd, .slice A1 x.sents.length c1, .int .i64 x.i, .int .i64 x.at_, .int .u8 x.mask.toNat] x.sents 0 u9 wa from ⟨H, inn, HJ.out.begin, hba, hgH, Nat.zero_le _⟩)
          go_wp2
          go_meet
          exact ⟨N, _, rfl, by omega, HR⟩
      case rest =>
      obtain ⟨N2, AO2, rfl, hnN, HS⟩ := hcut
      clear HJ hgH hba y1
      obtain ⟨oc, hoc⟩ : ∃ oc : Array Value, oc = #[.int .i64 kd, .slice A1 x.sents.length c1, .int .i64 x.i, .int .i64 x.at_, .int .u8 x.mask.toNat] := ⟨_, rfl⟩
      rw [← hoc] at HS
      have HOC := hid hoc
      clear hoc
      go_upto_block 2 with fail
      go_cut [9] (fun vI wx => Hid (PlX w gn gm lm AO2 N2 go oc x.sents x.sents.length vI wx))
      case first =>
        go_wp2
        go_loopw [9, 12, 13, 14] (fun vI v _ _ wr => ∃ j : Nat, v = .int .i64 j ∧ j ≤ x.sents.length ∧ Hid (PlX w gn gm lm AO2 N2 go oc x.sents j vI wr)) (fun _ v _ _ _ => x.sents.length - (intOf v).toNat)
        case atStart => exact ⟨0, rfl, Nat.zero_le _, HS⟩
        case round =>
          clear HS
          obtain ⟨j, rfl, hj, hin⟩ := hrel
          obtain ⟨H2, inn2, hJ, hgo, hgH, hji⟩ := hin.out
          have i2 : (0 : Int) ≤ (j : Int) := by omega
          have hgo2 := hgo
          rw [HOC.out] at hgo2
          have y1 : wr.cell? ⟨go, 1, none⟩ = some (.slice A1 x.sents.length c1) := cell_of_heap hgo2
          clear hgo2
          by_cases hlt2 : j < x.sents.length
          · have i3 : (j : Int) < (x.sents.length : Int) := by omega
            have hold := hJ.old
            obtain ⟨b2, o2, A2, c2, rfl, hSb2, g0, g1, g2, g3⟩ := HP.out.at_ hlt2
            have HG0 := hid g0
            replace g0 := ((hold.old S).cell (lt_of_cell g0) hSb2).trans g0
            replace g1 := ((hold.old S).cell (lt_of_cell g1) hSb2).trans g1
            have hbl := hs2 _ (List.getElem_mem hlt2)
            obtain ⟨AI, cI, hvI, _, _⟩ := own_slice hJ.m.i
            subst hvI
            have HB := hid g3
            have HJ := hid (And.intro hJ (And.intro hgo hgH))
            have hil := hJ.il
            clear hJ hgo hgH g3 hin
            obtain ⟨p, hp⟩ : ∃ p, p = x.sents[j] := ⟨_, rfl⟩
            rw [← hp] at g0 g1 g2 hbl HB HG0
            have HPE := hid hp
            clear hp
            obtain ⟨t, bs⟩ := p
            simp only at g0 g1 g2 hbl HB HG0
            go_upto_if 70 with fail
            go_cut [9] (fun vI wx => Hid (PlX1 w gn gm lm AO2 N2 go oc x.sents j vI wx))
            case first =>
              by_cases hle : inn2.length ≤ j
              · have j1 : (inn2.length : Int) ≤ (j : Int) := by omega
                have hmk : (Instr.makeSlice 46 (.int .i64 64) (.int .i64 64)).run Try.prog wr = .ok (.slice (some ⟨wr.heap.size, 0, none⟩) 64 64) (wr.alloc (.cells (madeCells #[.int .u8 0] 64) 5)) := HMN.out 64 wr (by omega)
                obtain ⟨W1, hW1⟩ : ∃ W, W = wr.alloc (.cells (madeCells #[.int .u8 0] 64) 5) := ⟨_, rfl⟩
                have k1 : Old wr W1 := by rw [hW1]; exact (Keeps.refl _ _).alloc _
                have hv1 : OwnB (fun k => wr.heap.size ≤ k) W1 (.slice (some ⟨wr.heap.size, 0, none⟩) 64 64) (zerosP 64) := by rw [hW1]; exact made_own (by omega)
                rw [← hW1] at hmk
                obtain ⟨W2, hW2⟩ : ∃ W, W = W1.alloc (.cells #[.slice (some ⟨wr.heap.size, 0, none⟩) 64 64] 46) := ⟨_, rfl⟩
                have k2 : Old W1 W2 := by rw [hW2]; exact (Keeps.refl _ _).alloc _
                have hb2 : W2.heap[W1.heap.size]? = some (.cells #[.slice (some ⟨wr.heap.size, 0, none⟩) 64 64] 46 (0, 0)) := by rw [hW2]; exact heap_alloc_new _ _
                have hrow2 := own_keeps HJ.out.1.m.i (k1.trans' k2) (fun _ _ => trivial)
                clear hW1
                go_upto_region 17 with (at_builtin; rw [← hW2]; refine wpList_append_ex _ (by rfl) _ _ 60 46 (by rfl) Try.underlying60 info46 (by rfl) (by omega) (by rfl) hrow2 (some ⟨W1.heap.size, 0, none⟩) 1 1 [.slice (some ⟨wr.heap.size, 0, none⟩) 64 64] (by rfl) (by rfl) (fun _ => ⟨_, rfl, World.news_of_block hb2⟩) (one_one rfl) (by omega) (by unfold maxLen; omega) ?_; intro v8 w8 hown8 hgrow8 hat8)
                go_wp2_with (at_builtin; rw [← hW2]; refine wpList_append_ex _ (by rfl) _ _ 60 46 (by rfl) Try.underlying60 info46 (by rfl) (by omega) (by rfl) hrow2 (some ⟨W1.heap.size, 0, none⟩) 1 1 [.slice (some ⟨wr.heap.size, 0, none⟩) 64 64] (by rfl) (by rfl) (fun _ => ⟨_, rfl, World.news_of_block hb2⟩) (one_one rfl) (by omega) (by unfold maxLen; omega) ?_; intro v8 w8 hown8 hgrow8 hat8)
                obtain ⟨A8, c8, hv8, _, _⟩ := own_slice hown8
                subst hv8
                have HR := hid (show PlX1 w gn gm lm AO2 N2 go oc x.sents j (.slice A8 (inn2.length + 1) c8) w8 from by
                  obtain ⟨hJ, hgo, hgH⟩ := HJ.out
                  obtain ⟨p1, p2⟩ := hJ.push (by omega) (by omega) (by decide) (hv1.keep (k2.old _)) hgrow8 hown8 hat8 (K1 := k1.trans' k2)
                  have hgo' := hgo
                  exact ⟨H2, _, p1, p2.heap hgo (own_ne_heap hJ.m.i hgo (by decide)), hgH, by rw [List.length_append]; show j < inn2.length + 1; omega⟩)
                clear hown8 hgrow8 hat8 hrow2 hb2 hv1 k1 k2 hmk
                go_wp2
                go_meet
                exact HR
              · have j1 : ¬ (inn2.length : Int) ≤ (j : Int) := by omega
                have HR := hid (show PlX1 w gn gm lm AO2 N2 go oc x.sents j (.slice AI inn2.length cI) wr from ⟨H2, inn2, HJ.out.1, HJ.out.2.1, HJ.out.2.2, by omega⟩)
                go_wp2
                go_meet
                exact HR
            case rest =>
            have hin := hcut
            clear hcut HJ hil
            obtain ⟨H3, inn3, hJ, hgo, hgH, hji3⟩ := hin.out
            clear hin
            obtain ⟨gI, cI3, hvI, _, _, hcells⟩ := own_cells hJ.m.i (by omega)
            subst hvI
            have ci : wc.cell? ⟨gI, j, none⟩ = some inn3[j] := by rw [hcells j (by omega)]; exact List.getElem?_eq_getElem hji3
            obtain ⟨ys, hyn, hy⟩ := hJ.m.each inn3[j] (List.getElem_mem hji3)
            obtain ⟨Ai, cci, hvi, hcc1, hcc2⟩ := hy.slice
            rw [hvi] at ci
            clear hcells
            have i4 : (j : Int) < (inn3.length : Int) := by omega
            have hil3 := hJ.il
            have HJ := hid (And.intro hJ (And.intro hgo (And.intro hgH (And.intro hyn (And.intro hy (And.intro hvi hji3))))))
            have hyl := hy.len
            clear hJ hgo hgH hyn hy hvi
            go_upto_if 82 with fail
            go_cut [] (fun wx => Hid (PlX2 w gn gm lm AO2 N2 go oc x.sents j bs.length (.slice (some ⟨gI, 0, none⟩) inn3.length cI3) wx))
            case first =>
              by_cases hsm : ys.length < bs.length
              · have j2 : (ys.length : Int) < (bs.length : Int) := by omega
                obtain ⟨n5, hn5⟩ : ∃ n5, n5 = 2 * bs.length := ⟨_, rfl⟩
                have b1 : IntKind.i64.wrap (2 * (bs.length : Int)) = (n5 : Int) := by rw [IntKind.wrap_i64]; omega
                have hn5m : n5 ≤ 2000000000000 := by omega
                have hmk := HMN.out n5 wc hn5m
                obtain ⟨W1, hW1⟩ : ∃ W, W = wc.alloc (.cells (madeCells #[.int .u8 0] n5) 5) := ⟨_, rfl⟩
                have k1 : Old wc W1 := by rw [hW1]; exact (Keeps.refl _ _).alloc _
                have hv1 : OwnB (fun k => wc.heap.size ≤ k) W1 (.slice (some ⟨wc.heap.size, 0, none⟩) n5 n5) (zerosP n5) := by rw [hW1]; exact made_own (by omega)
                rw [← hW1] at hmk
                have ci4 : W1.cell? ⟨gI, j, none⟩ = some (.slice Ai ys.length cci) := (k1.cell (lt_of_cell ci) trivial).trans ci
                have fi4 : W1.frozen? ⟨gI, j, none⟩ = false := (Row1.ofOwn (own_keeps HJ.out.1.m.i k1 (fun _ _ => trivial))).frozen j
                have HR := hid (show PlX2 w gn gm lm AO2 N2 go oc x.sents j bs.length (.slice (some ⟨gI, 0, none⟩) inn3.length cI3) (W1.setCell ⟨gI, j, none⟩ (.slice (some ⟨wc.heap.size, 0, none⟩) n5 n5)) from by
                  obtain ⟨hJ, hgo, hgH, hyn, hy, hvi, hji3⟩ := HJ.out
                  obtain ⟨p1, p2⟩ := hJ.setI hji3 rfl k1 (by simp; omega) hv1
                  exact ⟨H3, _, wc.heap.size, n5, n5, p1, p2.heap hgo (fun e => own_ne_heap hJ.m.i hgo (by decide) (by rw [e]; rfl)), hgH, by rw [List.getElem?_set_self hji3], by omega, by omega, by omega⟩)
                clear hv1 hn5
                clear hW1
                go_wp2
                go_meet
                exact HR
              · have j2 : ¬ (ys.length : Int) < (bs.length : Int) := by omega
                have HR := hid (show PlX2 w gn gm lm AO2 N2 go oc x.sents j bs.length (.slice (some ⟨gI, 0, none⟩) inn3.length cI3) wc from by
                  obtain ⟨hJ, hgo, hgH, hyn, hy, hvi, hji3⟩ := HJ.out
                  have hy0 : 0 < ys.length := List.length_pos_iff.2 hyn
                  have hAi : ∃ g, Ai = some ⟨g, 0, none⟩ := by
                    rw [hvi] at hy
                    obtain ⟨g, c', hv', _⟩ := own_cells hy.row hy0
                    injection hv' with hA' _ _
                    exact ⟨g, hA'⟩
                  obtain ⟨g, rfl⟩ := hAi
                  exact ⟨H3, inn3, g, ys.length, cci, hJ, hgo, hgH, by rw [List.getElem?_eq_getElem hji3, hvi], by omega, hy0, hyl⟩)
                go_wp2
                go_meet
                exact HR
            case rest =>
            clear HJ ci hyl hcc1 hcc2 hil3 hji hold i4 g0 g1
            obtain ⟨H4, inn4, g, n, c, hJ, hgo, hgH, hi4, hmn, hn0, hnl⟩ := hcut.out
            clear hcut
            obtain ⟨hil4, hie4⟩ := List.getElem?_eq_some_iff.1 hi4
            obtain ⟨gI', cI', hvI, _, _, hcells⟩ := own_cells hJ.m.i (by omega)
            injection hvI with hA hn4 hc4
            injection hA with hA
            injection hA with hA _ _
            subst hA hc4
            have ci : wc.cell? ⟨gI, j, none⟩ = some (.slice (some ⟨g, 0, none⟩) n c) := by rw [hcells j (by omega)]; exact hi4
            have i4 : (j : Int) < (inn3.length : Int) := by omega
            clear hcells hn4
            have hm4 := hie4 ▸ List.getElem_mem hil4
            obtain ⟨ys, hyn, hy⟩ := hJ.m.each _ hm4
            obtain ⟨_, _, hv2, hnc2, hcm2⟩ := hy.slice
            injection hv2 with hA2 hn2 hc2
            subst hA2 hn2 hc2
            have hr0 := Row1.ofOwn hy.row
            have hgI : gI ≠ g := fun e => hJ.m.ne hm4 rfl (by rw [e]; rfl)
            have hgw : w.heap.size ≤ g ∧ ¬ H4 g := hJ.new g (.inr ⟨_, hm4, rfl⟩)
            have hoO : ∃ gO cs, AO2 = some ⟨gO, 0, none⟩ ∧ wc.heap[gO]? = some (.cells cs 48 (0, 0)) ∧ cs.size = N2 * 2 ∧ gO ≠ g := by
              rcases hJ.out with ⟨e, _⟩ | ⟨gO, cs, e, hg, hs, _⟩
              · omega
              · exact ⟨gO, cs, e, hg, hs, fun e' => own_ne_heap hy.row hg (by decide) (by rw [e']; rfl)⟩
            obtain ⟨gO, cs, rfl, hcO, hcs, hgO⟩ := hoO
            have hogo : go ≠ g := fun e => own_ne_heap hy.row hgo (by decide) (by rw [e]; rfl)
            have HS := hid (show Row1 wc 5 g c ((bs.take 0 ++ ys.drop 0).map bv) ∧ Keeps (· ≠ g) wc wc from ⟨by simpa using hr0, Keeps.refl _ _⟩)
            have hold4 := hJ.old
            have HJ := hid (And.intro hJ (And.intro hgo (And.intro hgH (And.intro hi4 (And.intro hn0 hnl)))))
            have hbi : (bs.length : Int) ≤ (ys.length : Int) := by omega
            have hbc : (bs.length : Int) ≤ (c : Int) := by omega
            clear hJ hgo hgH hi4 hie4 hm4 hyn hy hr0 hil4
            go_upto_block 4 with fail
            go_cut [] (fun wx => Hid (Row1 wx 5 g c ((bs ++ ys.drop bs.length).map bv) ∧ Keeps (· ≠ g) wc wx))
            case first =>
              go_wp2
              go_loopw [14] (fun v wr2 => ∃ k2 : Nat, v = .int .i64 k2 ∧ k2 ≤ bs.length ∧ Hid (Row1 wr2 5 g c ((bs.take k2 ++ ys.drop k2).map bv) ∧ Keeps (· ≠ g) wc wr2)) (fun v _ => bs.length - (intOf v).toNat)
              case atStart => exact ⟨0, rfl, Nat.zero_le _, HS⟩
              case round =>
                clear HS
                obtain ⟨k2, rfl, hk2, hin⟩ := hrel
                obtain ⟨hrow, hkk⟩ := hin.out
                clear hin
                have i5 : (0 : Int) ≤ (k2 : Int) := by omega
                have hlen : ((bs.take k2 ++ ys.drop k2).map bv).length = ys.length := by rw [List.length_map, List.length_append, List.length_take, List.length_drop]; omega
                by_cases hlt3 : k2 < bs.length
                · have i6 : (k2 : Int) < (bs.length : Int) := by omega
                  have i7 : (k2 : Int) < (ys.length : Int) := by omega
                  obtain ⟨u, hu⟩ := hrow.some_ (i := k2) (by omega)
                  have hf := hrow.frozen
                  have hA0 : Bts S wr A2 bs := HB.out.keep ((hold4.old S).trans hkk fun k hkw hs e => by omega)
                  obtain ⟨b3, o3, rfl, _, q0⟩ := hA0.at_ hlt3
                  have ci2 : wr.cell? ⟨gI, j, none⟩ = some (.slice (some ⟨g, 0, none⟩) ys.length c) := (hkk.cell (lt_of_cell ci) hgI).trans ci
                  have hst := hrow.set k2 (bv bs[k2])
                  rw [fill_step bs ys k2 hlt3 (by omega)] at hst
                  have HR := hid (And.intro (hst.keep ((Keeps.refl (fun _ => True) _).drew) trivial) ((hkk.setCell (p := ⟨g, k2, none⟩) (fun _ h => h rfl) (bv bs[k2])).drew))
                  clear hst hrow hkk hlen hA0
                  generalize bs[k2] = x' at *
                  go_upto_region 23 with fail
                  refine wp_region_tree (fun w' => w'.cell? ⟨gI, j, none⟩ = some (.slice (some ⟨g, 0, none⟩) ys.length c) ∧ w'.cell? ⟨b3, o3 + k2, none⟩ = some (bv x')) 10
                    (.take 0 (.take 1 (.take 2 (.take 3 (.take 4 (.take 5 (.take 6 (.take 7 (.take 8 (.take 9 .tail)))))))))) (by kernel_rfl) (by kernel_rfl) ⟨ci2, q0⟩ ?_
                  iterate 10 (refine pt_take (v := ?_) (by rfl) (by first | rfl | kernel_rfl) (fun w' hS => ?_) ?_; rotate_left 1; (obtain ⟨t1, t2⟩ := hS; go_simp <;> (try with_reducible rfl)); (simp only [Act.put, List.setIfInBounds_toArray, List.set_cons_zero, List.set_cons_succ]))
                  refine pt_tail (by rfl) ?_
                  go_wp2
                  refine NoPanic.normal ?_
                  go_wp2
                  exact ⟨⟨k2 + 1, by go_num, by omega, HR⟩, by simp [intOf]; omega⟩
                · obtain rfl : k2 = bs.length := by omega
                  have i6 : ¬ ((bs.length : Nat) : Int) < (bs.length : Int) := by omega
                  rw [List.take_length] at hrow
                  have HR := hid (And.intro hrow hkk)
                  clear hrow hkk hlen
                  go_wp2
                  go_meet
                  exact HR
            case rest =>
            obtain ⟨hrow, hkk⟩ := hcut.out
            clear hcut HS hbi hbc HB
            obtain ⟨wf, hwf⟩ : ∃ W, W = wc := ⟨_, rfl⟩
            subst hwf
            have ci2 := (hkk.cell (lt_of_cell ci) hgI).trans ci
            have hbS := hS b2 hSb2
            have g0 : wf.cell? ⟨b2, o2 + j * 2, none⟩ = some (.int .u32 t) := (((hold4.old S).trans hkk fun k hkw hs e => by omega : Keeps S w wf).cell (lt_of_cell HG0.out) hSb2).trans HG0.out
            have hgo1 : wf.heap[go]? = some (.cells oc 36 (0, 0)) := hkk.heap HJ.out.2.1 hogo
            have hgo2 := hgo1
            rw [HOC.out] at hgo2
            have hO2 := hkk.heap hcO hgO
            have z0 : ∃ u, wf.cell? ⟨gO, j * 2, none⟩ = some u := ⟨cs[j * 2]'(by omega), by rw [cell_of_heap hO2]; exact Array.getElem?_eq_getElem (by omega)⟩
            have z1 : ∃ u, wf.cell? ⟨gO, j * 2 + 1, none⟩ = some u := ⟨cs[j * 2 + 1]'(by omega), by rw [cell_of_heap hO2]; exact Array.getElem?_eq_getElem (by omega)⟩
            have zf : ∀ i, wf.frozen? ⟨gO, i, none⟩ = false := fun i => frozen_of_heap hO2
            obtain ⟨u0, z0⟩ := z0
            obtain ⟨u1, z1⟩ := z1
            have j5 : (j : Int) < (N2 : Int) := by omega
            have hbi : (bs.length : Int) ≤ (ys.length : Int) := by omega
            have hbc : (bs.length : Int) ≤ (c : Int) := by omega
            have HR := hid (show PlX w gn gm lm (some ⟨gO, 0, none⟩) N2 go oc x.sents (j + 1) (.slice (some ⟨gI, 0, none⟩) inn3.length cI3) ((wf.setCell ⟨gO, j * 2, none⟩ (.int .u32 t)).setCell ⟨gO, j * 2 + 1, none⟩ (.slice (some ⟨g, 0, none⟩) bs.length c)).drew from by
              obtain ⟨hJ, hgo, hgH, hi4, hn0, hnl⟩ := HJ.out
              have hpe := HPE.out
              have hl := hJ.lay (j := j) (w' := wf) (zs := bs ++ ys.drop bs.length) hlt2 (by omega) hi4 hkk hrow (by rw [List.length_append, List.length_drop]; omega) hn0 hnl hcm2 hnc2 (by rw [← hpe]; simp) (by rw [← hpe]; exact hmn)
              rw [← hpe] at hl
              refine ⟨H4, inn4, hl.more ((Keeps.refl _ _).drew), ?_, hgH, by have := (List.getElem?_eq_some_iff.1 hi4).1; omega⟩
              have hne : go ≠ gO := fun e => by rw [e, hO2] at hgo1; injection hgo1 with h; injection h with _ h _; exact absurd h (by decide)
              exact (((Keeps.refl (· ≠ gO) wf).setCell (fun _ h => h rfl) _).setCell (fun _ h => h rfl) _).drew.heap hgo1 hne)
            clear hrow hkk hcO hO2 hold4 HJ hcs
            go_upto_region 24 with fail
            refine wp_region_tree (fun w' => w'.heap[go]? = some (.cells #[.int .i64 kd, .slice (some ⟨b2, o2, none⟩) x.sents.length c1, .int .i64 x.i, .int .i64 x.at_, .int .u8 x.mask.toNat] 36 (0, 0)) ∧ w'.cell? ⟨b2, o2 + j * 2, none⟩ = some (.int .u32 t) ∧ w'.cell? ⟨gI, j, none⟩ = some (.slice (some ⟨g, 0, none⟩) ys.length c)) 17
              (.take 0 (.take 1 (.take 2 (.take 3 (.take 4 (.take 5 (.take 6 (.take 7 (.take 8 (.take 9 (.take 10 (.take 11 (.take 12 (.take 13 (.take 14 (.take 15 (.take 16 .tail))))))))))))))))) (by kernel_rfl) (by kernel_rfl) ⟨hgo2, g0, ci2⟩ ?_
            iterate 17 (refine pt_take (v := ?_) (by rfl) (by first | rfl | kernel_rfl) (fun w' hS => ?_) ?_; rotate_left 1; (obtain ⟨hS, t2, t3⟩ := hS; have t1 : w'.cell? ⟨go, 1, none⟩ = some (.slice (some ⟨b2, o2, none⟩) x.sents.length c1) := cell_of_heap hS; clear hS; go_simp <;> (try with_reducible rfl)); (simp only [Act.put, List.setIfInBounds_toArray, List.set_cons_zero, List.set_cons_succ]))
            refine pt_tail (by rfl) ?_
            go_wp2
            refine NoPanic.normal ?_
            go_wp2
            exact ⟨⟨j + 1, by go_num, by omega, HR⟩, by simp [intOf]; omega⟩
          · obtain rfl : j = x.sents.length := by omega
            have i3 : ¬ ((x.sents.length : Nat) : Int) < (x.sents.length : Int) := by omega
            clear hJ hgo hgH
            go_wp2
            go_meet
            exact hin
      case rest =>
      obtain ⟨H2, inn2, hJ, hgo, hgH, _⟩ := hcut.out
      rw [HOC.out] at hgo
      clear hcut HS HP HOC
      have kd0 : Old wc wc.drew := (Keeps.refl _ wc).drew
      have inn1 : (x.sents.length : Int) ≤ (N2 : Int) := by omega
      have hpl := plays_any wc.drew H2 (fun i => i < wc.heap.size ∧ ¬ H2 i) gn gm lm kd x.i x.at_ x.mask AO2 N2 x.sents (hJ.t.keep (kd0.old _)) ((hJ.pks rfl hnN (by omega)).keep (kd0.old _)) (fun i hi => hi)
      have HJ := hid hJ
      have HGH := hid hgH
      clear hJ hgH kd0
      go_upto_region 25 with fail
      refine wp_region_tree (fun w' => w'.heap[go]? = some (.cells #[.int .i64 kd, .slice A1 x.sents.length c1, .int .i64 x.i, .int .i64 x.at_, .int .u8 x.mask.toNat] 36 (0, 0))) 18
        (.take 0 (.take 1 (.take 2 (.take 3 (.take 4 (.take 5 (.take 6 (.take 7 (.take 8 (.take 9 (.take 10 (.take 11 (.take 12 (.take 13 (.take 14 (.take 15 (.one 16 (.take 17 .tail)))))))))))))))))) (by kernel_rfl) (by kernel_rfl) hgo ?_
      iterate 16 (refine pt_take (v := ?_) (by rfl) (by first | rfl | kernel_rfl) (fun w' hS => ?_) ?_; rotate_left 1; (have t0 : w'.cell? ⟨go, 0, none⟩ = some (.int .i64 kd) := cell_of_heap hS; have t1 : w'.cell? ⟨go, 1, none⟩ = some (.slice A1 x.sents.length c1) := cell_of_heap hS; have t2 : w'.cell? ⟨go, 2, none⟩ = some (.int .i64 x.i) := cell_of_heap hS; have t3 : w'.cell? ⟨go, 3, none⟩ = some (.int .i64 x.at_) := cell_of_heap hS; have t4 : w'.cell? ⟨go, 4, none⟩ = some (.int .u8 x.mask.toNat) := cell_of_heap hS; clear hS; go_simp <;> (try with_reducible rfl)); (simp only [Act.put, List.setIfInBounds_toArray, List.set_cons_zero, List.set_cons_succ]))
      refine pt_one (by rfl) (loudly_of (by first | rfl | kernel_rfl) (fun K hK => ?_))
      go_wp2_with fail
      refine hpl.mono ?_
      rintro e w3 hpo
      obtain rfl := hpo.1
      clear hpl
      refine hK _ _ (hpo.2.choose_spec.2.2.heap hgo HGH.out) ?_
      clear hK K
      (refine pt_take (v := ?_) (by rfl) (by first | rfl | kernel_rfl) (fun w' hS => ?_) ?_; rotate_left 1; (have t0 : w'.cell? ⟨go, 0, none⟩ = some (.int .i64 kd) := cell_of_heap hS; have t1 : w'.cell? ⟨go, 1, none⟩ = some (.slice A1 x.sents.length c1) := cell_of_heap hS; have t2 : w'.cell? ⟨go, 2, none⟩ = some (.int .i64 x.i) := cell_of_heap hS; have t3 : w'.cell? ⟨go, 3, none⟩ = some (.int .i64 x.at_) := cell_of_heap hS; have t4 : w'.cell? ⟨go, 4, none⟩ = some (.int .u8 x.mask.toNat) := cell_of_heap hS; clear hS; go_simp <;> (try with_reducible rfl)); (simp only [Act.put, List.setIfInBounds_toArray, List.set_cons_zero, List.set_cons_succ]))
      refine pt_tail (by rfl) ?_
      go_wp2
      refine NoPanic.normal ?_
      have HR := hid (show ∃ H inn, PlJ w gn gm lm H 1048576 AO2 N2 [] 0 u9 inn w3 from by
        obtain ⟨H', h'⟩ := HJ.out.plays ((Keeps.refl _ wc).drew) hpo
        exact ⟨H', inn2, h'⟩)
      clear hpo HJ hgo
      go_wp2
      exact ⟨⟨k + 1, N2, AO2, by go_num, by omega, rfl, HR⟩, by simp [intOf]; omega⟩
    · obtain ⟨H, inn, hJ⟩ := hin.out
      clear hin
      have hpl : Calls Try.prog 24 #[.pointer (some ⟨gn, 0, none⟩), .pointer (some ⟨gm, 0, none⟩), .agg #[.int .i64 6, .slice none 0 0, .int .i64 0, .int .i64 0, .int .u8 0]] wr (PostPlays H wr gn gm lm) := plays_any wr H (fun _ => False) gn gm lm 6 0 0 0 none 0 [] hJ.t (Pks.nil _ _ _) (fun _ h => h.elim)
      have i1 : ¬ (k : Int) < (l.length : Int) := by omega
      have HX := hid (And.intro hJ.hn hJ.old)
      clear hJ
      go_wp2_with fail
      refine hpl.mono ?_
      rintro e w3 ⟨rfl, H3, _, _, k3⟩
      clear hpl
      obtain ⟨hH0, hold⟩ := HX.out
      have HR := hid (show Old w w3 from hold.trans k3 fun i hi _ h => by have := hH0 i h; omega)
      clear hH0 hold k3 HX
      go_wp2
      go_ret
      exact ⟨rfl, HR.out⟩
end Go.Proofs.Ytgnndggbjipioaa
