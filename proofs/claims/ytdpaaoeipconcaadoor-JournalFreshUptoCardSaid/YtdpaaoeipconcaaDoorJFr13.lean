/- weftlaw12.JournalFresh from its loop on. Conditions: the pair and the book lie, apart; the disk and the script can be read; the table lies; the script is of small bulk. -/
import Derived.Test.YtdpaaoeipconcaaDoorJHand
import Derived.Test.YtdpaaoeipconcaaDoorJUn
namespace Go.Proofs.YtdpaaoeipconcaaDoor
open Go.RowKit

noncomputable def rest17 (n : Nat) : Code := dropSeq n (Tryd.f17.body.getD .skip)

/-- how sizes grow, a name each -/
def nF (r : Nat) : Nat := r * 5000000
def zF (r : Nat) : Nat := r * 2000000000000
theorem nF_zero : nF 0 = 0 := rfl
theorem zF_zero : zF 0 = 0 := rfl
theorem nF_succ (r : Nat) : nF (r + 1) = nF r + 5000000 := Nat.succ_mul _ _
theorem zF_succ (r : Nat) : zF (r + 1) = zF r + 2000000000000 := Nat.succ_mul _ _
theorem nF_le {r : Nat} (h : r ≤ 209716) : nF r ≤ 1100000000000 := Nat.le_trans (Nat.mul_le_mul_right _ h) (by decide)
theorem zF_le {r : Nat} (h : r ≤ 209716) : zF r ≤ 500000000000000000 := Nat.le_trans (Nat.mul_le_mul_right _ h) (by decide)

/-- ahead of a round of the loop; R0: what is never touched -/
def InFr (R0 : Nat → Prop) (p pb N Z k : Nat) (wA wr : World) : Prop :=
  ∃ (H : Nat → Prop) (o : Option Jn), PairAt H wr p o ∧ wsN o ≤ 2 * k + 1 ∧ Bk (fun i => R0 i ∨ H i) pb (N + nF k) (Z + zF k) wr ∧ (∀ i, H i → ¬ R0 i) ∧ Keeps R0 wA wr

set_option maxRecDepth 10000 in
set_option maxHeartbeats 16000000 in
theorem fresh_13 (w wA : World) (S : Nat → Prop) (A B : Option Addr) (n m c d : Nat) (xs ys : List UInt8) (ha : Bts S w A xs) (hb : Bts S w B ys) (hn : n = xs.length) (hm : m = ys.length) (hc : n ≤ c) (hd : m ≤ d)
    (C : Option Addr) (cc : Nat) (l : List OpJ) (hO : Ops S w C l) (hS : ∀ k, S k → k < w.heap.size) (hT : Tab w) (hsl : SmallOps l) (hln : l.length ≤ 209716)
    (H : Nat → Prop) (p pb gd N Z : Nat) (o : Option Jn) (hP : PairAt H wA p o) (hws : wsN o ≤ 1) (hB : Bk (fun i => (i < w.heap.size ∨ i = gd) ∨ H i) pb N Z wA) (hH : ∀ i, H i → w.heap.size ≤ i ∧ i ≠ gd) (hOA : Old w wA) (hgd : wA.heap[gd]? = some (.cells #[.slice A n c, .slice B m d] 24 (0, 0))) (hgdl : w.heap.size ≤ gd) (hN : N ≤ 10000000) (hZ : Z ≤ 100000000000000)
    (co : Code) (hco : co = rest17 11) (v0 v3 v4 v5 v6 v7 v8 v9 v10 v11 v12 v15 u16 u17 u18 u19 u20 u21 u22 u23 u24 u25 u26 u27 u28 u29 u30 u31 u32 u33 u34 u35 u36 u37 u38 u39 u40 u41 u42 u43 u44 u45 u46 u47 u48 u49 u50 u51 u52 u53 u54 u55 u56 u57 u58 u59 u60 u61 u62 u63 u64 u65 u66 u67 u68 u69 u70 u71 u72 u73 u74 u75 u76 u77 u78 u79 u80 u81 u82 u83 u84 u85 u86 u87 u88 u89 u90 u91 u92 u93 u94 u95 u96 u97 u98 u99 u100 u101 u102 u103 u104 u105 u106 u107 u108 u109 u110 u111 u112 u113 u114 u115 u116 u117 u118 u119 u120 u121 u122 u123 u124 u125 u126 : Value) :
    co.wp Tryd.prog (bodyPost Tryd.prog Tryd.f17 (fun e w' => e = .returned (.bool true) ∧ Old w w')) ⟨#[v0, .slice C l.length cc, .pointer (some ⟨gd, 0, none⟩), v3, v4, v5, v6, v7, v8, v9, v10, v11, v12, .pointer (some ⟨p, 0, none⟩), .pointer (some ⟨pb, 0, none⟩), v15, u16, u17, u18, u19, u20, u21, u22, u23, u24, u25, u26, u27, u28, u29, u30, u31, u32, u33, u34, u35, u36, u37, u38, u39, u40, u41, u42, u43, u44, u45, u46, u47, u48, u49, u50, u51, u52, u53, u54, u55, u56, u57, u58, u59, u60, u61, u62, u63, u64, u65, u66, u67, u68, u69, u70, u71, u72, u73, u74, u75, u76, u77, u78, u79, u80, u81, u82, u83, u84, u85, u86, u87, u88, u89, u90, u91, u92, u93, u94, u95, u96, u97, u98, u99, u100, u101, u102, u103, u104, u105, u106, u107, u108, u109, u110, u111, u112, u113, u114, u115, u116, u117, u118, u119, u120, u121, u122, u123, u124, u125, u126], []⟩ wA := by
  unfold rest17 Tryd.f17 at hco
  dsimp only [dropSeq, Option.getD] at hco
  subst hco
  dsimp only
  have HN := hid (And.intro hn hm)
  obtain ⟨R0, hR0⟩ : ∃ R0 : Nat → Prop, R0 = fun i => i < w.heap.size ∨ i = gd := ⟨_, rfl⟩
  have hRw : ∀ i, i < w.heap.size → R0 i := fun i h => by rw [hR0]; exact .inl h
  have hRg : R0 gd := by rw [hR0]; exact .inr rfl
  have hHR : ∀ i, H i → ¬ R0 i := fun i h h' => by
    rw [hR0] at h'
    have := hH i h
    rcases h' with h' | h'
    · omega
    · exact this.2 h'
  have hRc : ∀ i, R0 i → i < w.heap.size ∨ i = gd := fun i h => by rw [hR0] at h; exact h
  have hB' : Bk (fun i => R0 i ∨ H i) pb N Z wA := by rw [hR0]; exact hB
  have HS := hid (show InFr R0 p pb N Z 0 wA wA from ⟨H, o, hP, by omega, hB'.more (by omega) (by omega), hHR, Keeps.refl _ _⟩)
  have hpos := hT.pos
  have hgl := lt_of_heap hgd
  have HR0 := hid (And.intro hRw (And.intro hRg (And.intro hRc (And.intro hgd hOA))))
  clear hn hm hB hB' hP hws hH hHR hR0 hRw hRg hRc hgd hOA
  go_wp2
  go_loopw [15] (fun v wr => ∃ k : Nat, v = .int .i64 k ∧ k ≤ l.length ∧ Hid (InFr R0 p pb N Z k wA wr)) (fun v _ => l.length - (intOf v).toNat)
  case atStart => exact ⟨0, rfl, Nat.zero_le _, HS⟩
  case round =>
    clear HS
    obtain ⟨k, rfl, hk, hin⟩ := hrel
    have i0 : (0 : Int) ≤ (k : Int) := by omega
    obtain ⟨hRw, hRg, hRc, hgd, hOA⟩ := HR0.out
    obtain ⟨H1, o1, hP, hws, hB, hHR, hkk⟩ := hin.out
    clear hin
    have hOr : Old w wr := hOA.trans hkk fun i hi _ => hRw i hi
    have hTr := hT.keep (hOr.old (fun _ => True)) trivial
    have hH0 : ¬ H1 0 := fun h => hHR 0 h (hRw 0 hpos)
    have hnk := nF_le (r := k) (by omega)
    have hzk := zF_le (r := k) (by omega)
    by_cases hlt : k < l.length
    · have i1 : (k : Int) < (l.length : Int) := by omega
      have hsm := hsl.2 l[k] (List.getElem_mem hlt)
      obtain ⟨b, off, rfl, hSb, A1, c1, B1, d1, h0, h1, h2, h3, h4, h5, h6, h7, h8, h9, h10⟩ := (hO.keep (hOr.old S)).at_ (j := k) hlt
      have hha := handed_any wr (fun i => R0 i ∨ H1 i) H1 S pb _ _ p o1 l[k].kind l[k].n A1 B1 c1 d1 l[k].one l[k].many hB hP (fun i h => .inr h) h7 h8 (fun i h => ⟨.inl (hRw i (hS i h)), fun hh => hHR i hh (hRw i (hS i h))⟩) h9 h10 hTr hH0 (.inl (hRw 0 hpos)) (by omega) (by omega) (by omega) hsm.1 hsm.2.1 hsm.2.2
      generalize l[k] = x at *
      have HK := hid (And.intro hHR (And.intro hkk hws))
      clear hB hP hHR hkk hOr hTr h4 h5 h6 h7 h8 h9 h10 hgd hOA hRw hRg hRc hws
      obtain ⟨rm, hrm⟩ : ∃ rm, rm = k % 64 := ⟨_, rfl⟩
      have e1 : (k : Int) % 64 = (rm : Int) := by omega
      have e1' : (k : Int).tmod 64 = (rm : Int) := by rw [Int.tmod_eq_emod_of_nonneg (by omega)]; exact e1
      have HRM := hid hrm
      clear hrm
      go_wp2_with fail
      refine hha.mono ?_
      rintro e w3 hpo
      obtain rfl := hpo.1
      obtain ⟨_, H2, o2, hP2, hw2, hH2, hB2, hK2⟩ := hpo
      clear hha h0 h1 h2 h3
      have hcw := whole_bk hB2 (by omega)
      have HQ := hid (show ∀ w4, Old w3 w4 → InFr R0 p pb N Z (k + 1) wA w4 from fun w4 k4 => by
        obtain ⟨hHR, hkk, hws⟩ := HK.out
        have hz := hkk.size
        refine ⟨H2, o2, hP2.keep (k4.old _), by omega, ((hB2.keep (k4.old _)).less fun i hi => ?_).more (by rw [nF_succ]; omega) (by rw [zF_succ]; omega), fun i hi hr => ?_, (hkk.trans' (hK2.mono fun i _ hi => ⟨.inl hi, fun h => hHR i h hi⟩)).trans' (k4.old _)⟩
        · rcases hi with hi | hi
          · exact .inl (.inl ⟨.inl hi, fun h => hHR i h hi⟩)
          · exact .inl (.inr hi)
        · rcases hH2 i hi with h | h
          · exact hHR i h hr
          · rcases HR0.out.2.2.1 i hr with h' | h'
            · have := HR0.out.2.2.2.2.size; omega
            · omega)
      clear hP2 hw2 hH2 hB2 hK2
      by_cases hm : rm = 63
      · have e2 : (rm : Int) = 63 := by omega
        have e3 : ((rm : Int) == 63) = true := by rw [e2]; rfl
        go_wp2_with fail
        refine hcw.mono ?_
        rintro e w4 ⟨rfl, k4⟩
        have HR := hid (HQ.out w4 k4)
        clear hcw k4
        go_wp2
        exact ⟨⟨k + 1, by go_num, by omega, HR⟩, by simp [intOf]; omega⟩
      · have e2 : ¬ (rm : Int) = 63 := by omega
        have e3 : ((rm : Int) == 63) = false := beq_eq_false_iff_ne.2 e2
        have HR := hid (HQ.out w3 (Keeps.refl _ _))
        clear hcw
        go_wp2
        exact ⟨⟨k + 1, by go_num, by omega, HR⟩, by simp [intOf]; omega⟩
    · have i1 : ¬ (k : Int) < (l.length : Int) := by omega
      have hpl : Calls Tryd.prog 36 #[.pointer (some ⟨p, 0, none⟩), .agg #[.int .i64 6, .slice none 0 0, .slice none 0 0, .int .i64 1073741824]] wr (PostPlays H1 wr p o1) := plays_any wr H1 (fun _ => False) p o1 6 1073741824 none none 0 0 [] [] hP (Bts.nil _ _ _) (Rcs.nil _ _ _) (by simp) (fun _ h => h.elim) (by omega) (by omega) hTr hH0 (by omega)
      have HK := hid (And.intro hB (And.intro hHR hkk))
      clear hB hHR hkk hOr hTr hP hgd hOA hRw hRg hRc
      go_wp2_with fail
      refine hpl.mono ?_
      rintro e w3 hpo
      obtain rfl := hpo.1
      obtain ⟨_, H2, o2, _, _, k3, _⟩ := hpo
      clear hpl
      obtain ⟨hB, hHR, hkk⟩ := HK.out
      obtain ⟨hRw, hRg, hRc, hgd, hOA⟩ := HR0.out
      have hB3 := hB.keep (k3.mono fun i _ h hh => h (.inr hh))
      have hcw := whole_bk hB3 (by omega)
      have k03 : Keeps R0 wA w3 := hkk.trans' (k3.mono fun i _ hi hh => hHR i hh hi)
      have hO3 : Old w w3 := hOA.trans k03 fun i hi _ => hRw i hi
      have hgd3 := k03.heap hgd hRg
      have hun := fun (W : World) (hW : Old w3 W) => untouched_any W S A B n m c d xs ys (ha.keep ((hO3.trans' hW).old S)) (hb.keep ((hO3.trans' hW).old S)) HN.out.1 HN.out.2 hc hd C cc l (hO.keep ((hO3.trans' hW).old S)) (fun i hi => by have := hS i hi; have := (hO3.trans' hW).size; omega) (hT.keep ((hO3.trans' hW).old (fun _ => True)) trivial) hln
      have hpla := fun (W : World) (hW : Old w3 W) => placed_any W S A B n m c d xs ys (ha.keep ((hO3.trans' hW).old S)) (hb.keep ((hO3.trans' hW).old S)) HN.out.1 HN.out.2 hc hd C cc l (hO.keep ((hO3.trans' hW).old S)) (fun i hi => by have := hS i hi; have := (hO3.trans' hW).size; omega) (hT.keep ((hO3.trans' hW).old (fun _ => True)) trivial) hsl
      have HU := hid (And.intro hun (And.intro hpla hO3))
      clear hB hHR hkk hRw hRg hRc hgd hOA hB3 k03 hO3 hun hpla k3
      go_wp2_with fail
      refine hcw.mono ?_
      rintro e w4 ⟨rfl, k4⟩
      clear hcw
      have hgd4 := k4.heap hgd3 trivial
      have a0 : w4.cell? ⟨gd, 0, none⟩ = some (.slice A n c) := cell_of_heap hgd4
      have a1 : w4.cell? ⟨gd, 1, none⟩ = some (.slice B m d) := cell_of_heap hgd4
      have hc5 := HU.out.1 w4 k4
      go_wp2_with fail
      refine hc5.mono ?_
      rintro e w5 ⟨rfl, k5⟩
      clear hc5 a0 a1
      have hgd5 := k5.heap hgd4 trivial
      have a0 : w5.cell? ⟨gd, 0, none⟩ = some (.slice A n c) := cell_of_heap hgd5
      have a1 : w5.cell? ⟨gd, 1, none⟩ = some (.slice B m d) := cell_of_heap hgd5
      have hc6 := HU.out.2.1 w5 (k4.trans' k5)
      go_wp2_with fail
      refine hc6.mono ?_
      rintro e w6 ⟨rfl, k6⟩
      clear hc6 a0 a1
      have HR := hid (show Old w w6 from ((HU.out.2.2.trans' k4).trans' k5).trans' k6)
      go_wp2
      go_ret
      exact ⟨rfl, HR.out⟩
end Go.Proofs.YtdpaaoeipconcaaDoor
