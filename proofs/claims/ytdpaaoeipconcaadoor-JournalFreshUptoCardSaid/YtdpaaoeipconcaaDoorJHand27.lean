/- weftlaw12.Pair.handed, its last part: the step is played; what was handed in is as it was; then written over. Conditions: as for handed. -/
import Derived.Test.YtdpaaoeipconcaaDoorJHandP
namespace Go.Proofs.YtdpaaoeipconcaaDoor
open Go.RowKit

def PostHand (R H : Nat → Prop) (pb N Z p : Nat) (o : Option Jn) (w : World) (e : Ending) (w' : World) : Prop :=
  e = .returned (.bool true) ∧ ∃ H' o', PairAt H' w' p o' ∧ wsN o' ≤ wsN o + 2 ∧ (∀ k, H' k → H k ∨ w.heap.size ≤ k) ∧ Bk (fun k => (R k ∧ ¬ H k) ∨ H' k) pb (N + 5000000) (Z + 2000000000000) w' ∧ Keeps (fun k => R k ∧ ¬ H k) w w'

/-- ahead of the last keep -/
def InEnd (R H : Nat → Prop) (pb N Z p : Nat) (o : Option Jn) (w : World) (gxo gr nr : Nat) (one : List UInt8) (m : Nat) (we : World) : Prop :=
  ∃ H2 o2 Re, PairAt H2 we p o2 ∧ wsN o2 ≤ wsN o + 2 ∧ (∀ k, H2 k → (H k ∨ w.heap.size ≤ k) ∧ Re k ∧ k ≠ gr) ∧ Bk Re pb (N + 4 * m) (Z + m * 1048976) we ∧ (∀ k, R k ∧ ¬ H k → Re k ∧ k ≠ gr) ∧ Re gr ∧ Row1 we 5 gr nr [] ∧ we.cell? ⟨gxo, 1, none⟩ = some (.slice (some ⟨gr, 0, none⟩) one.length nr) ∧ Keeps (fun k => R k ∧ ¬ H k) w we
/-- ahead of a round of the fourth loop -/
def InHand4 (Rb : Nat → Prop) (pb N Z : Nat) (q : List (List UInt8 × Nat)) (k : Nat) (wl wr : World) : Prop :=
  Bk (fun i => Rb i ∧ ∀ y ∈ q.take k, y.2 ≠ i) pb (N + 4 * k) (Z + k * 1048976) wr ∧ Keeps (fun i => Rb i ∧ ∀ y ∈ q.take k, y.2 ≠ i) wl wr
/-- the code behind the first n statements -/
def dropSeq : Nat → Code → Code
  | 0, c => c
  | n + 1, .seq _ b => dropSeq n b
  | _, c => c
noncomputable def rest51 (n : Nat) : Code := dropSeq n (Tryd.f51.body.getD .skip)

set_option maxRecDepth 10000 in
set_option maxHeartbeats 32000000 in
theorem handed_27 (w wA : World) (R H S : Nat → Prop) (pb N Z p : Nat) (o : Option Jn) (kd n : Int) (A1 B1 : Option Addr) (c1 d1 : Nat) (one : List UInt8) (many : List (List UInt8)) (hB : Bk R pb N Z w) (hP : PairAt H w p o) (hHR : ∀ k, H k → R k) (h7 : Bts S w A1 one) (h8 : Rcs S w B1 many) (hS : ∀ k, S k → R k ∧ ¬ H k)
    (hn0 : -9223372036854775808 ≤ n) (hn1 : n < 9223372036854775808) (hT : Tab w) (hH0 : ¬ H 0) (hR0 : R 0) (hw : wsN o ≤ 100000000) (hN : N ≤ 1900000000000) (hZ : Z ≤ 1900000000000000000) (hone : one.length ≤ 1048576) (hmany : many.length ≤ 1048576) (hall : ∀ r ∈ many, r.length ≤ 1048576)
    (b0 go gxo gr ga nr NA cR : Nat) (AR : Option Addr) (q : List (List UInt8 × Nat)) (hA : HandA b0 go gxo gr ga nr NA kd n (.slice A1 one.length c1) (.slice B1 many.length d1) one many (.slice AR many.length cR) q wA) (hOA : Old w wA) (hgo : w.heap.size ≤ go) (hnr : nr = one.length + 64) (hNA : NA = many.length + 70)
    (c : Code) (hc : c = rest51 10) (v1 v3 v5 v6 v10 v11 v13 v14 v15 v16 u17 u18 u19 u20 u21 u22 u23 u24 u25 u26 u27 u28 u29 u30 u31 u32 u33 u34 u35 u36 u37 u38 u39 u40 u41 u42 u43 u44 u45 u46 u47 u48 u49 u50 u51 u52 u53 u54 u55 u56 u57 u58 u59 u60 u61 u62 u63 u64 u65 u66 u67 u68 u69 u70 u71 u72 u73 u74 u75 u76 u77 u78 u79 u80 u81 u82 u83 u84 u85 u86 u87 u88 u89 u90 u91 u92 u93 u94 u95 u96 u97 u98 u99 u100 u101 u102 u103 u104 u105 u106 u107 u108 u109 u110 u111 u112 u113 u114 u115 u116 u117 u118 u119 u120 u121 u122 u123 u124 u125 u126 u127 u128 u129 u130 u131 u132 u133 u134 u135 u136 u137 u138 u139 u140 u141 u142 u143 u144 u145 u146 u147 u148 u149 u150 u151 u152 u153 u154 u155 u156 u157 u158 u159 u160 u161 u162 u163 u164 u165 u166 u167 u168 u169 u170 u171 u172 u173 u174 u175 u176 u177 u178 u179 u180 u181 u182 u183 u184 u185 u186 u187 u188 u189 u190 u191 u192 u193 u194 u195 u196 u197 u198 u199 u200 u201 u202 u203 u204 u205 u206 u207 u208 u209 u210 u211 u212 u213 u214 u215 u216 u217 u218 u219 u220 u221 u222 u223 u224 u225 u226 u227 u228 u229 u230 u231 u232 u233 u234 u235 u236 u237 u238 u239 u240 u241 : Value) :
    c.wp Tryd.prog (bodyPost Tryd.prog Tryd.f51 (PostHand R H pb N Z p o w)) ⟨#[.pointer (some ⟨p, 0, none⟩), v1, .pointer (some ⟨pb, 0, none⟩), v3, .pointer (some ⟨go, 0, none⟩), v5, v6, .slice (some ⟨gr, 0, none⟩) nr nr, .pointer (some ⟨gxo, 0, none⟩), .slice AR many.length cR, v10, v11, .slice (some ⟨ga, 0, none⟩) NA NA, v13, v14, v15, v16, u17, u18, u19, u20, u21, u22, u23, u24, u25, u26, u27, u28, u29, u30, u31, u32, u33, u34, u35, u36, u37, u38, u39, u40, u41, u42, u43, u44, u45, u46, u47, u48, u49, u50, u51, u52, u53, u54, u55, u56, u57, u58, u59, u60, u61, u62, u63, u64, u65, u66, u67, u68, u69, u70, u71, u72, u73, u74, u75, u76, u77, u78, u79, u80, u81, u82, u83, u84, u85, u86, u87, u88, u89, u90, u91, u92, u93, u94, u95, u96, u97, u98, u99, u100, u101, u102, u103, u104, u105, u106, u107, u108, u109, u110, u111, u112, u113, u114, u115, u116, u117, u118, u119, u120, u121, u122, u123, u124, u125, u126, u127, u128, u129, u130, u131, u132, u133, u134, u135, u136, u137, u138, u139, u140, u141, u142, u143, u144, u145, u146, u147, u148, u149, u150, u151, u152, u153, u154, u155, u156, u157, u158, u159, u160, u161, u162, u163, u164, u165, u166, u167, u168, u169, u170, u171, u172, u173, u174, u175, u176, u177, u178, u179, u180, u181, u182, u183, u184, u185, u186, u187, u188, u189, u190, u191, u192, u193, u194, u195, u196, u197, u198, u199, u200, u201, u202, u203, u204, u205, u206, u207, u208, u209, u210, u211, u212, u213, u214, u215, u216, u217, u218, u219, u220, u221, u222, u223, u224, u225, u226, u227, u228, u229, u230, u231, u232, u233, u234, u235, u236, u237, u238, u239, u240, u241], []⟩ wA := by
  unfold rest51 Tryd.f51 at hc
  dsimp only [dropSeq, Option.getD] at hc
  subst hc
  have a1 := hA.hgo
  have a2 := hA.hgr
  have a3 := hA.hgx
  have a4 := hA.hga
  have hzA := hOA.size
  have hgoA := lt_of_heap hA.o
  have hHlt := hP.2.1
  have hRl := hB.1
  have hSl : ∀ i, S i → i < w.heap.size := fun i hi => hRl i (hS i hi).1
  have hPA := hP.keep (hOA.old H)
  have hTA := hT.keep (hOA.old (fun _ => True)) trivial
  have hpl : Calls Tryd.prog 36 #[.pointer (some ⟨p, 0, none⟩), .agg #[.int .i64 kd, .slice (some ⟨gr, 0, none⟩) one.length nr, .slice (some ⟨ga, 0, none⟩) many.length NA, .int .i64 n]] wA (PostPlays H wA p o) := plays_any wA H (fun i => go ≤ i ∧ i < wA.heap.size) p o kd n (some ⟨gr, 0, none⟩) (some ⟨ga, 0, none⟩) nr NA one many hPA (hA.one_ (by omega)) (hA.rcs (by omega) (fun r hr => by have := hall r hr; omega)) (by omega) (fun i hi => ⟨hi.2, fun h => by have := hHlt i h; omega⟩) hn0 hn1 hTA hH0 (by omega)
  have x0 : wA.cell? ⟨gxo, 0, none⟩ = some (.int .i64 kd) := cell_of_heap hA.x
  have x1 : wA.cell? ⟨gxo, 1, none⟩ = some (.slice (some ⟨gr, 0, none⟩) one.length nr) := cell_of_heap hA.x
  have x2 : wA.cell? ⟨gxo, 2, none⟩ = some (.slice (some ⟨ga, 0, none⟩) many.length NA) := cell_of_heap hA.x
  have x3 : wA.cell? ⟨gxo, 3, none⟩ = some (.int .i64 n) := cell_of_heap hA.x
  have hro := fun (W : World) S A c (hb : Bts S W A one) => roomy_any W S A c one hb (by omega)
  unfold PostRoom at hro
  rw [← hnr] at hro
  have hss := fun (W : World) S T A B c d (h1 : Bts S W A (roomyB one)) (h2 : Bts T W B (roomyB one)) => same_any W S T A B c d _ _ h1 h2
  simp only [roomyB_length, decide_true] at hss
  rw [← hnr] at hss
  have HRO := hid (And.intro hro hss)
  have HN := hid (And.intro hnr hNA)
  have HO := hid hone
  have HX := hid (And.intro hB (And.intro hP (And.intro hHR (And.intro h7 (And.intro h8 (And.intro hS (And.intro hT (And.intro hH0 hR0))))))))
  have HZ := hid (And.intro hHlt (And.intro hRl hSl))
  have HA := hid hA
  have HLT := hid (show w.heap.size ≤ go ∧ go < gr ∧ gr < gxo ∧ gxo < b0 ∧ b0 ≤ ga ∧ go < wA.heap.size ∧ w.heap.size ≤ wA.heap.size from ⟨hgo, a1, a2, a3, a4, hgoA, hzA⟩)
  have inr1 : (one.length : Int) ≤ (nr : Int) := by omega
  clear hro hss hnr hNA hB hP hHR h7 h8 hS hT hH0 hR0 hA hHlt hRl hSl hPA hTA a1 a2 a3 a4 hgo hgoA hzA
  go_wp2_with fail
  refine hpl.mono ?_
  rintro e w1 hpo
  obtain rfl := hpo.1
  obtain ⟨_, H1, o1, hP1, hH1, k1, hw1⟩ := hpo
  clear hpl x0 x1 x2 x3
  obtain ⟨hB, hP, hHR, h7, h8, hS, hT, hH0, hR0⟩ := HX.out
  obtain ⟨hHlt, hRl, hSl⟩ := HZ.out
  obtain ⟨l1, l2, l3, l4, l5, l6, l7⟩ := HLT.out
  have hA1 := HA.out.keep (k1.mono fun i _ (h : go ≤ i) => (fun hh => by have := hHlt i hh; omega : ¬ H i))
  have hSk : Keeps S w w1 := (hOA.old S).trans k1 fun i _ hi => (hS i hi).2
  have z1 := k1.size
  have y1 : w1.cell? ⟨go, 1, none⟩ = some (.slice A1 one.length c1) := cell_of_heap hA1.o
  have hc2 := HRO.out.1 w1 S A1 c1 (h7.keep hSk)
  have HP1 := hid (And.intro hP1 (And.intro hH1 (And.intro k1 (And.intro hw1 hSk))))
  clear hB hP hHR h7 h8 hS hT hH0 hR0 hHlt hRl hSl l1 l2 l3 l4 l5 l6 l7 hP1 hH1 k1 hSk
  go_wp2_with fail
  refine hc2.mono ?_
  rintro e w2 ⟨rfl, hr2, k2⟩
  clear hc2
  have hc3 := HRO.out.2 w2 _ _ (some ⟨gr, 0, none⟩) (some ⟨w1.heap.size, 0, none⟩) nr nr ((hA1.r.keep k2 trivial).btsT (by have := HO.out; omega)) (hr2.btsT (by have := HO.out; omega))
  go_wp2_with fail
  refine hc3.mono ?_
  rintro e w3 ⟨rfl, nd3, hw3⟩
  have k3 : Old w2 w3 := by rw [← hw3]; exact (Keeps.refl _ _).drewN _
  clear hc3 hw3 hr2
  have K3 := k2.trans' k3
  have hA3 := hA1.keep (K3.old _)
  have y2 : w3.cell? ⟨go, 2, none⟩ = some (.slice B1 many.length d1) := cell_of_heap hA3.o
  clear hA1
  go_wp2
  go_loopw [15] (fun v wr => ∃ k : Nat, v = .int .i64 k ∧ many.length ≤ k ∧ k ≤ NA ∧ Hid (Old w3 wr)) (fun v _ => NA - (intOf v).toNat)
  case atStart => exact ⟨many.length, rfl, Nat.le_refl _, by have := HN.out; omega, Keeps.refl _ _⟩
  case round =>
    obtain ⟨k, rfl, hmk, hkN, hold⟩ := hrel
    have hNA := HN.out.2
    have hN6 : NA ≤ 1048646 := by omega
    clear hNA
    have i0 : (0 : Int) ≤ (k : Int) := by omega
    have hAr := hA3.keep (hold.out.old _)
    by_cases hlt : k < NA
    · have i1 : (k : Int) < (NA : Int) := by omega
      obtain ⟨vals, hvl, hrw, _, hv2⟩ := hAr.all
      obtain ⟨v, hv, hh, rfl, hhc, _⟩ := hv2 k hmk hlt
      have hcell : wr.cell? ⟨ga, k, none⟩ = some (.slice (some ⟨hh, 0, none⟩) 1 1) := by rw [hrw.cell (by omega)]; exact hv
      obtain ⟨bt, hbt⟩ : ∃ bt, bt = (7 + k) % 256 := ⟨_, rfl⟩
      rw [← hbt] at hhc
      have b1 : IntKind.i64.wrap (7 + (k : Int)) = 7 + (k : Int) := by rw [IntKind.wrap_i64]; omega
      have b2 : IntKind.u8.wrap (7 + (k : Int)) = (bt : Int) := by rw [IntKind.wrap_u8]; omega
      obtain ⟨W4, hW4⟩ : ∃ W, W = wr.alloc (.cells #[.int .u8 (bt : Int)] 5) := ⟨_, rfl⟩
      have k4 : Old wr W4 := by rw [hW4]; exact (Keeps.refl _ _).alloc _
      have hb4 : W4.heap[wr.heap.size]? = some (.cells #[.int .u8 (bt : Int)] 5 (0, 0)) := by rw [hW4]; exact heap_alloc_new _ _
      have hbv : bv (UInt8.ofNat bt) = .int .u8 (bt : Int) := by rw [ofNat_bv, Nat.mod_eq_of_lt (by omega)]
      have hcs : Calls Tryd.prog 48 #[.slice (some ⟨hh, 0, none⟩) 1 1, .slice (some ⟨wr.heap.size, 0, none⟩) 1 1] W4 (PostSame W4 true) := by
        have h := same_any W4 _ _ (some ⟨hh, 0, none⟩) (some ⟨wr.heap.size, 0, none⟩) 1 1 [UInt8.ofNat bt] [UInt8.ofNat bt] (Bts.of_block (t := 5) (by rw [k4.heap hhc trivial, ← hbv]; rfl) (by simp)) (Bts.of_block (t := 5) (by rw [hb4, ← hbv]; rfl) (by simp))
        rw [decide_eq_true rfl] at h
        exact h
      clear hbt hAr hvl hrw hv2 hhc hv hbv hb4
      go_wp2_with (go_at_call 48; rw [← hW4]; refine hcs.mono ?_)
      rintro e w5 ⟨rfl, nd5, hw5⟩
      have k5 : Old W4 w5 := by rw [← hw5]; exact (Keeps.refl _ _).drewN _
      have HR := hid ((hold.out.trans' k4).trans' k5)
      clear hw5 hcs hW4 k4 k5 hcell b1 b2
      go_wp2
      exact ⟨⟨k + 1, by go_num, by omega, by omega, HR⟩, by simp [intOf]; omega⟩
    · obtain rfl : NA = k := by omega
      have i1 : ¬ ((NA : Nat) : Int) < (NA : Int) := by omega
      have HOL := hid (K3.trans' hold.out)
      clear hA3 hold K3 k2 k3 y1 y2
      go_wp2
      generalize wr = wl at *
      obtain ⟨hB, hP, hHR, h7, h8, hS, hT, hH0, hR0⟩ := HX.out
      obtain ⟨hHlt, hRl, hSl⟩ := HZ.out
      obtain ⟨l1, l2, l3, l4, l5, l6, l7⟩ := HLT.out
      obtain ⟨hP1, hH1, k1, hw1, hSk⟩ := HP1.out
      have hol := HOL.out
      have hzl := hol.size
      have hz1 := k1.size
      have hAl := (HA.out.keep (k1.mono fun i _ (h : go ≤ i) => (fun hh => by have := hHlt i hh; omega : ¬ H i))).keep (hol.old _)
      have hKR : Keeps (fun i => ¬ R i) w wl := ((hOA.old _).trans' (k1.mono fun i _ h hh => h (hHR i hh))).trans' (hol.old _)
      have hBl := hB.keep hKR
      obtain ⟨Rb, hRb⟩ : ∃ Rb : Nat → Prop, Rb = fun i => R i ∨ (w.heap.size ≤ i ∧ i < wl.heap.size) := ⟨_, rfl⟩
      rw [← hRb] at hBl
      have hRbR : ∀ i, R i → Rb i := fun i hi => by rw [hRb]; exact .inl hi
      have hRbn : ∀ i, w.heap.size ≤ i → i < wl.heap.size → Rb i := fun i h1 h2 => by rw [hRb]; exact .inr ⟨h1, h2⟩
      have hq0 : ∀ y ∈ q, b0 ≤ y.2 ∧ y.2 < wl.heap.size := fun y hy => ⟨hAl.rooms.new y hy, hAl.rooms.lt y hy⟩
      have hFg : ∀ i, i < b0 → w.heap.size ≤ i → i < wl.heap.size → Rb i ∧ ∀ y ∈ q, y.2 ≠ i := fun i h1 h2 h3 => ⟨hRbn i h2 h3, fun y hy e => by have := hq0 y hy; omega⟩
      have hFa : Rb ga ∧ ∀ y ∈ q, y.2 ≠ ga := by
        obtain ⟨vals, _, ⟨cur, hcu, _⟩, _⟩ := hAl.all
        refine ⟨hRbn ga (by omega) (lt_of_heap hcu), fun y hy e => ?_⟩
        obtain ⟨cur2, hcu2, _⟩ := hAl.rooms.row y hy
        rw [e, hcu] at hcu2
        injection hcu2 with hcu2
        injection hcu2 with _ h3 _
        exact absurd h3 (by decide)
      have hFR : ∀ i, (Value.slice AR many.length cR).ownBlock = some i → Rb i ∧ ∀ y ∈ q, y.2 ≠ i := fun i hi => ⟨hRbn i (by have := hAl.vrn i hi; omega) (own_lt hAl.vr hi), fun y hy e => by
        obtain ⟨cur2, hcu2, _⟩ := hAl.rooms.row y hy
        exact own_ne_heap hAl.vr hcu2 (by decide) (by rw [hi, e])⟩
      have hSR : ∀ i, S i → Rb i ∧ ∀ y ∈ q, y.2 ≠ i := fun i hi => ⟨hRbR i (hS i hi).1, fun y hy e => by have := hq0 y hy; have := hSl i hi; omega⟩
      have HS4 := hid (show InHand4 Rb pb N Z q 0 wl wl from ⟨by
        refine (hBl.less fun i hi => hi.1).more (by omega) (by omega), Keeps.refl _ _⟩)
      have HF := hid (And.intro hRbR (And.intro hRbn (And.intro hq0 (And.intro hFg (And.intro hFa (And.intro hFR (And.intro hSR hAl)))))))
      have HSW := hid (hSk.trans' (hol.old _))
      clear hB hP hHR h7 h8 hS hT hH0 hR0 hHlt hRl hSl hP1 hH1 k1 hSk hKR hBl hRbR hRbn hFg hFa hFR hSR hRb hol
      have hqm : q.length = many.length := hAl.len
      have HQM := hid hqm
      clear hAl hq0 hqm
      go_loopw [16] (fun v wr => ∃ k : Nat, v = .int .i64 k ∧ k ≤ many.length ∧ Hid (InHand4 Rb pb N Z q k wl wr)) (fun v _ => many.length - (intOf v).toNat)
      case atStart => exact ⟨0, rfl, Nat.zero_le _, HS4⟩
      case round =>
        clear HS4
        obtain ⟨k, rfl, hk, hin⟩ := hrel
        have i0 : (0 : Int) ≤ (k : Int) := by omega
        by_cases hlt : k < many.length
        · have i1 : (k : Int) < (many.length : Int) := by omega
          obtain ⟨hBk, hkk⟩ := hin.out
          obtain ⟨hRbR, hRbn, hq0, hFg, hFa, hFR, hSR, hAl⟩ := HF.out
          have hqk : k < q.length := by rw [HQM.out]; exact hlt
          have hT : ∀ i, (∀ y ∈ q, y.2 ≠ i) → ∀ y ∈ q.take k, y.2 ≠ i := fun i h y hy => h y (List.mem_of_mem_take hy)
          obtain ⟨gk, hgk⟩ : ∃ gk, gk = q[k].2 := ⟨_, rfl⟩
          have e1 : q[k].1 = many[k] := by
            have h3 : (q.map (·.1))[k]? = many[k]? := by rw [hAl.qe]
            rw [List.getElem?_map, List.getElem?_eq_getElem hqk, List.getElem?_eq_getElem hlt] at h3
            exact Option.some.inj h3
          obtain ⟨nk, hnk⟩ : ∃ nk, nk = many[k].length + 64 := ⟨_, rfl⟩
          have hmk := hall _ (List.getElem_mem hlt)
          have hRV : RV q[k] = .slice (some ⟨gk, 0, none⟩) nk nk := by unfold RV; rw [e1, ← hgk, ← hnk]
          have hXV : XV q[k] = .slice (some ⟨gk, 0, none⟩) many[k].length nk := by unfold XV; rw [e1, ← hgk, ← hnk]
          have hgkR : Rb gk ∧ ∀ y ∈ q.take k, y.2 ≠ gk := by
            rw [hgk]
            have h1 := hq0 _ (List.getElem_mem hqk)
            refine ⟨hRbn _ (by omega) h1.2, fun y hy => ?_⟩
            obtain ⟨j, hj, rfl⟩ := List.getElem_of_mem hy
            rw [List.length_take] at hj
            rw [List.getElem_take]
            exact List.pairwise_iff_getElem.1 hAl.rooms.dis j k (by omega) hqk (by omega)
          have hrk : Row1 wr 5 gk nk ((roomyB many[k]).map bv) := by
            have h := (hAl.rooms.row _ (List.getElem_mem hqk)).keep hkk (show Rb q[k].2 ∧ _ by rw [← hgk]; exact hgkR)
            rw [e1, ← hgk, ← hnk] at h
            exact h
          have hlgo : go < wl.heap.size ∧ gxo < wl.heap.size := ⟨lt_of_heap hAl.o, lt_of_heap hAl.x⟩
          have fgo := hFg go (by omega) l1 hlgo.1
          have fgx := hFg gxo (by omega) (by omega) hlgo.2
          have hgo := hkk.heap hAl.o ⟨fgo.1, hT go fgo.2⟩
          have hgx := hkk.heap hAl.x ⟨fgx.1, hT gxo fgx.2⟩
          have hvr := own_keeps hAl.vr hkk fun i hi => ⟨(hFR i hi).1, hT i (hFR i hi).2⟩
          obtain ⟨gR, cR2, hvv, _, _, hcl⟩ := own_cells hvr (by omega)
          injection hvv with hAR _ hcR
          subst hAR hcR
          have hrc : wr.cell? ⟨gR, k, none⟩ = some (.slice (some ⟨gk, 0, none⟩) nk nk) := by
            rw [hcl k (by omega), List.getElem?_map, List.getElem?_eq_getElem hqk, ← hRV]
            rfl
          have hall4 : wr.cell? ⟨ga, k, none⟩ = some (.slice (some ⟨gk, 0, none⟩) many[k].length nk) := by
            obtain ⟨vals, hvl, hrw, hv1, _⟩ := hAl.all
            rw [(hrw.keep hkk ⟨hFa.1, hT ga hFa.2⟩).cell (by have := HN.out.2; omega), hv1 k hqk, hXV]
          obtain ⟨b, off, Ak, ck, rfl, hSb, hcell, hck, hbk⟩ := (HX.out.2.2.2.2.1.keep (HSW.out.trans' (hkk.mono fun i _ hi => ⟨(hSR i hi).1, hT i (hSR i hi).2⟩))).at_ hlt
          have hca := fun (W : World) (hW : Old wr W) => roomy_any W S Ak ck many[k] (hbk.keep (hW.old _)) (by omega)
          unfold PostRoom at hca
          rw [← hnk] at hca
          have hcs := fun (W : World) S T A B c d (h1 : Bts S W A (roomyB many[k])) (h2 : Bts T W B (roomyB many[k])) => same_any W S T A B c d _ _ h1 h2
          simp only [roomyB_length, decide_true] at hcs
          rw [← hnk] at hcs
          have HC := hid (And.intro hca hcs)
          have HK := hid (And.intro hBk (And.intro hkk (And.intro hT (And.intro hrk (And.intro hgkR (And.intro hnk hgk))))))
          have hgk0 : wr.cell? ⟨gxo, 2, none⟩ = some (.slice (some ⟨ga, 0, none⟩) many.length NA) := cell_of_heap hgx
          clear hca hcs hBk hkk hT hrk hgkR hnk hgk e1 hRV hXV hbk hck hSb hRbR hRbn hq0 hFg hFa hFR hSR hAl fgo fgx hcl hvr hin hlgo
          go_upto_region 37 with fail
          refine wp_region_tree (fun w' => w'.heap[go]? = some (.cells #[.int .i64 kd, .slice A1 one.length c1, .slice (some ⟨b, off, none⟩) many.length d1, .int .i64 n] 54 (0, 0)) ∧ w'.cell? ⟨gR, k, none⟩ = some (.slice (some ⟨gk, 0, none⟩) nk nk) ∧ w'.cell? ⟨b, off + k, none⟩ = some (.slice Ak many[k].length ck)) 12
            ((.take 0 (.take 1 (.take 2 (.take 3 (.take 4 (.take 5 (.take 6 (.take 7 (.take 8 (.one 9 (.one 10 (.take 11 .tail))))))))))))) (by kernel_rfl) (by kernel_rfl) ⟨hgo, hrc, hcell⟩ ?_
          iterate 9 (refine pt_take (v := ?_) (by rfl) (by first | rfl | kernel_rfl) (fun w' hS => ?_) ?_; rotate_left 1; (obtain ⟨hS, t8, t9⟩ := hS; have t2 : w'.cell? ⟨go, 2, none⟩ = some (.slice (some ⟨b, off, none⟩) many.length d1) := cell_of_heap hS; clear hS; go_simp <;> (try with_reducible rfl)); (simp only [Act.put, List.setIfInBounds_toArray, List.set_cons_zero, List.set_cons_succ]))
          refine pt_one (by rfl) (loudly_of (by first | rfl | kernel_rfl) (fun K hK => ?_))
          have hc5 := HC.out.1 wr.drew ((Keeps.refl _ wr).drew)
          go_wp2_with fail
          refine hc5.mono ?_
          rintro e w4 ⟨rfl, hr4, k4'⟩
          have k4 : Old wr w4 := k4'.ofDrew
          clear hc5 k4'
          refine hK _ _ ⟨k4.heap hgo trivial, (k4.cell (lt_of_cell hrc) trivial).trans hrc, (k4.cell (lt_of_cell hcell) trivial).trans hcell⟩ ?_
          clear hK K
          refine pt_one (by rfl) (loudly_of (by first | rfl | kernel_rfl) (fun K hK => ?_))
          have hc6 := HC.out.2 w4 _ _ (some ⟨gk, 0, none⟩) (some ⟨wr.drew.heap.size, 0, none⟩) nk nk ((HK.out.2.2.2.1.keep k4 trivial).btsT (by omega)) (hr4.btsT (by omega))
          go_wp2_with fail
          refine hc6.mono ?_
          rintro e w5 ⟨rfl, nd5, hw5⟩
          have k5 : Old w4 w5 := by rw [← hw5]; exact (Keeps.refl _ _).drewN _
          have K5 := k4.trans' k5
          clear hc6 hw5 hr4
          refine hK _ _ ⟨K5.heap hgo trivial, (K5.cell (lt_of_cell hrc) trivial).trans hrc, (K5.cell (lt_of_cell hcell) trivial).trans hcell⟩ ?_
          clear hK K
          (refine pt_take (v := ?_) (by rfl) (by first | rfl | kernel_rfl) (fun w' hS => ?_) ?_; rotate_left 1; (obtain ⟨hS, t8, t9⟩ := hS; have t2 : w'.cell? ⟨go, 2, none⟩ = some (.slice (some ⟨b, off, none⟩) many.length d1) := cell_of_heap hS; clear hS; go_simp <;> (try with_reducible rfl)); (simp only [Act.put, List.setIfInBounds_toArray, List.set_cons_zero, List.set_cons_succ]))
          refine pt_tail (by rfl) ?_
          go_wp2
          refine NoPanic.normal ?_
          have g5 : w5.cell? ⟨gxo, 2, none⟩ = some (.slice (some ⟨ga, 0, none⟩) many.length NA) := (K5.cell (lt_of_cell hgk0) trivial).trans hgk0
          have g6 : w5.cell? ⟨ga, k, none⟩ = some (.slice (some ⟨gk, 0, none⟩) many[k].length nk) := (K5.cell (lt_of_cell hall4) trivial).trans hall4
          have iNA : (k : Int) < (many.length : Int) := i1
          obtain ⟨hBk, hkk, hT, hrk, hgkR, hnk, hgk⟩ := HK.out
          have hB5 := (hBk.keep (K5.old _)).less fun i hi => .inl hi
          have hsz : k * 1048976 ≤ 1048576 * 1048976 := Nat.mul_le_mul_right _ (by omega)
          have hk5 := keep_bk hB5 (by omega) (by omega) (lv := .slice (some ⟨gk, 0, none⟩) many[k].length nk) (n := many[k].length) (.inr ⟨gk, nk, rfl, by simpa using (hrk.keep K5 trivial).take 0, by omega, by unfold maxLen; omega, hgkR⟩) (by omega)
          clear hBk hkk hT hrk hgkR hnk hgk hB5 hgk0 hall4 hrc hcell hgo hgx
          go_wp2_with fail
          refine hk5.mono ?_
          rintro e w6 ⟨rfl, hB6, k6⟩
          clear hk5 g5 g6
          obtain ⟨hBk, hkk, hT, hrk, hgkR, hnk, hgk⟩ := HK.out
          have hqk : k < q.length := by rw [HQM.out]; exact hlt
          have hsub : ∀ i, (Rb i ∧ ∀ y ∈ q.take (k + 1), y.2 ≠ i) → (Rb i ∧ ∀ y ∈ q.take k, y.2 ≠ i) ∧ (Value.slice (some ⟨gk, 0, none⟩) many[k].length nk).ownBlock ≠ some i := fun i hi => ⟨⟨hi.1, fun y hy => hi.2 y (List.take_subset_take_left q (by omega) hy)⟩, fun e => by
            injection e with e
            have e' : gk = i := e
            refine hi.2 q[k] ?_ (by rw [← hgk]; exact e')
            rw [List.take_succ_eq_append_getElem hqk]
            exact List.mem_append_right _ (List.mem_singleton.2 rfl)⟩
          have HR := hid (show InHand4 Rb pb N Z q (k + 1) wl w6 from ⟨(hB6.less hsub).more (by omega) (by rw [Nat.add_mul]; omega), ((hkk.mono fun i _ hi => (hsub i hi).1).trans' (K5.old _)).trans' (k6.mono fun i _ hi => hsub i hi)⟩)
          clear hBk hkk hT hrk hgkR hnk hgk hB6 k6 hsub hsz
          go_wp2
          exact ⟨⟨k + 1, by go_num, by omega, HR⟩, by simp [intOf]; omega⟩
        · obtain rfl : k = many.length := by omega
          have i1 : ¬ ((many.length : Nat) : Int) < (many.length : Int) := by omega
          obtain ⟨hBk, hkk⟩ := hin.out
          obtain ⟨hRbR, hRbn, hq0, hFg, hFa, hFR, hSR, hAl⟩ := HF.out
          rw [show many.length = q.length from HQM.out.symm, List.take_length] at hBk hkk
          obtain ⟨hB, hP, hHR, h7, h8, hS, hT, hH0, hR0⟩ := HX.out
          obtain ⟨hHlt, hRl, hSl⟩ := HZ.out
          obtain ⟨l1, l2, l3, l4, l5, l6, l7⟩ := HLT.out
          obtain ⟨hP1, hH1, k1, hw1, hSk⟩ := HP1.out
          have hol := HOL.out
          have zol := hol.size
          have hkk0 := hkk.size
          have hlg : go < wl.heap.size ∧ gxo < wl.heap.size ∧ gr < wl.heap.size := ⟨lt_of_heap hAl.o, lt_of_heap hAl.x, hAl.r.lt⟩
          have fgo := hFg go (by omega) l1 hlg.1
          have fgx := hFg gxo (by omega) (by omega) hlg.2.1
          have fgr := hFg gr (by omega) (by omega) hlg.2.2
          have hqA : ∀ y ∈ q, b0 ≤ y.2 ∧ y.2 < wA.heap.size := fun y hy => ⟨HA.out.rooms.new y hy, HA.out.rooms.lt y hy⟩
          have hgrA : gr < wA.heap.size := HA.out.r.lt
          have hH1l : ∀ i, H1 i → i < w1.heap.size := hP1.2.1
          have hH1R : ∀ i, H1 i → (H i ∨ w.heap.size ≤ i) ∧ (Rb i ∧ ∀ y ∈ q, y.2 ≠ i) ∧ i ≠ gr := fun i hi => by
            have h5 := hH1l i hi
            rcases hH1 i hi with h | h
            · have h6 := hHlt i h
              exact ⟨.inl h, ⟨hRbR i (hHR i h), fun y hy e => by have := hqA y hy; omega⟩, by omega⟩
            · exact ⟨.inr (by omega), ⟨hRbn i (by omega) (by omega), fun y hy e => by have := hqA y hy; omega⟩, by omega⟩
          have hPr := (hP1.keep (hol.old _)).keep (hkk.mono fun i _ hi => (hH1R i hi).2.1)
          have hRH : ∀ i, R i ∧ ¬ H i → (Rb i ∧ ∀ y ∈ q, y.2 ≠ i) ∧ i ≠ gr := fun i hi => ⟨⟨hRbR i hi.1, fun y hy e => by have := hqA y hy; have := hRl i hi.1; omega⟩, by have := hRl i hi.1; omega⟩
          have hKw : Keeps (fun i => R i ∧ ¬ H i) w wr := (((hOA.old _).trans' (k1.mono fun i _ hi => hi.2)).trans' (hol.old _)).trans' (hkk.mono fun i _ hi => (hRH i hi).1)
          have hTr : Tab wr := hT.keep hKw ⟨hR0, hH0⟩
          have hgor := hkk.heap hAl.o fgo
          have hgxr := hkk.heap hAl.x fgx
          have hgrr := hAl.r.keep hkk fgr
          have y0 : wr.cell? ⟨go, 0, none⟩ = some (.int .i64 kd) := cell_of_heap hgor
          have y1 : wr.cell? ⟨go, 1, none⟩ = some (.slice A1 one.length c1) := cell_of_heap hgor
          have hpos := hT.pos
          have HE := hid (And.intro hBk (And.intro fgr (And.intro hH1R (And.intro hPr (And.intro hRH (And.intro hKw (And.intro hTr (And.intro hgxr (And.intro hgrr (And.intro hw1 (And.intro hpos (And.intro l1 l2))))))))))))
          clear hBk hkk hRbR hRbn hq0 hFg hFa hFR hSR hAl hB hP hHR h7 h8 hS hT hH0 hR0 hHlt hRl hSl l1 l2 l3 l4 l5 l6 l7 hP1 hH1 k1 hw1 hSk hol zol hkk0 hlg fgo fgx fgr hqA hgrA hH1l hH1R hPr hRH hKw hTr hgor hgxr hgrr hin
          go_upto_region 40 with fail
          go_cut [225] (fun v wx => ∃ t : Bool, v = .bool t ∧ (t = true ↔ kd = 1 ∧ 0 < one.length) ∧ wx = wr)
          case first =>
            by_cases h6 : kd = 1
            · subst h6
              by_cases hl : 0 < one.length
              · have hl2 : (one.length : Int) > 0 := by omega
                go_wp2
                go_meet
                exact ⟨true, by first | rfl | simp, by simp [hl], rfl⟩
              · have hl2 : ¬ (one.length : Int) > 0 := by omega
                go_wp2
                go_meet
                exact ⟨false, by first | rfl | simp, ⟨fun h => absurd h (by decide), fun h => absurd h.2 hl⟩, rfl⟩
            · have b6 : (kd == 1) = false := beq_eq_false_iff_ne.2 h6
              go_wp2
              go_meet
              exact ⟨false, by first | rfl | simp, by simp [h6], rfl⟩
          case rest =>
          obtain ⟨t, rfl, ht, rfl⟩ := hcut
          clear y0 y1
          go_upto_if 225 with fail
          go_cut [] (fun wx => Hid (InEnd R H pb N Z p o w gxo gr nr one many.length wx))
          case first =>
            cases t with
            | false =>
              have HR := hid (show InEnd R H pb N Z p o w gxo gr nr one many.length wc from by
                obtain ⟨hBk, fgr, hH1R, hPr, hRH, hKw, hTr, hgxr, hgrr, hw1, _⟩ := HE.out
                exact ⟨H1, o1, _, hPr, by omega, hH1R, hBk.more (Nat.le_of_eq (by rw [HQM.out])) (Nat.le_of_eq (by rw [HQM.out])), hRH, fgr, by simpa using hgrr.take 0, cell_of_heap hgxr, hKw⟩)
              go_wp2
              go_meet
              exact HR
            | true =>
              obtain ⟨rfl, hl⟩ := ht.1 rfl
              clear ht
              obtain ⟨hBk, fgr, hH1R, hPr, hRH, hKw, hTr, hgxr, hgrr, hw1, hpos, l1, l2⟩ := HE.out
              have hrl : 0 < (roomyB one).length := by rw [roomyB_length]; omega
              obtain ⟨b, hb⟩ : ∃ b, (roomyB one)[0]? = some b := ⟨_, List.getElem?_eq_getElem hrl⟩
              have hcb : wc.cell? ⟨gr, 0, none⟩ = some (bv b) := by rw [hgrr.cell (by rw [List.length_map]; exact hrl), List.getElem?_map, hb]; rfl
              have hxo : bits .xor .u8 (b.toNat : Int) 1 = ((b.toNat ^^^ 1 : Nat) : Int) := by
                have h := xor_u8 b 1
                rw [UInt8.toNat_xor] at h
                exact h
              have hbx : bv (b ^^^ 1) = .int .u8 ((b.toNat ^^^ 1 : Nat) : Int) := by
                show Value.int .u8 (((b ^^^ 1).toNat : Nat) : Int) = _
                rw [UInt8.toNat_xor]
                rfl
              obtain ⟨W5, hW5⟩ : ∃ W, W = (wc.setCell ⟨gr, 0, none⟩ (.int .u8 ((b.toNat ^^^ 1 : Nat) : Int))).drew := ⟨_, rfl⟩
              have k5 : Keeps (· ≠ gr) wc W5 := by rw [hW5]; exact ((Keeps.refl _ _).setCell (fun _ h => h rfl) _).drew
              have hr5 : Row1 W5 5 gr nr (((roomyB one).map bv).set 0 (bv (b ^^^ 1))) := by rw [hW5, ← hbx]; exact (hgrr.set 0 (bv (b ^^^ 1))).keep ((Keeps.refl (fun _ => True) _).drew) trivial
              rw [← List.map_set] at hr5
              obtain ⟨rec, hrec⟩ : ∃ rec, rec = ((roomyB one).set 0 (b ^^^ 1)).take one.length := ⟨_, rfl⟩
              have hrecl : rec.length = one.length := by rw [hrec, List.length_take, List.length_set, roomyB_length]; omega
              have hbt := hr5.bts (n := one.length) (by rw [List.length_set, roomyB_length]; omega) (by have := HO.out; omega)
              rw [← hrec] at hbt
              have hf := hgrr.frozen
              have hgx5 := k5.heap hgxr (by have := HLT.out; show gxo ≠ gr; omega)
              have x0 : W5.cell? ⟨gxo, 0, none⟩ = some (.int .i64 1) := cell_of_heap hgx5
              have x1 : W5.cell? ⟨gxo, 1, none⟩ = some (.slice (some ⟨gr, 0, none⟩) one.length nr) := cell_of_heap hgx5
              have x2 : W5.cell? ⟨gxo, 2, none⟩ = some (.slice (some ⟨ga, 0, none⟩) many.length NA) := cell_of_heap hgx5
              have x3 : W5.cell? ⟨gxo, 3, none⟩ = some (.int .i64 n) := cell_of_heap hgx5
              have hPr5 := hPr.keep (k5.mono fun i _ hi => (hH1R i hi).2.2)
              have hH10 : ¬ H1 0 := fun h => by
                rcases (hH1R 0 h).1 with h'' | h''
                · exact HX.out.2.2.2.2.2.2.2.1 h''
                · omega
              have hp1 := plays1_any W5 H1 (fun i => i = gr) p o1 n (some ⟨gr, 0, none⟩) (some ⟨ga, 0, none⟩) nr NA many.length rec hPr5 hbt (fun i hi => by
                obtain rfl : i = gr := hi
                exact ⟨hr5.lt, fun h => (hH1R _ h).2.2 rfl⟩) (hTr.keep k5 (by show (0 : Nat) ≠ gr; omega)) hH10 (by omega)
              rw [hrecl] at hp1
              have hl3 : (0 : Int) < (one.length : Int) := by omega
              have hl4 : (0 : Int) < (nr : Int) := by have := HN.out; omega
              have HP5 := hid (And.intro k5 (And.intro hr5 hgx5))
              clear hBk fgr hH1R hPr hRH hKw hTr hgrr hw1 hpos l1 l2 hrl hb hr5 hrec hrecl hbt hPr5 k5
              go_upto_region 41 with fail
              refine wp_region_tree (fun w' => w'.heap[gxo]? = some (.cells #[.int .i64 1, .slice (some ⟨gr, 0, none⟩) one.length nr, .slice (some ⟨ga, 0, none⟩) many.length NA, .int .i64 n] 54 (0, 0)) ∧ w'.cell? ⟨gr, 0, none⟩ = some (bv b)) 8
                ((.take 0 (.take 1 (.take 2 (.take 3 (.take 4 (.take 5 (.take 6 (.take 7 .tail))))))))) (by kernel_rfl) (by kernel_rfl) ⟨hgxr, hcb⟩ ?_
              iterate 8 (refine pt_take (v := ?_) (by rfl) (by first | rfl | kernel_rfl) (fun w' hS => ?_) ?_; rotate_left 1; (obtain ⟨hS, t9⟩ := hS; have t1 : w'.cell? ⟨gxo, 1, none⟩ = some (.slice (some ⟨gr, 0, none⟩) one.length nr) := cell_of_heap hS; clear hS; go_simp <;> (try with_reducible rfl)); (simp only [Act.put, List.setIfInBounds_toArray, List.set_cons_zero, List.set_cons_succ]))
              refine pt_tail (by rfl) ?_
              go_wp2
              refine NoPanic.normal ?_
              rw [← hW5]
              clear hW5 hcb hbx hf hxo
              go_wp2_with fail
              refine hp1.mono ?_
              rintro e w6 hpo
              obtain rfl := hpo.1
              obtain ⟨_, H2, o2, hP2, hH2, k6, hw2⟩ := hpo
              have HR := hid (show InEnd R H pb N Z p o w gxo gr nr one many.length w6 from by
                obtain ⟨hBk, fgr, hH1R, hPr, hRH, hKw, hTr, hgxr, hgrr, hw1, hpos, l1, l2⟩ := HE.out
                obtain ⟨k5, hr5, hgx5⟩ := HP5.out
                obtain ⟨m1, m2, m3, m4, m5, m6, m7⟩ := HLT.out
                have z5 := k5.size
                have z6 := k6.size
                have zKw := hKw.size
                have hKr : Keeps (fun i => ¬ (Rb i ∧ ∀ y ∈ q, y.2 ≠ i)) wc w6 := (k5.mono fun i _ h e => h (by rw [e]; exact fgr)).trans' (k6.mono fun i _ h hh => h (hH1R i hh).2.1)
                have hng : ¬ H1 gr := fun h => (hH1R gr h).2.2 rfl
                have hngx : ¬ H1 gxo := fun h => by
                  have q1 := lt_of_heap HA.out.x
                  rcases HP1.out.2.1 gxo h with h' | h'
                  · have := HZ.out.1 gxo h'; omega
                  · omega
                refine ⟨H2, o2, _, hP2, by omega, fun i hi => ?_, (hBk.keep hKr).more (Nat.le_of_eq (by rw [HQM.out])) (Nat.le_of_eq (by rw [HQM.out])), fun i hi => ⟨.inl (hRH i hi).1, (hRH i hi).2⟩, .inl fgr, by simpa using (hr5.keep k6 hng).take 0, cell_of_heap (k6.heap hgx5 hngx), (hKw.trans' (k5.mono fun i _ hi => (hRH i hi).2)).trans k6 fun i hiw hi h => ?_⟩
                · rcases hH2 i hi with h | h
                  · exact ⟨(hH1R i h).1, .inl (hH1R i h).2.1, (hH1R i h).2.2⟩
                  · have := hP2.2.1 i hi
                    have := lt_of_heap hgx5
                    exact ⟨.inr (by omega), .inr ⟨by omega, by omega⟩, by have := hr5.lt; omega⟩
                · rcases (hH1R i h).1 with h' | h'
                  · exact hi.2 h'
                  · omega)
              clear hP2 hH2 k6 hw2 hp1 x0 x1 x2 x3 hgx5 hgxr
              go_wp2
              go_meet
              exact HR
          case rest =>
          obtain ⟨H2, o2, Re, hP2, hw2, hH2, hB2, hRe, hgr2, hr2, hx2, hK2⟩ := hcut.out
          clear hcut HE ht
          have hsz : many.length * 1048976 ≤ 1048576 * 1048976 := Nat.mul_le_mul_right _ hmany
          have hk5 := keep_bk hB2 (by omega) (by omega) (lv := .slice (some ⟨gr, 0, none⟩) one.length nr) (n := one.length) (.inr ⟨gr, nr, rfl, hr2, by have := HN.out; omega, by have := HN.out; have := HO.out; unfold maxLen; omega, hgr2⟩) (by have := HO.out; omega)
          have HE2 := hid (And.intro hP2 (And.intro hw2 (And.intro hH2 (And.intro hRe (And.intro hK2 hsz)))))
          clear hP2 hw2 hH2 hB2 hRe hgr2 hr2 hK2 hsz
          go_wp2_with fail
          refine hk5.mono ?_
          rintro e w7 ⟨rfl, hB7, k7⟩
          clear hk5 hx2
          have HR := hid (show PostHand R H pb N Z p o w (.returned (.bool true)) w7 from by
            obtain ⟨hP2, hw2, hH2, hRe, hK2, hsz⟩ := HE2.out
            have hsub : ∀ i, Re i ∧ i ≠ gr → Re i ∧ (Value.slice (some ⟨gr, 0, none⟩) one.length nr).ownBlock ≠ some i := fun i hi => ⟨hi.1, fun e => by injection e with e; exact hi.2 e.symm⟩
            refine ⟨rfl, H2, o2, hP2.keep (k7.mono fun i _ hi => hsub i (hH2 i hi).2), hw2, fun i hi => (hH2 i hi).1, (hB7.less fun i hi => ?_).more (by omega) (by have := HO.out; omega), hK2.trans' (k7.mono fun i _ hi => hsub i (hRe i hi))⟩
            rcases hi with hi | hi
            · exact hsub i (hRe i hi)
            · exact hsub i (hH2 i hi).2)
          clear hB7 k7
          go_wp2
          go_ret
          exact HR.out
end Go.Proofs.YtdpaaoeipconcaaDoor
