/- weftlaw12.Pair.handed from the crash on: a crash, a reopening, any other step. Conditions: as for handed. -/
import Derived.Test.YtdpaaoeipconcaaDoorJHand25
namespace Go.Proofs.YtdpaaoeipconcaaDoor
open Go.RowKit

/-- What a Crash left, in a cell. -/
def CrashAt (w : World) (d : Dk) (v : Value) (wx : World) : Prop := ∃ gd vA vB, v = .pointer (some ⟨gd, 0, none⟩) ∧ w.heap.size ≤ gd ∧ wx.heap[gd]? = some (.cells #[vA, vB] 24 (0, 0)) ∧ OwnB (fun k => w.heap.size ≤ k) wx vA d.1 ∧ OwnB (fun k => w.heap.size ≤ k) wx vB d.2 ∧ (∀ k, vA.ownBlock = some k → vB.ownBlock ≠ some k) ∧ Old w wx

theorem CrashAt.mk {w w2 : World} {gd : Nat} {a b vA vB : Value} {d : Dk} (hg : w2.heap[gd]? = some (.cells #[a, b] 24 (0, 0))) (hgd : w.heap.size ≤ gd) (hA : OwnB (fun k => w.heap.size ≤ k) w2 vA d.1) (hB : OwnB (fun k => w.heap.size ≤ k) w2 vB d.2) (hAB : ∀ k, vA.ownBlock = some k → vB.ownBlock ≠ some k) (hk : Old w w2) :
    CrashAt w d (.pointer (some ⟨gd, 0, none⟩)) ((w2.setCell ⟨gd, 0, none⟩ vA).setCell ⟨gd, 1, none⟩ vB) := by
  have KS : Keeps (· ≠ gd) w2 ((w2.setCell ⟨gd, 0, none⟩ vA).setCell ⟨gd, 1, none⟩ vB) := ((Keeps.refl _ _).setCell (fun _ h => h rfl) _).setCell (fun _ h => h rfl) _
  refine ⟨gd, vA, vB, rfl, hgd, ?_, ⟨own_keeps hA.row KS (fun i hi e => own_ne_heap hA.row hg (by decide) (by rw [hi, e])), hA.foot, hA.len⟩, ⟨own_keeps hB.row KS (fun i hi e => own_ne_heap hB.row hg (by decide) (by rw [hi, e])), hB.foot, hB.len⟩, hAB, hk.trans KS fun i hi _ => by show i ≠ gd; omega⟩
  rw [heap_setCell (heap_setCell hg _)]
  rfl

set_option maxRecDepth 10000 in
set_option maxHeartbeats 32000000 in
theorem handed_18 (w wA : World) (R H S : Nat → Prop) (pb N Z p : Nat) (o : Option Jn) (kd n : Int) (A1 B1 : Option Addr) (c1 d1 : Nat) (one : List UInt8) (many : List (List UInt8)) (hB : Bk R pb N Z w) (hP : PairAt H w p o) (hHR : ∀ k, H k → R k) (h7 : Bts S w A1 one) (h8 : Rcs S w B1 many) (hS : ∀ k, S k → R k ∧ ¬ H k)
    (hn0 : -9223372036854775808 ≤ n) (hn1 : n < 9223372036854775808) (hT : Tab w) (hH0 : ¬ H 0) (hR0 : R 0) (hw : wsN o ≤ 100000000) (hN : N ≤ 1900000000000) (hZ : Z ≤ 1900000000000000000) (hone : one.length ≤ 1048576) (hmany : many.length ≤ 1048576) (hall : ∀ r ∈ many, r.length ≤ 1048576)
    (b0 go gxo gr ga nr NA cR : Nat) (AR : Option Addr) (q : List (List UInt8 × Nat)) (hA : HandA b0 go gxo gr ga nr NA kd n (.slice A1 one.length c1) (.slice B1 many.length d1) one many (.slice AR many.length cR) q wA) (hOA : Old w wA) (hgo : w.heap.size ≤ go) (hnr : nr = one.length + 64) (hNA : NA = many.length + 70)
    (c : Code) (hc : c = rest51 8) (v1 v3 v5 v6 v10 v11 v13 v14 v15 v16 u17 u18 u19 u20 u21 u22 u23 u24 u25 u26 u27 u28 u29 u30 u31 u32 u33 u34 u35 u36 u37 u38 u39 u40 u41 u42 u43 u44 u45 u46 u47 u48 u49 u50 u51 u52 u53 u54 u55 u56 u57 u58 u59 u60 u61 u62 u63 u64 u65 u66 u67 u68 u69 u70 u71 u72 u73 u74 u75 u76 u77 u78 u79 u80 u81 u82 u83 u84 u85 u86 u87 u88 u89 u90 u91 u92 u93 u94 u95 u96 u97 u98 u99 u100 u101 u102 u103 u104 u105 u106 u107 u108 u109 u110 u111 u112 u113 u114 u115 u116 u117 u118 u119 u120 u121 u122 u123 u124 u125 u126 u127 u128 u129 u130 u131 u132 u133 u134 u135 u136 u137 u138 u139 u140 u141 u142 u143 u144 u145 u146 u147 u148 u149 u150 u151 u152 u153 u154 u155 u156 u157 u158 u159 u160 u161 u162 u163 u164 u165 u166 u167 u168 u169 u170 u171 u172 u173 u174 u175 u176 u177 u178 u179 u180 u181 u182 u183 u184 u185 u186 u187 u188 u189 u190 u191 u192 u193 u194 u195 u196 u197 u198 u199 u200 u201 u202 u203 u204 u205 u206 u207 u208 u209 u210 u211 u212 u213 u214 u215 u216 u217 u218 u219 u220 u221 u222 u223 u224 u225 u226 u227 u228 u229 u230 u231 u232 u233 u234 u235 u236 u237 u238 u239 u240 u241 : Value) :
    c.wp Tryd.prog (bodyPost Tryd.prog Tryd.f51 (PostHand R H pb N Z p o w)) ⟨#[.pointer (some ⟨p, 0, none⟩), v1, .pointer (some ⟨pb, 0, none⟩), v3, .pointer (some ⟨go, 0, none⟩), v5, v6, .slice (some ⟨gr, 0, none⟩) nr nr, .pointer (some ⟨gxo, 0, none⟩), .slice AR many.length cR, v10, v11, .slice (some ⟨ga, 0, none⟩) NA NA, v13, v14, v15, v16, u17, u18, u19, u20, u21, u22, u23, u24, u25, u26, u27, u28, u29, u30, u31, u32, u33, u34, u35, u36, u37, u38, u39, u40, u41, u42, u43, u44, u45, u46, u47, u48, u49, u50, u51, u52, u53, u54, u55, u56, u57, u58, u59, u60, u61, u62, u63, u64, u65, u66, u67, u68, u69, u70, u71, u72, u73, u74, u75, u76, u77, u78, u79, u80, u81, u82, u83, u84, u85, u86, u87, u88, u89, u90, u91, u92, u93, u94, u95, u96, u97, u98, u99, u100, u101, u102, u103, u104, u105, u106, u107, u108, u109, u110, u111, u112, u113, u114, u115, u116, u117, u118, u119, u120, u121, u122, u123, u124, u125, u126, u127, u128, u129, u130, u131, u132, u133, u134, u135, u136, u137, u138, u139, u140, u141, u142, u143, u144, u145, u146, u147, u148, u149, u150, u151, u152, u153, u154, u155, u156, u157, u158, u159, u160, u161, u162, u163, u164, u165, u166, u167, u168, u169, u170, u171, u172, u173, u174, u175, u176, u177, u178, u179, u180, u181, u182, u183, u184, u185, u186, u187, u188, u189, u190, u191, u192, u193, u194, u195, u196, u197, u198, u199, u200, u201, u202, u203, u204, u205, u206, u207, u208, u209, u210, u211, u212, u213, u214, u215, u216, u217, u218, u219, u220, u221, u222, u223, u224, u225, u226, u227, u228, u229, u230, u231, u232, u233, u234, u235, u236, u237, u238, u239, u240, u241], []⟩ wA := by
  unfold rest51 Tryd.f51 at hc
  dsimp only [dropSeq, Option.getD] at hc
  subst hc
  have hPA := hP.keep (hOA.old H)
  have y0 : wA.cell? ⟨go, 0, none⟩ = some (.int .i64 kd) := cell_of_heap hA.o
  have HX := hid (And.intro hB (And.intro hP (And.intro hHR (And.intro h7 (And.intro h8 (And.intro hS (And.intro hT (And.intro hH0 hR0))))))))
  have HA := hid hA
  have HPA := hid hPA
  have HN := hid (And.intro hnr hNA)
  clear hB hP hHR h7 h8 hS hT hH0 hR0 hA hPA hnr hNA
  dsimp only
  go_upto_region 18 with fail
  go_cut [113] (fun v wx => ∃ t : Bool, v = .bool t ∧ (t = true ↔ kd = 6 ∧ o.isSome = true) ∧ wx = wA)
  case first =>
    by_cases h6 : kd = 6
    · subst h6
      cases o with
      | none =>
        have q0 : wA.cell? ⟨p, 0, none⟩ = some (.pointer none) := cell_of_heap HPA.out.2.2
        go_wp2
        go_meet
        exact ⟨false, by first | rfl | simp, by simp, rfl⟩
      | some j =>
        obtain ⟨_, _, F, G, gl, gm, vA, vB, vP, qq, vA', vB', vP', qq', hp, _⟩ := HPA.out
        have q0 : wA.cell? ⟨p, 0, none⟩ = some (.pointer (some ⟨gl, 0, none⟩)) := cell_of_heap hp
        have q1 : wA.cell? ⟨p, 1, none⟩ = some (.pointer (some ⟨gm, 0, none⟩)) := cell_of_heap hp
        clear hp
        go_wp2
        go_meet
        exact ⟨true, by first | rfl | simp, by simp, rfl⟩
    · have b6 : (kd == 6) = false := beq_eq_false_iff_ne.2 h6
      go_wp2
      go_meet
      exact ⟨false, by first | rfl | simp, by simp [h6], rfl⟩
  case rest =>
  obtain ⟨t, rfl, ht, rfl⟩ := hcut
  cases t with
  | true =>
    obtain ⟨rfl, ho⟩ := ht.1 rfl
    obtain ⟨j, rfl⟩ := Option.isSome_iff_exists.1 ho
    clear ht ho y0
    obtain ⟨hB, hP, hHR, h7, h8, hS, hT, hH0, hR0⟩ := HX.out
    have hPA := HPA.out
    have hA := HA.out
    have hzA := hOA.size
    have hgoA := hA.o
    obtain ⟨hHp, hHlt, F, G, gl, gm, vA, vB, vP, qq, vA', vB', vP', qq', hp, hL, hR, _, hF, hG⟩ := hPA
    have hHlt0 := hP.2.1
    have hlen := crashJ_len hL.good n
    have hcl := fun (W : World) (hW : Old wc W) => lcrash_any W F gl vA vB vP qq j n (hL.keep (hW.old _)) hn0 hn1 (by have h : j.ws.length ≤ 100000000 := hw; omega) hlen
    have hcr := fun (W : World) (hW : Old wc W) => rcrash_any W G gm vA' vB' vP' qq' j n (hR.keep (hW.old _)) hn0 hn1 (by have h : j.ws.length ≤ 100000000 := hw; omega)
    generalize crashJ j n = D at *
    obtain ⟨xs, ys⟩ := D
    simp only at hlen
    obtain ⟨hlx, hly⟩ := hlen
    have HCL := hid hcl
    have HCR := hid hcr
    have HH := hid (And.intro hHlt0 (And.intro hzA hp))
    clear hB hP hHR h7 h8 hS hT hH0 hR0 hA hHp hHlt hL hR hF hG hcl hcr hHlt0 hzA
    go_upto_region 19 with fail
    go_cut [14] (fun v wx => Hid (CrashAt wc (xs, ys) v wx))
    case first =>
      refine wp_region_tree (fun w' => w'.heap[p]? = some (.cells #[.pointer (some ⟨gl, 0, none⟩), .pointer (some ⟨gm, 0, none⟩)] 29 (0, 0)) ∧ w'.heap[go]? = some (.cells #[.int .i64 6, .slice A1 one.length c1, .slice B1 many.length d1, .int .i64 n] 54 (0, 0))) 8
        (.take 0 (.take 1 (.take 2 (.take 3 (.take 4 (.take 5 (.two 6 7 (.one 7 .tail) (.one 6 .tail)))))))) (by kernel_rfl) (by kernel_rfl) ⟨hp, hgoA⟩ ?_
      iterate 6 (refine pt_take (v := ?_) (by rfl) (by first | rfl | kernel_rfl) (fun w' hS => ?_) ?_; rotate_left 1; (obtain ⟨hS, hS2⟩ := hS; have s0 : w'.cell? ⟨p, 0, none⟩ = some (.pointer (some ⟨gl, 0, none⟩)) := cell_of_heap hS; have s1 : w'.cell? ⟨p, 1, none⟩ = some (.pointer (some ⟨gm, 0, none⟩)) := cell_of_heap hS; have t3 : w'.cell? ⟨go, 3, none⟩ = some (.int .i64 n) := cell_of_heap hS2; clear hS hS2; go_simp <;> (try with_reducible rfl)); (simp only [Act.put, List.setIfInBounds_toArray, List.set_cons_zero, List.set_cons_succ]))
      refine pt_two (by rfl) (by rfl) (loudly_of (by rfl) (fun K hK => ?_)) (loudly_of (by rfl) (fun K hK => ?_))
      · have hca := HCL.out wc.drew ((Keeps.refl _ wc).drew)
        go_wp2_with fail
        refine hca.mono ?_
        rintro e w1 ⟨vA, vB, rfl, hA, hB, hAB, k1'⟩
        clear hca
        obtain ⟨Aa, ca, rfl, _, _⟩ := hA.slice
        obtain ⟨Ba, cb, rfl, _, _⟩ := hB.slice
        have kk : Old wc w1 := k1'.ofDrew
        refine hK _ _ ⟨kk.heap hp trivial, kk.heap hgoA trivial⟩ ?_
        clear hK K
        refine pt_one (by rfl) (loudly_of (by first | rfl | kernel_rfl) (fun K hK => ?_))
        obtain ⟨gd, hgd⟩ : ∃ gd, gd = w1.heap.size := ⟨_, rfl⟩
        obtain ⟨W2, hW2⟩ : ∃ W, W = w1.alloc (.cells #[.slice none 0 0, .slice none 0 0] 24) := ⟨_, rfl⟩
        have hd2 : W2.heap[gd]? = some (.cells #[.slice none 0 0, .slice none 0 0] 24 (0, 0)) := by rw [hW2, hgd]; exact heap_alloc_new _ _
        have k2 : Old w1 W2 := by rw [hW2]; exact (Keeps.refl _ _).alloc _
        have zk := kk.size
        go_wp2
        rw [← hW2, ← hgd]
        have kk0 := kk
        have kk := kk0.trans' k2
        refine hK _ _ ⟨kk.heap hp trivial, kk.heap hgoA trivial⟩ ?_
        clear hK K hW2
        have HR := hid (CrashAt.mk (d := (xs, ys)) hd2 (show wc.heap.size ≤ gd by omega) (hA.keep (k2.old _)) (hB.keep (k2.old _)) hAB kk)
        have d0 : W2.cell? ⟨gd, 0, none⟩ = some (.slice none 0 0) := cell_of_heap hd2
        have d1 : W2.cell? ⟨gd, 1, none⟩ = some (.slice none 0 0) := cell_of_heap hd2
        have df : ∀ i, W2.frozen? ⟨gd, i, none⟩ = false := fun i => frozen_of_heap hd2
        clear hgd hA hB hAB kk kk0 k2 k1'
        refine pt_tail (by rfl) ?_
        go_wp2
        refine NoPanic.normal ?_
        go_wp2
        go_meet
        exact HR
      · obtain ⟨gd, hgd⟩ : ∃ gd, gd = wc.heap.size := ⟨_, rfl⟩
        obtain ⟨W2, hW2⟩ : ∃ W, W = (wc.alloc (.cells #[.slice none 0 0, .slice none 0 0] 24)).drew := ⟨_, rfl⟩
        have hd2 : W2.heap[gd]? = some (.cells #[.slice none 0 0, .slice none 0 0] 24 (0, 0)) := by rw [hW2, hgd]; exact heap_alloc_new _ _
        have kk : Old wc W2 := by rw [hW2]; exact ((Keeps.refl _ _).alloc _).drew
        go_wp2
        rw [← hW2, ← hgd]
        have zk := kk.size
        refine hK _ _ ⟨kk.heap hp trivial, kk.heap hgoA trivial⟩ ?_
        clear hK K hW2
        refine pt_one (by rfl) (loudly_of (by first | rfl | kernel_rfl) (fun K hK => ?_))
        have hca := HCL.out W2 kk
        have HGD := hid hgd
        clear hgd
        go_wp2_with fail
        refine hca.mono ?_
        rintro e w1 ⟨vA, vB, rfl, hA, hB, hAB, k1⟩
        clear hca
        obtain ⟨Aa, ca, rfl, _, _⟩ := hA.slice
        obtain ⟨Ba, cb, rfl, _, _⟩ := hB.slice
        have kk0 := kk
        have kk := kk0.trans' k1
        have hd3 := k1.heap hd2 trivial
        refine hK _ _ ⟨kk.heap hp trivial, kk.heap hgoA trivial⟩ ?_
        clear hK K
        have HR := hid (CrashAt.mk (d := (xs, ys)) hd3 (show wc.heap.size ≤ gd by have := HGD.out; omega) (hA.mono fun k _ (h : W2.heap.size ≤ k) => (by omega : wc.heap.size ≤ k)) (hB.mono fun k _ (h : W2.heap.size ≤ k) => (by omega : wc.heap.size ≤ k)) hAB kk)
        have d0 : w1.cell? ⟨gd, 0, none⟩ = some (.slice none 0 0) := cell_of_heap hd3
        have d1 : w1.cell? ⟨gd, 1, none⟩ = some (.slice none 0 0) := cell_of_heap hd3
        have df : ∀ i, w1.frozen? ⟨gd, i, none⟩ = false := fun i => frozen_of_heap hd3
        clear hA hB hAB kk kk0 k1
        refine pt_tail (by rfl) ?_
        go_wp2
        refine NoPanic.normal ?_
        go_wp2
        go_meet
        exact HR
    case rest =>
    obtain ⟨gd, vA, vB, rfl, hgd, hgd2, hA, hB, hAB, k1⟩ := hcut.out
    clear hcut
    obtain ⟨Aa, ca, rfl, _, _⟩ := hA.slice
    obtain ⟨Ba, cb, rfl, _, _⟩ := hB.slice
    simp only at hgd2 hA hB
    have hp2 := k1.heap HH.out.2.2 trivial
    have hgo2 := k1.heap hgoA trivial
    have HAB := hid (And.intro hA (And.intro hB (And.intro hAB (And.intro hgd k1))))
    clear hA hB hAB hgd
    go_upto_region 20 with fail
    refine wp_region_tree (fun w' => w'.heap[p]? = some (.cells #[.pointer (some ⟨gl, 0, none⟩), .pointer (some ⟨gm, 0, none⟩)] 29 (0, 0)) ∧ w'.heap[go]? = some (.cells #[.int .i64 6, .slice A1 one.length c1, .slice B1 many.length d1, .int .i64 n] 54 (0, 0)) ∧ w'.heap[gd]? = some (.cells #[.slice Aa xs.length ca, .slice Ba ys.length cb] 24 (0, 0))) 10
      ((.take 0 (.take 1 (.take 2 (.take 3 (.take 4 (.take 5 (.take 6 (.one 7 (.one 8 (.take 9 .tail))))))))))) (by kernel_rfl) (by kernel_rfl) ⟨hp2, hgo2, hgd2⟩ ?_
    iterate 7 (refine pt_take (v := ?_) (by rfl) (by first | rfl | kernel_rfl) (fun w' hS => ?_) ?_; rotate_left 1; (obtain ⟨hS, hS2, hS3⟩ := hS; have s0 : w'.cell? ⟨p, 0, none⟩ = some (.pointer (some ⟨gl, 0, none⟩)) := cell_of_heap hS; have s1 : w'.cell? ⟨p, 1, none⟩ = some (.pointer (some ⟨gm, 0, none⟩)) := cell_of_heap hS; have t3 : w'.cell? ⟨go, 3, none⟩ = some (.int .i64 n) := cell_of_heap hS2; have d0 : w'.cell? ⟨gd, 0, none⟩ = some (.slice Aa xs.length ca) := cell_of_heap hS3; have d1 : w'.cell? ⟨gd, 1, none⟩ = some (.slice Ba ys.length cb) := cell_of_heap hS3; clear hS hS2 hS3; go_simp <;> (try with_reducible rfl)); (simp only [Act.put, List.setIfInBounds_toArray, List.set_cons_zero, List.set_cons_succ]))
    refine pt_one (by rfl) (loudly_of (by first | rfl | kernel_rfl) (fun K hK => ?_))
    have hc5 := HCR.out wc.drew (k1.drew)
    go_wp2_with fail
    refine hc5.mono ?_
    rintro e w4 ⟨vA4, vB4, rfl, hA4, hB4, _, k4'⟩
    clear hc5
    have k4 : Old wc w4 := k4'.ofDrew
    simp only at hA4 hB4
    obtain ⟨A4, ca4, rfl, _, _⟩ := hA4.slice
    obtain ⟨B4, cb4, rfl, _, _⟩ := hB4.slice
    refine hK _ _ ⟨k4.heap hp2 trivial, k4.heap hgo2 trivial, k4.heap hgd2 trivial⟩ ?_
    clear hK K k4'
    refine pt_one (by rfl) (loudly_of (by first | rfl | kernel_rfl) (fun K hK => ?_))
    have hc6 := disks_any w4 (fun _ => True) (fun _ => True) Aa Ba A4 B4 _ _ _ _ ca cb ca4 cb4 xs ys xs ys ((HAB.out.1.bts.mono' fun _ _ => trivial).keep (k4.old _)) ((HAB.out.2.1.bts.mono' fun _ _ => trivial).keep (k4.old _)) (hA4.bts.mono' fun _ _ => trivial) (hB4.bts.mono' fun _ _ => trivial) rfl rfl rfl rfl
    rw [decide_eq_true rfl] at hc6
    go_wp2_with fail
    refine hc6.mono ?_
    rintro e w5 ⟨rfl, k5⟩
    clear hc6 hA4 hB4
    have K5 := k4.trans' k5
    refine hK _ _ ⟨K5.heap hp2 trivial, K5.heap hgo2 trivial, K5.heap hgd2 trivial⟩ ?_
    clear hK K
    (refine pt_take (v := ?_) (by rfl) (by first | rfl | kernel_rfl) (fun w' hS => ?_) ?_; rotate_left 1; (obtain ⟨hS, hS2, hS3⟩ := hS; have s0 : w'.cell? ⟨p, 0, none⟩ = some (.pointer (some ⟨gl, 0, none⟩)) := cell_of_heap hS; have s1 : w'.cell? ⟨p, 1, none⟩ = some (.pointer (some ⟨gm, 0, none⟩)) := cell_of_heap hS; have t3 : w'.cell? ⟨go, 3, none⟩ = some (.int .i64 n) := cell_of_heap hS2; have d0 : w'.cell? ⟨gd, 0, none⟩ = some (.slice Aa xs.length ca) := cell_of_heap hS3; have d1 : w'.cell? ⟨gd, 1, none⟩ = some (.slice Ba ys.length cb) := cell_of_heap hS3; clear hS hS2 hS3; go_simp <;> (try with_reducible rfl)); (simp only [Act.put, List.setIfInBounds_toArray, List.set_cons_zero, List.set_cons_succ]))
    refine pt_tail (by rfl) ?_
    go_wp2
    refine NoPanic.normal ?_
    have hgd5 := K5.heap hgd2 trivial
    have g0 : w5.cell? ⟨gd, 0, none⟩ = some (.slice Aa xs.length ca) := cell_of_heap hgd5
    obtain ⟨hA, hB2, hAB, hgd, k1⟩ := HAB.out
    have hO5 : Old w w5 := (hOA.trans' k1).trans' K5
    have hBk := HX.out.1.keep (hO5.old _)
    have z5 := hO5.size
    have hA5 := hA.keep (K5.old _)
    have hB5 := hB2.keep (K5.old _)
    have hgdA : ∀ k, (Value.slice Aa xs.length ca).ownBlock = some k → k ≠ gd := fun k hk e => own_ne_heap hA5.row hgd5 (by decide) (by rw [hk, e])
    have hgdB : ∀ k, (Value.slice Ba ys.length cb).ownBlock = some k → k ≠ gd := fun k hk e => own_ne_heap hB5.row hgd5 (by decide) (by rw [hk, e])
    have hzA := HH.out.2.1
    have hk6 := keep_bk hBk (by omega) (by omega) (KeepR.ofOwn hA5.own_ fun k hk => .inr ⟨by have h : _ ≤ k := hA.foot k hk; omega, own_lt hA5.row hk⟩) (by omega)
    have HB5 := hid (And.intro hA5 (And.intro hB5 (And.intro hgdA (And.intro hgdB (And.intro hAB (And.intro hO5 hgd))))))
    clear hA hB2 hAB hgd k1 hO5 hBk hA5 hB5 hgdA hgdB K5 k4 k5 hp2 hgo2 hgd2
    go_wp2_with fail
    refine hk6.mono ?_
    rintro e w6 ⟨rfl, hB6, k6⟩
    clear hk6 g0
    obtain ⟨hA5, hB5, hgdA, hgdB, hAB, hO5, hgd⟩ := HB5.out
    have hRl := HX.out.1.1
    have fA : ∀ k, (Value.slice Aa xs.length ca).ownBlock = some k → w.heap.size ≤ k := fun k hk => by have h : _ ≤ k := hA5.foot k hk; omega
    have fB : ∀ k, (Value.slice Ba ys.length cb).ownBlock = some k → w.heap.size ≤ k := fun k hk => by have h : _ ≤ k := hB5.foot k hk; omega
    have hgd6 := k6.heap hgd5 ⟨.inr ⟨by omega, lt_of_heap hgd5⟩, fun e => hgdA _ e rfl⟩
    have g1 : w6.cell? ⟨gd, 1, none⟩ = some (.slice Ba ys.length cb) := cell_of_heap hgd6
    have hB56 := hB5.own_.keep (k6.mono fun k _ hk => ⟨.inr ⟨fB k hk, own_lt hB5.row hk⟩, fun e => hAB k e hk⟩)
    have hk7 := keep_bk hB6 (by omega) (by omega) (KeepR.ofOwn hB56 fun k hk => ⟨.inr ⟨fB k hk, own_lt hB5.row hk⟩, fun e => hAB k e hk⟩) (by omega)
    have HB6 := hid (And.intro k6 (And.intro fA (And.intro fB hRl)))
    clear hA5 hB5 hgdA hgdB hAB hO5 hgd hRl fA fB hB6 k6 hB56
    go_wp2_with fail
    refine hk7.mono ?_
    rintro e w7 ⟨rfl, hB7, k7⟩
    clear hk7 g1
    have HR := hid (show PostHand R H pb N Z p (some j) w (.returned (.bool true)) w7 from by
      obtain ⟨k6, fA, fB, hRl⟩ := HB6.out
      obtain ⟨_, _, _, _, _, hO5, _⟩ := HB5.out
      obtain ⟨_, hP, hHR, _⟩ := HX.out
      have hs6 : ∀ k, R k → (R k ∨ (w.heap.size ≤ k ∧ k < w5.heap.size)) ∧ (Value.slice Aa xs.length ca).ownBlock ≠ some k := fun k hk => ⟨.inl hk, fun e => by have := fA k e; have := hRl k hk; omega⟩
      have hs7 : ∀ k, R k → ((R k ∨ (w.heap.size ≤ k ∧ k < w5.heap.size)) ∧ (Value.slice Aa xs.length ca).ownBlock ≠ some k) ∧ (Value.slice Ba ys.length cb).ownBlock ≠ some k := fun k hk => ⟨hs6 k hk, fun e => by have := fB k e; have := hRl k hk; omega⟩
      have hK : Keeps R w w7 := ((hO5.old R).trans' (k6.mono fun k _ hk => hs6 k hk)).trans' (k7.mono fun k _ hk => hs7 k hk)
      refine ⟨rfl, H, some j, hP.keep (hK.mono fun k _ hk => hHR k hk), by omega, fun k hk => .inl hk, (hB7.less fun k hk => ?_).more (by omega) (by omega), hK.mono fun k _ hk => hk.1⟩
      rcases hk with hk | hk
      · exact hs7 k hk.1
      · exact hs7 k (hHR k hk))
    clear hB7 k7
    go_wp2
    go_ret
    exact HR.out
  | false =>
  clear ht
  go_upto_if 113 with fail
  go_cut [] (fun wx => wx = wc)
  case first =>
    go_wp2
    go_meet
    exact rfl
  case rest =>
  subst hcut
  apply_assumption
  obtain ⟨hB, hP, hHR, h7, h8, hS, hT, hH0, hR0⟩ := HX.out
  exact handed_25 w _ R H S pb N Z p o kd n A1 B1 c1 d1 one many hB hP hHR h7 h8 hS hn0 hn1 hT hH0 hR0 hw hN hZ hone hmany hall b0 go gxo gr ga nr NA cR AR q HA.out hOA hgo HN.out.1 HN.out.2 _ (by kernel_rfl) _ _ _ _ _ _ _ _ _ _ _ _ _ _ _ _ _ _ _ _ _ _ _ _ _ _ _ _ _ _ _ _ _ _ _ _ _ _ _ _ _ _ _ _ _ _ _ _ _ _ _ _ _ _ _ _ _ _ _ _ _ _ _ _ _ _ _ _ _ _ _ _ _ _ _ _ _ _ _ _ _ _ _ _ _ _ _ _ _ _ _ _ _ _ _ _ _ _ _ _ _ _ _ _ _ _ _ _ _ _ _ _ _ _ _ _ _ _ _ _ _ _ _ _ _ _ _ _ _ _ _ _ _ _ _ _ _ _ _ _ _ _ _ _ _ _ _ _ _ _ _ _ _ _ _ _ _ _ _ _ _ _ _ _ _ _ _ _ _ _ _ _ _ _ _ _ _ _ _ _ _ _ _ _ _ _ _ _ _ _ _ _ _ _ _ _ _ _ _ _ _ _ _ _ _ _ _ _ _ _ _ _ _ _ _ _ _ _ _ _ _ _ _ _ _ _ _ _ _ _ _ _ _ _ _
end Go.Proofs.YtdpaaoeipconcaaDoor
