/- weftlaw12.Pair.handed from the reopening on: a reopening, any other step. Conditions: as for handed. -/
import Derived.Test.YtdpaaoeipconcaaDoorJHand27
namespace Go.Proofs.YtdpaaoeipconcaaDoor
open Go.RowKit

set_option maxRecDepth 10000 in
set_option maxHeartbeats 32000000 in
theorem handed_25 (w wA : World) (R H S : Nat → Prop) (pb N Z p : Nat) (o : Option Jn) (kd n : Int) (A1 B1 : Option Addr) (c1 d1 : Nat) (one : List UInt8) (many : List (List UInt8)) (hB : Bk R pb N Z w) (hP : PairAt H w p o) (hHR : ∀ k, H k → R k) (h7 : Bts S w A1 one) (h8 : Rcs S w B1 many) (hS : ∀ k, S k → R k ∧ ¬ H k)
    (hn0 : -9223372036854775808 ≤ n) (hn1 : n < 9223372036854775808) (hT : Tab w) (hH0 : ¬ H 0) (hR0 : R 0) (hw : wsN o ≤ 100000000) (hN : N ≤ 1900000000000) (hZ : Z ≤ 1900000000000000000) (hone : one.length ≤ 1048576) (hmany : many.length ≤ 1048576) (hall : ∀ r ∈ many, r.length ≤ 1048576)
    (b0 go gxo gr ga nr NA cR : Nat) (AR : Option Addr) (q : List (List UInt8 × Nat)) (hA : HandA b0 go gxo gr ga nr NA kd n (.slice A1 one.length c1) (.slice B1 many.length d1) one many (.slice AR many.length cR) q wA) (hOA : Old w wA) (hgo : w.heap.size ≤ go) (hnr : nr = one.length + 64) (hNA : NA = many.length + 70)
    (c : Code) (hc : c = rest51 9) (v1 v3 v5 v6 v10 v11 v13 v14 v15 v16 u17 u18 u19 u20 u21 u22 u23 u24 u25 u26 u27 u28 u29 u30 u31 u32 u33 u34 u35 u36 u37 u38 u39 u40 u41 u42 u43 u44 u45 u46 u47 u48 u49 u50 u51 u52 u53 u54 u55 u56 u57 u58 u59 u60 u61 u62 u63 u64 u65 u66 u67 u68 u69 u70 u71 u72 u73 u74 u75 u76 u77 u78 u79 u80 u81 u82 u83 u84 u85 u86 u87 u88 u89 u90 u91 u92 u93 u94 u95 u96 u97 u98 u99 u100 u101 u102 u103 u104 u105 u106 u107 u108 u109 u110 u111 u112 u113 u114 u115 u116 u117 u118 u119 u120 u121 u122 u123 u124 u125 u126 u127 u128 u129 u130 u131 u132 u133 u134 u135 u136 u137 u138 u139 u140 u141 u142 u143 u144 u145 u146 u147 u148 u149 u150 u151 u152 u153 u154 u155 u156 u157 u158 u159 u160 u161 u162 u163 u164 u165 u166 u167 u168 u169 u170 u171 u172 u173 u174 u175 u176 u177 u178 u179 u180 u181 u182 u183 u184 u185 u186 u187 u188 u189 u190 u191 u192 u193 u194 u195 u196 u197 u198 u199 u200 u201 u202 u203 u204 u205 u206 u207 u208 u209 u210 u211 u212 u213 u214 u215 u216 u217 u218 u219 u220 u221 u222 u223 u224 u225 u226 u227 u228 u229 u230 u231 u232 u233 u234 u235 u236 u237 u238 u239 u240 u241 : Value) :
    c.wp Tryd.prog (bodyPost Tryd.prog Tryd.f51 (PostHand R H pb N Z p o w)) ⟨#[.pointer (some ⟨p, 0, none⟩), v1, .pointer (some ⟨pb, 0, none⟩), v3, .pointer (some ⟨go, 0, none⟩), v5, v6, .slice (some ⟨gr, 0, none⟩) nr nr, .pointer (some ⟨gxo, 0, none⟩), .slice AR many.length cR, v10, v11, .slice (some ⟨ga, 0, none⟩) NA NA, v13, v14, v15, v16, u17, u18, u19, u20, u21, u22, u23, u24, u25, u26, u27, u28, u29, u30, u31, u32, u33, u34, u35, u36, u37, u38, u39, u40, u41, u42, u43, u44, u45, u46, u47, u48, u49, u50, u51, u52, u53, u54, u55, u56, u57, u58, u59, u60, u61, u62, u63, u64, u65, u66, u67, u68, u69, u70, u71, u72, u73, u74, u75, u76, u77, u78, u79, u80, u81, u82, u83, u84, u85, u86, u87, u88, u89, u90, u91, u92, u93, u94, u95, u96, u97, u98, u99, u100, u101, u102, u103, u104, u105, u106, u107, u108, u109, u110, u111, u112, u113, u114, u115, u116, u117, u118, u119, u120, u121, u122, u123, u124, u125, u126, u127, u128, u129, u130, u131, u132, u133, u134, u135, u136, u137, u138, u139, u140, u141, u142, u143, u144, u145, u146, u147, u148, u149, u150, u151, u152, u153, u154, u155, u156, u157, u158, u159, u160, u161, u162, u163, u164, u165, u166, u167, u168, u169, u170, u171, u172, u173, u174, u175, u176, u177, u178, u179, u180, u181, u182, u183, u184, u185, u186, u187, u188, u189, u190, u191, u192, u193, u194, u195, u196, u197, u198, u199, u200, u201, u202, u203, u204, u205, u206, u207, u208, u209, u210, u211, u212, u213, u214, u215, u216, u217, u218, u219, u220, u221, u222, u223, u224, u225, u226, u227, u228, u229, u230, u231, u232, u233, u234, u235, u236, u237, u238, u239, u240, u241], []⟩ wA := by
  unfold rest51 Tryd.f51 at hc
  dsimp only [dropSeq, Option.getD] at hc
  subst hc
  have hPA := hP.keep (hOA.old H)
  have y0 : wA.cell? ⟨go, 0, none⟩ = some (.int .i64 kd) := cell_of_heap hA.o
  have HX := hid (And.intro hB (And.intro hP (And.intro hHR (And.intro h7 (And.intro h8 (And.intro hS (And.intro hT (And.intro hH0 hR0))))))))
  have HA := hid hA
  have HPA := hid hPA
  have HN := hid (And.intro hnr hNA)
  clear hB hP hHR h7 h8 hS hT hH0 hR0 hA hPA hnr hNA
  dsimp only
  go_upto_region 25 with fail
  go_cut [155] (fun v wx => ∃ t : Bool, v = .bool t ∧ (t = true ↔ kd = 7 ∧ o.isSome = true) ∧ wx = wA)
  case first =>
    by_cases h6 : kd = 7
    · subst h6
      cases o with
      | none =>
        have q0 : wA.cell? ⟨p, 0, none⟩ = some (.pointer none) := cell_of_heap HPA.out.2.2
        go_wp2
        go_meet
        exact ⟨false, by first | rfl | simp, by simp, rfl⟩
      | some j =>
        obtain ⟨_, _, F, G, gl, gm, vA, vB, vP, qq, vA', vB', vP', qq', hp, _⟩ := HPA.out
        have q0 : wA.cell? ⟨p, 0, none⟩ = some (.pointer (some ⟨gl, 0, none⟩)) := cell_of_heap hp
        have q1 : wA.cell? ⟨p, 1, none⟩ = some (.pointer (some ⟨gm, 0, none⟩)) := cell_of_heap hp
        clear hp
        go_wp2
        go_meet
        exact ⟨true, by first | rfl | simp, by simp, rfl⟩
    · have b6 : (kd == 7) = false := beq_eq_false_iff_ne.2 h6
      go_wp2
      go_meet
      exact ⟨false, by first | rfl | simp, by simp [h6], rfl⟩
  case rest =>
  obtain ⟨t, rfl, ht, hwe⟩ := hcut
  subst hwe
  cases t with
  | true =>
    obtain ⟨rfl, ho⟩ := ht.1 rfl
    obtain ⟨j, rfl⟩ := Option.isSome_iff_exists.1 ho
    clear ht ho y0
    obtain ⟨hB, hP, hHR, h7, h8, hS, hT, hH0, hR0⟩ := HX.out
    have hA := HA.out
    have hzA := hOA.size
    have y3 : wc.cell? ⟨go, 3, none⟩ = some (.int .i64 n) := cell_of_heap hA.o
    have hBk := hB.keep (hOA.old _)
    have hPA := HPA.out
    have hre := reopened_any wc (fun k => R k ∨ (w.heap.size ≤ k ∧ k < wc.heap.size)) H pb N Z p j n hBk hPA (fun k hk => .inl (hHR k hk)) hn0 hn1 (hT.keep (hOA.old (fun _ => True)) trivial) (.inl hR0) (by have h : j.ws.length ≤ 100000000 := hw; omega) (by omega) (by omega)
    have hRl := hB.1
    have hHlt := hP.2.1
    have HL := hid (And.intro hRl (And.intro hHlt (And.intro hHR (And.intro hOA hP.1))))
    clear hB hP hHR h7 h8 hS hT hH0 hR0 hA hBk hPA hRl hHlt hzA
    go_wp2_with fail
    refine hre.mono ?_
    rintro e w2 hpo
    obtain rfl := hpo.1
    obtain ⟨_, H', o', hP', hw', hH', hB', hK'⟩ := hpo
    have HR := hid (show PostHand R H pb N Z p (some j) w (.returned (.bool true)) w2 from by
      obtain ⟨hRl, hHlt, hHR, hO, hHp⟩ := HL.out
      have hz := hO.size
      refine ⟨rfl, H', o', hP', by omega, fun k hk => ?_, (hB'.less fun k hk => ?_).more (by omega) (by omega), (hO.old _).trans' (hK'.mono fun k _ hk => ⟨.inl hk.1, fun e => hk.2 (by rw [e]; exact hHp)⟩)⟩
      · rcases hH' k hk with h | h
        · exact .inl (by rw [h]; exact hHp)
        · right; omega
      · rcases hk with hk | hk
        · exact .inl (.inl hk.1)
        · exact .inr hk)
    clear hP' hw' hH' hB' hK' hre y3
    go_wp2
    go_ret
    exact HR.out
  | false =>
  clear ht y0
  go_upto_if 155 with fail
  go_cut [] (fun wx => wx = wc)
  case first =>
    go_wp2
    go_meet
    exact rfl
  case rest =>
  subst hcut
  apply_assumption
  obtain ⟨hB, hP, hHR, h7, h8, hS, hT, hH0, hR0⟩ := HX.out
  exact handed_27 w _ R H S pb N Z p o kd n A1 B1 c1 d1 one many hB hP hHR h7 h8 hS hn0 hn1 hT hH0 hR0 hw hN hZ hone hmany hall b0 go gxo gr ga nr NA cR AR q HA.out hOA hgo HN.out.1 HN.out.2 _ (by kernel_rfl) _ _ _ _ _ _ _ _ _ _ _ _ _ _ _ _ _ _ _ _ _ _ _ _ _ _ _ _ _ _ _ _ _ _ _ _ _ _ _ _ _ _ _ _ _ _ _ _ _ _ _ _ _ _ _ _ _ _ _ _ _ _ _ _ _ _ _ _ _ _ _ _ _ _ _ _ _ _ _ _ _ _ _ _ _ _ _ _ _ _ _ _ _ _ _ _ _ _ _ _ _ _ _ _ _ _ _ _ _ _ _ _ _ _ _ _ _ _ _ _ _ _ _ _ _ _ _ _ _ _ _ _ _ _ _ _ _ _ _ _ _ _ _ _ _ _ _ _ _ _ _ _ _ _ _ _ _ _ _ _ _ _ _ _ _ _ _ _ _ _ _ _ _ _ _ _ _ _ _ _ _ _ _ _ _ _ _ _ _ _ _ _ _ _ _ _ _ _ _ _ _ _ _ _ _ _ _ _ _ _ _ _ _ _ _ _ _ _ _ _ _ _ _ _ _ _ _ _ _ _ _ _ _ _ _
end Go.Proofs.YtdpaaoeipconcaaDoor
