/- weftlaw18.UnderCounts: what has joined and was doubled is what was taken, lost and is in flight: true. Conditions: the script can be read. -/
import Derived.Test.YtgnndggbjipioaaAFrame
namespace Go.Proofs.Ytgnndggbjipioaa
open Go.RowKit

theorem takeS_count (i : Int) (ps : List Pk) : ((takeS i ps).2.1 = 0 ∧ (takeS i ps).2.2.length + 1 = ps.length) ∨ ((takeS i ps).2.1 = 3 ∧ (takeS i ps).2.2.length = ps.length) := by
  by_cases h : 0 ≤ i ∧ i < ps.length
  · obtain ⟨j, rfl⟩ := Int.eq_ofNat_of_zero_le h.1
    have hj : j < ps.length := by omega
    rw [ftakeS_yes hj]
    exact .inl ⟨rfl, by rw [List.length_eraseIdx]; simp [hj]; omega⟩
  · rw [ftakeS_no h]; exact .inr ⟨rfl, rfl⟩
theorem loseS_count (i : Int) (ps : List Pk) : ((loseS i ps).1 = 0 ∧ (loseS i ps).2.length + 1 = ps.length) ∨ ((loseS i ps).1 = 3 ∧ (loseS i ps).2.length = ps.length) := takeS_count i ps
theorem copyS_count (lim : Nat) (i : Int) (ps : List Pk) : ((copyS lim i ps).1 = 0 ∧ (copyS lim i ps).2.length = ps.length + 1) ∨ (((copyS lim i ps).1 = 3 ∨ (copyS lim i ps).1 = 4) ∧ (copyS lim i ps).2.length = ps.length) := by
  by_cases h : 0 ≤ i ∧ i < ps.length
  · obtain ⟨j, rfl⟩ := Int.eq_ofNat_of_zero_le h.1
    have hj : j < ps.length := by omega
    by_cases hf : lim ≤ ps.length
    · rw [fcopyS_full hj hf]; exact .inr ⟨.inr rfl, rfl⟩
    · rw [fcopyS_yes hj hf]; exact .inl ⟨rfl, by simp⟩
  · rw [fcopyS_no h]; exact .inr ⟨.inl rfl, rfl⟩
theorem copyS_room (lim : Nat) (i : Int) (ps : List Pk) (h : ps.length ≤ lim) : (copyS lim i ps).2.length ≤ lim := by
  unfold copyS
  split
  · split
    · exact h
    · simp; omega
  · exact h
theorem spoilS_count (i at_ : Int) (m : UInt8) (ps : List Pk) : (spoilS i at_ m ps).2.length = ps.length := by
  unfold spoilS
  split
  · split <;> simp
  · rfl

/-- ahead of a round of UnderCounts -/
def InCnt (w : World) (n lm : Nat) (a b v : Value) (wr : World) : Prop :=
  ∃ (k inn out : Nat) (F : Nat → Prop) (ps : List Pk), a = .int .i64 inn ∧ b = .int .i64 out ∧ v = .int .i64 k ∧ k ≤ n ∧ inn ≤ 4096 * k ∧ inn = out + ps.length ∧ NetU F wr w.heap.size lm ps ∧ Old w wr ∧ ∀ k, F k → w.heap.size ≤ k

/-- ahead of a round of the last takings -/
def InEnd (w : World) (inn lm : Nat) (b : Value) (wr : World) : Prop :=
  ∃ (out : Nat) (F : Nat → Prop) (ps : List Pk), b = .int .i64 out ∧ inn = out + ps.length ∧ NetU F wr w.heap.size lm ps ∧ Old w wr ∧ ∀ k, F k → w.heap.size ≤ k

set_option maxRecDepth 10000 in
set_option maxHeartbeats 4000000 in
theorem counts_any (w : World) (S : Nat → Prop) (lim : Int) (A : Option Addr) (c : Nat) (l : List OpD) (hO : Ops S w A l) (hS : ∀ k, S k → k < w.heap.size) :
    Calls Try.prog 12 #[.int .i64 lim, .slice A l.length c] w fun e w' => e = .returned (.bool true) ∧ Old w w' := by
  have hu := unew_any w lim
  unfold PostUNew at hu
  have hl0 := hO.1
  by_cases hl : 1 ≤ lim ∧ lim ≤ 4096
  · simp only [if_pos hl] at hu
    obtain ⟨lm, rfl⟩ := Int.eq_ofNat_of_zero_le (show 0 ≤ lim by omega)
    obtain ⟨l1, l2⟩ := hl
    go_enter Try.func12, Try.ntmps12
    go_wp2_with fail
    refine hu.mono ?_
    rintro e w1 ⟨k1, rfl, hU⟩
    clear hu
    go_wp2_with fail
    refine (first_any w1).mono ?_
    rintro e w2 ⟨rfl, k2⟩
    have hN : NetU (fun k => k = w.heap.size) w2 w.heap.size lm [] := ⟨_, _, (by simpa using hU.keep (k2.old _)), rfl⟩
    go_wp2
    go_loopw [7, 8, 9] (fun a b v wr => InCnt w l.length lm a b v wr) (fun _ _ v _ => l.length - (intOf v).toNat)
    case atStart => exact ⟨0, 0, 0, _, [], rfl, rfl, rfl, by omega, by omega, rfl, hN, k1.trans' k2, fun k h => by omega⟩
    case round =>
      obtain ⟨k, inn, out, F, ps, rfl, rfl, rfl, hk, hin, hio, hNr, hold, hFl⟩ := hrel
      have hroom := hNr.room
      by_cases hlt : k < l.length
      · obtain ⟨b, o, A', c', rfl, hSb, h0, h1, h2, h3, h4, hc, hP⟩ := (hO.keep (hold.old _)).at_ (j := k) hlt
        generalize l[k] = x at *
        obtain ⟨kd, ss, ii, aa, mm⟩ := x
        simp only at h0 h1 h2 h3 h4 hc hP
        have i1 : (0 : Int) ≤ (k : Int) := by omega
        have i2 : (k : Int) < (l.length : Int) := by omega
        have hz := hold.size
        have kb : Old wr (wr.alloc (.cells #[.int .i64 kd, .slice A' ss.length c', .int .i64 ii, .int .i64 aa, .int .u8 mm.toNat] 36)) := (Keeps.refl _ _).alloc _
        have hSF : ∀ j, S j → j < (wr.alloc (.cells #[.int .i64 kd, .slice A' ss.length c', .int .i64 ii, .int .i64 aa, .int .u8 mm.toNat] 36)).heap.size ∧ ¬ F j := fun j hj => ⟨by have := hS j hj; simp; omega, fun h => by have := hS j hj; have := hFl j h; omega⟩
        have hNb := hNr.keep (kb.old F)
        have hPb := hP.keep (kb.old S)
        have end_ : ∀ (w3 : World) (inn' out' : Nat) (F3 : Nat → Prop) (ps3 : List Pk), inn' ≤ inn + 4096 → inn' = out' + ps3.length → NetU F3 w3 w.heap.size lm ps3 → (∀ j, F3 j → F j ∨ (wr.alloc (.cells #[.int .i64 kd, .slice A' ss.length c', .int .i64 ii, .int .i64 aa, .int .u8 mm.toNat] 36)).heap.size ≤ j) → Keeps (fun j => ¬ F j) (wr.alloc (.cells #[.int .i64 kd, .slice A' ss.length c', .int .i64 ii, .int .i64 aa, .int .u8 mm.toNat] 36)) w3 → InCnt w l.length lm (.int .i64 inn') (.int .i64 out') (.int .i64 ((k + 1 : Nat) : Int)) w3 := fun w3 inn' out' F3 ps3 e1 e2 e3 e4 e5 => by
          refine ⟨k + 1, inn', out', F3, ps3, rfl, rfl, rfl, by omega, by omega, e2, e3, (hold.trans' kb).trans e5 fun j hj _ h => by have := hFl j h; omega, fun j h => ?_⟩
          rcases e4 j h with h | h
          · exact hFl j h
          · simp at h; omega
        have END := hid end_
        clear end_
        have rnd : (l.length - (k + 1) < l.length - k) := by omega
        have b5 : IntKind.i64.wrap ((k : Int) + 1) = (k : Int) + 1 := by rw [IntKind.wrap_i64]; omega
        by_cases g1 : kd = 1
        · subst g1
          have hp := put_net hNb (c := c') hPb hSF
          obtain ⟨s1, s2, s3, _⟩ := putS_spec lm ss ps hroom
          generalize putS lm ps ss = r at *
          obtain ⟨kk, er, now⟩ := r
          simp only at s1 s2 s3
          have hnl : now.length = ps.length + kk := by rw [s2]; simp; omega
          have b1 : IntKind.i64.wrap ((inn : Int) + (kk : Int)) = (inn : Int) + kk := by rw [IntKind.wrap_i64]; omega
          have b2 : IntKind.i64.wrap ((inn : Int) + (kk : Int) - out) = (now.length : Int) := by rw [IntKind.wrap_i64]; omega
          have b3 : ¬ (out : Int) > (inn : Int) + kk := by omega
          have b4 : ¬ (now.length : Int) > (lm : Int) := by omega
          have fin := fun w3 F3 a b c => END.out w3 (inn + kk) out F3 now (by omega) (by omega) a b c
          have FIN := hid fin
          clear hin hio hnl s3 s2 s1 fin END hz hroom
          go_wp2_with fail
          refine hp.mono ?_
          rintro e w3 ⟨rfl, F3, hN3, hF3, hK3⟩
          clear hp
          go_wp2
          exact ⟨by simpa using FIN.out w3 F3 hN3 hF3 hK3, by simp [intOf]; omega⟩
        have g1' : (kd == 1) = false := ne_int g1
        by_cases g2 : kd = 2
        · subst g2
          have hp := take_net hNb ii
          rcases takeS_count ii ps with ⟨s1, s2⟩ | ⟨s1, s2⟩ <;> generalize takeS ii ps = r at * <;> obtain ⟨⟨t, bs⟩, er, now⟩ := r <;> simp only at s1 s2 <;> subst s1
          · have b1 : IntKind.i64.wrap ((out : Int) + 1) = (out : Int) + 1 := by rw [IntKind.wrap_i64]; omega
            have b2 : IntKind.i64.wrap ((inn : Int) - ((out : Int) + 1)) = (now.length : Int) := by rw [IntKind.wrap_i64]; omega
            have b3 : ¬ (out : Int) + 1 > (inn : Int) := by omega
            have b4 : ¬ (now.length : Int) > (lm : Int) := by omega
            have fin := fun w3 F3 a b c => END.out w3 inn (out + 1) F3 now (by omega) (by omega) a b c
            have FIN := hid fin
            clear hin hio s2 fin END hz hroom
            go_wp2_with fail
            refine hp.mono ?_
            rintro e w3 ⟨A2, c2, F3, G2, rfl, hN3, hb2, hc2, hF3, hG2, _, hK3⟩
            clear hp
            have k3 : Old w3 (w3.alloc (.cells #[.int .u32 t, .slice A2 bs.length c2] 48)) := (Keeps.refl _ _).alloc _
            go_wp2
            exact ⟨by simpa using FIN.out _ F3 (hN3.keep (k3.old F3)) (fun j h => .inl (hF3 j h)) (hK3.trans' (k3.old _)), by simp [intOf]; omega⟩
          · have b2 : IntKind.i64.wrap ((inn : Int) - (out : Int)) = (now.length : Int) := by rw [IntKind.wrap_i64]; omega
            have b3 : ¬ (out : Int) > (inn : Int) := by omega
            have b4 : ¬ (now.length : Int) > (lm : Int) := by omega
            have fin := fun w3 F3 a b c => END.out w3 inn out F3 now (by omega) (by omega) a b c
            have FIN := hid fin
            clear hin hio s2 fin END hz hroom
            go_wp2_with fail
            refine hp.mono ?_
            rintro e w3 ⟨A2, c2, F3, G2, rfl, hN3, hb2, hc2, hF3, hG2, _, hK3⟩
            clear hp
            have k3 : Old w3 (w3.alloc (.cells #[.int .u32 t, .slice A2 bs.length c2] 48)) := (Keeps.refl _ _).alloc _
            go_wp2
            exact ⟨by simpa using FIN.out _ F3 (hN3.keep (k3.old F3)) (fun j h => .inl (hF3 j h)) (hK3.trans' (k3.old _)), by simp [intOf]; omega⟩
        have g2' : (kd == 2) = false := ne_int g2
        by_cases g3 : kd = 3
        · subst g3
          have hp := copy_net hNb ii
          rcases copyS_count lm ii ps with ⟨s1, s2⟩ | ⟨s1 | s1, s2⟩ <;> have hrm := (show (copyS lm ii ps).2.length ≤ lm from (copyS_room lm ii ps hroom)) <;> generalize copyS lm ii ps = r at * <;> obtain ⟨er, now⟩ := r <;> simp only at s1 s2 hrm <;> subst s1
          · have b1 : IntKind.i64.wrap ((inn : Int) + 1) = (inn : Int) + 1 := by rw [IntKind.wrap_i64]; omega
            have b2 : IntKind.i64.wrap ((inn : Int) + 1 - (out : Int)) = (now.length : Int) := by rw [IntKind.wrap_i64]; omega
            have b3 : ¬ (out : Int) > (inn : Int) + 1 := by omega
            have b4 : ¬ (now.length : Int) > (lm : Int) := by omega
            have fin := fun w3 F3 a b c => END.out w3 (inn + 1) out F3 now (by omega) (by omega) a b c
            have FIN := hid fin
            clear hin hio s2 fin END hz hroom
            go_wp2_with fail
            refine hp.mono ?_
            rintro e w3 ⟨rfl, F3, hN3, hF3, hK3⟩
            clear hp
            go_wp2
            exact ⟨by simpa using FIN.out w3 F3 hN3 hF3 hK3, by simp [intOf]; omega⟩
          · skip
            have b2 : IntKind.i64.wrap ((inn : Int) - (out : Int)) = (now.length : Int) := by rw [IntKind.wrap_i64]; omega
            have b3 : ¬ (out : Int) > (inn : Int) := by omega
            have b4 : ¬ (now.length : Int) > (lm : Int) := by omega
            have fin := fun w3 F3 a b c => END.out w3 inn out F3 now (by omega) (by omega) a b c
            have FIN := hid fin
            clear hin hio s2 fin END hz hroom
            go_wp2_with fail
            refine hp.mono ?_
            rintro e w3 ⟨rfl, F3, hN3, hF3, hK3⟩
            clear hp
            go_wp2
            exact ⟨by simpa using FIN.out w3 F3 hN3 hF3 hK3, by simp [intOf]; omega⟩
          · skip
            have b2 : IntKind.i64.wrap ((inn : Int) - (out : Int)) = (now.length : Int) := by rw [IntKind.wrap_i64]; omega
            have b3 : ¬ (out : Int) > (inn : Int) := by omega
            have b4 : ¬ (now.length : Int) > (lm : Int) := by omega
            have fin := fun w3 F3 a b c => END.out w3 inn out F3 now (by omega) (by omega) a b c
            have FIN := hid fin
            clear hin hio s2 fin END hz hroom
            go_wp2_with fail
            refine hp.mono ?_
            rintro e w3 ⟨rfl, F3, hN3, hF3, hK3⟩
            clear hp
            go_wp2
            exact ⟨by simpa using FIN.out w3 F3 hN3 hF3 hK3, by simp [intOf]; omega⟩
        have g3' : (kd == 3) = false := ne_int g3
        by_cases g4 : kd = 4
        · subst g4
          have hp := lose_net hNb ii
          rcases loseS_count ii ps with ⟨s1, s2⟩ | ⟨s1, s2⟩ <;> generalize loseS ii ps = r at * <;> obtain ⟨er, now⟩ := r <;> simp only at s1 s2 <;> subst s1
          · have b1 : IntKind.i64.wrap ((out : Int) + 1) = (out : Int) + 1 := by rw [IntKind.wrap_i64]; omega
            have b2 : IntKind.i64.wrap ((inn : Int) - ((out : Int) + 1)) = (now.length : Int) := by rw [IntKind.wrap_i64]; omega
            have b3 : ¬ (out : Int) + 1 > (inn : Int) := by omega
            have b4 : ¬ (now.length : Int) > (lm : Int) := by omega
            have fin := fun w3 F3 a b c => END.out w3 inn (out + 1) F3 now (by omega) (by omega) a b c
            have FIN := hid fin
            clear hin hio s2 fin END hz hroom
            go_wp2_with fail
            refine hp.mono ?_
            rintro e w3 ⟨rfl, F3, hN3, hF3, hK3⟩
            clear hp
            go_wp2
            exact ⟨by simpa using FIN.out w3 F3 hN3 hF3 hK3, by simp [intOf]; omega⟩
          · skip
            have b2 : IntKind.i64.wrap ((inn : Int) - (out : Int)) = (now.length : Int) := by rw [IntKind.wrap_i64]; omega
            have b3 : ¬ (out : Int) > (inn : Int) := by omega
            have b4 : ¬ (now.length : Int) > (lm : Int) := by omega
            have fin := fun w3 F3 a b c => END.out w3 inn out F3 now (by omega) (by omega) a b c
            have FIN := hid fin
            clear hin hio s2 fin END hz hroom
            go_wp2_with fail
            refine hp.mono ?_
            rintro e w3 ⟨rfl, F3, hN3, hF3, hK3⟩
            clear hp
            go_wp2
            exact ⟨by simpa using FIN.out w3 F3 hN3 hF3 hK3, by simp [intOf]; omega⟩
        have g4' : (kd == 4) = false := ne_int g4
        by_cases g5 : kd = 5
        · subst g5
          have hp := spoil_net hNb ii aa mm
          have s2 := spoilS_count ii aa mm ps
          generalize spoilS ii aa mm ps = r at *
          obtain ⟨er, now⟩ := r
          simp only at s2
          · skip
            have b2 : IntKind.i64.wrap ((inn : Int) - (out : Int)) = (now.length : Int) := by rw [IntKind.wrap_i64]; omega
            have b3 : ¬ (out : Int) > (inn : Int) := by omega
            have b4 : ¬ (now.length : Int) > (lm : Int) := by omega
            have fin := fun w3 F3 a b c => END.out w3 inn out F3 now (by omega) (by omega) a b c
            have FIN := hid fin
            clear hin hio s2 fin END hz hroom
            go_wp2_with fail
            refine hp.mono ?_
            rintro e w3 ⟨rfl, F3, hN3, hF3, hK3⟩
            clear hp
            go_wp2
            exact ⟨by simpa using FIN.out w3 F3 hN3 hF3 hK3, by simp [intOf]; omega⟩
        have g5' : (kd == 5) = false := ne_int g5
        have b2 : IntKind.i64.wrap ((inn : Int) - (out : Int)) = (ps.length : Int) := by rw [IntKind.wrap_i64]; omega
        have b3 : ¬ (out : Int) > (inn : Int) := by omega
        have b4 : ¬ (ps.length : Int) > (lm : Int) := by omega
        have fin := fun w3 F3 a b c => END.out w3 inn out F3 ps (by omega) (by omega) a b c
        have FIN := hid fin
        clear hin hio fin END hz hroom
        by_cases g6 : kd = 6
        · subst g6
          have hp := list_net hNb
          go_wp2_with fail
          refine hp.mono ?_
          rintro e w3 ⟨A2, c2, rfl, _, _, k3⟩
          clear hp
          go_wp2
          exact ⟨by simpa using FIN.out w3 F (hNb.keep (k3.old F)) (fun j h => .inl h) (k3.old _), by simp [intOf]; omega⟩
        have g6' : (kd == 6) = false := ne_int g6
        go_wp2
        exact ⟨by simpa using FIN.out _ F hNb (fun j h => .inl h) (Keeps.refl _ _), by simp [intOf]; omega⟩
      · have hk0 : k = l.length := by omega
        subst hk0
        clear hlt
        go_wp2
        go_loopw [8] (fun b wr => InEnd w inn lm b wr) (fun b _ => inn - (intOf b).toNat)
        case atStart => exact ⟨out, F, ps, rfl, by omega, hNr, hold, hFl⟩
        case round =>
          clear hNr hold hFl hroom hio
          obtain ⟨out, F, ps, rfl, hio, hNr, hold, hFl⟩ := hrel
          by_cases hp : 0 < ps.length
          · have ht := take_net hNr 0
            have e0 : takeS 0 ps = (ps[0], 0, ps.eraseIdx 0) := ftakeS_yes (j := 0) hp
            rw [e0] at ht
            have hel : (ps.eraseIdx 0).length + 1 = ps.length := by rw [List.length_eraseIdx]; simp [hp]; omega
            generalize ps.eraseIdx 0 = now at *
            generalize ps[0] = q at *
            obtain ⟨t, bs⟩ := q
            have b1 : IntKind.i64.wrap ((out : Int) + 1) = (out : Int) + 1 := by rw [IntKind.wrap_i64]; omega
            have b2 : (inn : Int) > (out : Int) := by omega
            have HH := hid (And.intro hio hel)
            clear hio hel hp e0 hin
            go_wp2_with fail
            refine ht.mono ?_
            rintro e w3 ⟨A2, c2, F3, G2, rfl, hN3, hb2, hc2, hF3, hG2, _, hK3⟩
            clear ht
            have k3 : Old w3 (w3.alloc (.cells #[.int .u32 t, .slice A2 bs.length c2] 48)) := (Keeps.refl _ _).alloc _
            go_wp2
            have hh := HH.out
            exact ⟨⟨out + 1, F3, now, by simp, by omega, hN3.keep (k3.old F3), (hold.trans hK3 fun j hj _ h => by have := hFl j h; omega).trans' k3, fun j h => hFl j (hF3 j h)⟩, by simp [intOf]; omega⟩
          · have hnil : ps = [] := by cases ps; rfl; simp at hp
            subst hnil
            have ht := take_net hNr 0
            have e0 : takeS 0 ([] : List Pk) = ((0, []), 3, []) := ftakeS_no (by simp)
            rw [e0] at ht
            have b2 : ¬ (inn : Int) > (out : Int) := by simp at hio; omega
            clear hio hp e0 hin
            go_wp2_with fail
            refine ht.mono ?_
            rintro e w3 ⟨A2, c2, F3, G2, rfl, hN3, hb2, hc2, hF3, hG2, _, hK3⟩
            clear ht
            have k3 : Old w3 (w3.alloc (.cells #[.int .u32 0, .slice A2 0 c2] 48)) := (Keeps.refl _ _).alloc _
            have hl := list_net (hN3.keep (k3.old F3))
            go_wp2_with fail
            refine hl.mono ?_
            rintro e w4 ⟨A4, c4, rfl, _, _, k4⟩
            clear hl
            go_wp2
            go_ret
            exact ⟨rfl, ((hold.trans hK3 fun j hj _ h => by have := hFl j h; omega).trans' k3).trans' k4⟩
  · simp only [if_neg hl] at hu
    have hcase : lim < 1 ∨ 4096 < lim := by omega
    clear hl
    rcases hcase with hl | hl <;> (
      go_enter Try.func12, Try.ntmps12
      go_wp2_with fail
      refine hu.mono ?_
      rintro e w1 ⟨k1, rfl⟩
      clear hu
      go_wp2_with fail
      refine (first_any w1).mono ?_
      rintro e w2 ⟨rfl, k2⟩
      go_wp2
      go_ret
      exact ⟨rfl, k1.trans' k2⟩)
end Go.Proofs.Ytgnndggbjipioaa
