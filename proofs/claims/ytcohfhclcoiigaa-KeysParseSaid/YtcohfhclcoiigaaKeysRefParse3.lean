/- The reference's Parse: a chunk's key. -/
import Derived.Test.YtcohfhclcoiigaaKeysRefParse
set_option linter.unusedVariables false
set_option linter.unusedSimpArgs false
namespace Go.Proofs.YtcohfhclcoiigaaX
open Go.RowKit Go.Proofs.YtcohfhclcoiigaaW.PrintWords Go.Proofs.YtcohfhclcoiigaaW.PrintLast Go.Proofs.YtcohfhclcoiigaaW.PrintMore

def refParse_T22 : Bool × List (List Nat × List Nat) := (true, [([], []), ([0], [0]), ([1], [1]), ([2], [2]), ([], []), ([4], [4]), ([5], [5]), ([3, 6], [3, 6]), ([0, 1, 2, 3, 4, 5, 6, 7], []), ([8, 7, 0, 1, 2, 3, 4, 5, 6, 7], [7, 8])])
def refParse_B22 : List Nat := [0, 1, 3, 7, 0, 16, 48, 127, 255, 511]
theorem refParse_tab22 : rtab .any (opsOf Try.f18 22) = refParse_T22 := by kernel_rfl
theorem refParse_bits22 : waitsOk refParse_T22.2 refParse_B22 = true := by kernel_rfl

theorem chunk_w (y3 y4 : UInt8) (mv : Int) (hmv : 256 * (y3.toNat : Int) + (y4.toNat : Int) = mv) : wrap64 (y3.toNat : Int) = y3.toNat ∧ wrap64 (y4.toNat : Int) = y4.toNat ∧ wrap64 (256 * (y3.toNat : Int)) = 256 * y3.toNat ∧ wrap64 mv = mv := by
  have h3 : y3.toNat < 256 := y3.toNat_lt
  have h4 : y4.toNat < 256 := y4.toNat_lt
  subst hmv
  exact ⟨w64 (by omega) (by omega), w64 (by omega) (by omega), w64 (by omega) (by omega), w64 (by omega) (by omega)⟩

set_option maxHeartbeats 4000000 in
set_option maxRecDepth 100000 in
theorem refParse_3 (s : ByteArray) (w : World) (hs0 : 0 < s.size) (hs : s.size ≤ 1000000) (x : UInt8) (hx : s[0]'hs0 = x) (kd : Int) (hk : kindR x = kd) (hk1 : 1 ≤ kd)
    (rest : ByteArray) (hr : s.extract 1 s.size = rest) (hrs : rest.size ≤ 1000000) (z : Int) (hz0 : 0 ≤ z) (hz1 : z ≤ rest.size) (hz2 : ∀ i, 0 ≤ i → i < z → bt rest i ≠ 0) (hz3 : z = rest.size ∨ z < rest.size ∧ bt rest z = 0)
    (c2 : (kd == 2) = false) (c3 : (kd == 3) = true) (c4 : (kd == 4) = false) (c6 : (kd == 6) = false) (c7 : (kd == 7) = false) (c9 : (kd == 9) = false) (hsh : ¬ (rest.size : Int) < 3) (hsh5 : ¬ (rest.size : Int) < 5) (v : Int) (hrd : ReadIs rest v) (y3 y4 : UInt8) (hs3 : 3 < rest.size) (hs4 : 4 < rest.size) (hy3 : rest[3]'hs3 = y3) (hy4 : rest[4]'hs4 = y4) (mv : Int) (hmv : 256 * (y3.toNat : Int) + (y4.toNat : Int) = mv)
    (m : Bool) (hm : MayIs kd ⟨#[]⟩ ⟨#[]⟩ v mv m) (b : ByteArray) (hb : m = true → RefBytesIs kd ⟨#[]⟩ ⟨#[]⟩ v mv b) :
    Calls Try.prog 18 #[.string s] w fun e w' => e = .returned (refParsed s kd ⟨#[]⟩ ⟨#[]⟩ v mv m b) ∧ Below w.heap.size w w' := by
  have hemp := bytes_ne hs0
  go_enter Try.func18, Try.ntmps18
  go_wp2_with fail
  go_loopw [5, 8, 9, 10, 11, 12, 13, 14, 15, 16, 17, 18, 19, 20, 21, 22] (fun i _ _ _ _ _ _ _ _ _ _ _ _ _ _ _ wx => ∃ n : Int, 1 ≤ n ∧ n ≤ 11 ∧ i = .int .i64 n ∧ Two wx w.heap.size #[.int .i64 0, .string ⟨#[]⟩, .string ⟨#[]⟩, .int .i64 0, .int .i64 0] #[.int .i64 (if kd < n then kd else 0), .string ⟨#[]⟩, .string ⟨#[]⟩, .int .i64 0, .int .i64 0] ∧ Below w.heap.size w wx) (fun i _ _ _ _ _ _ _ _ _ _ _ _ _ _ _ wx => 11 - (intOf i).toNat)
  case atStart =>
    have := kindR_range x
    have e : (if kd < 1 then kd else 0) = 0 := by split <;> omega
    exact ⟨1, by omega, by omega, rfl, by rw [e]; exact two0 w _ _, alloc2_below w _ _⟩
  case round =>
    obtain ⟨n, hn1, hn2, rfl, HT, HB⟩ := hrel
    have hkr := kindR_range x
    rw [hk] at hkr
    generalize hko : (if kd < n then kd else 0) = ko at HT
    obtain ⟨m0, m1, m2, m3, m4, l0, l1, l2, l3, l4, gk, gr⟩ := HT.seen
    by_cases hlt : n ≤ 10
    · have hd1 : decide (n ≤ 10) = true := decide_eq_true hlt
      have h0 : 0 ≤ n := by omega
      have h11 : n < 11 := by omega
      have hbt := bt_at ⟨#[32, 110, 105, 99, 100, 112, 114, 117, 102, 103, 116]⟩ n
      have hy := kindR_at n hn1 hlt x
      rw [hk] at hy
      have HK : Aside ((if kd < n then kd else 0) = ko) := hko
      clear hko
      go_wp2_with fail
      by_cases hkn : kd = n
      · have hd2 := decide_eq_true hkn
        rw [hd2] at hy
        have hk2 : (if kd < n + 1 then kd else 0) = n := by rw [if_pos (by omega), hkn]
        go_quiet (fail)
        have T2 : Two (wr.drewN nq) w.heap.size #[.int .i64 0, .string ⟨#[]⟩, .string ⟨#[]⟩, .int .i64 0, .int .i64 0] #[.int .i64 ko, .string ⟨#[]⟩, .string ⟨#[]⟩, .int .i64 0, .int .i64 0] := ⟨HT.r, HT.k⟩
        have B2 : Below w.heap.size w (wr.drewN nq) := below_drawn HB nq
        clear m0 m1 m2 m3 m4 l0 l1 l2 l3 l4 gk gr HT HB
        generalize wr.drewN nq = W2 at T2 B2 ⊢
        obtain ⟨m0, m1, m2, m3, m4, l0, l1, l2, l3, l4, gk, gr⟩ := T2.seen
        go_wp2_with fail
        go_roundw
        case rel => exact ⟨n + 1, by omega, by omega, rfl, by rw [hk2]; exact T2.setK 0 _, setK1 B2 0 _⟩
        case measure => simp [intOf]; omega
      · have hd2 := decide_eq_false hkn
        rw [hd2] at hy
        have hk2 : (if kd < n + 1 then kd else 0) = ko := by rw [← HK]; by_cases c : kd < n; rw [if_pos c, if_pos (by omega)]; rw [if_neg c, if_neg (by omega)]
        go_quiet (fail)
        go_wp2_with fail
        go_roundw
        case rel => exact ⟨n + 1, by omega, by omega, rfl, by rw [hk2]; exact ⟨HT.r, HT.k⟩, below_drawn HB nq⟩
        case measure => simp [intOf]; omega
    · have hd1 : decide (n ≤ 10) = false := decide_eq_false hlt
      rw [if_pos (by omega)] at hko
      subst hko
      have hk0 : (kd == 0) = false := by rw [beq_eq_false_iff_ne]; omega
      go_wp2_with fail
      go_loop [7, 29, 30, 31, 32, 33, 34, 35, 36, 37, 38, 39, 40] (fun i _ _ _ _ _ _ _ _ _ _ _ _ => ∃ q : Int, 0 ≤ q ∧ q ≤ z ∧ i = .int .i64 q) (fun i _ _ _ _ _ _ _ _ _ _ _ _ => z.toNat - (intOf i).toNat)
      case atStart => exact ⟨0, by omega, hz0, rfl⟩
      case round =>
        obtain ⟨q, hq0, hq1, rfl⟩ := hrel
        have hbq := bt_at rest q
        by_cases hqz : q < z
        · have hqs : q < (rest.size : Int) := by omega
          have hqd := decide_eq_true hqs
          have hqn : (bt rest q != 0) = true := bne_iff_ne.2 (hz2 q hq0 hqz)
          have hwr : wrap64 (q + 1) = q + 1 := w64 (by omega) (by omega)
          go_wp2_with fail
          go_round
          case rel => exact ⟨q + 1, by omega, by omega, rfl⟩
          case measure => simp [intOf]; omega
        · obtain rfl : q = z := by omega
          rcases hz3 with hqe | ⟨hqs, hqe⟩
          · have hqd : decide (q < (rest.size : Int)) = false := decide_eq_false (by omega)
            have hl3 : decide ((rest.size : Int) < 3) = false := decide_eq_false (by omega)
            have hl5 : decide ((rest.size : Int) < 5) = false := decide_eq_false (by omega)
            have q3 : (3 < (rest.size : Int)) = True := eq_true (by omega)
            have q4 : (4 < (rest.size : Int)) = True := eq_true (by omega)
            obtain ⟨hw1, hw2, hw3, hw5⟩ := chunk_w y3 y4 mv hmv
            go_wp2_with (go_at_call 33; refine (hrd _).mono ?_; rintro e W5 ⟨rfl, hB5⟩; have T5 := (HT).below hB5; have B5 := (HB).trans (hB5.mono (HT).lt); clear m0 m1 m2 m3 m4 l0 l1 l2 l3 l4 gk gr; obtain ⟨m0, m1, m2, m3, m4, l0, l1, l2, l3, l4, gk, gr⟩ := T5.seen)
            refine start_ (n := 10) (S := fun w' => True) (ds := []) #[false, false, false, false, false, false, false, false, false, false] (by kernel_rfl) rfl rfl trivial (fun hHeld => ?_)
            refine with_tabW refParse_tab22 refParse_bits22 (fun HT_ HW_ => ?_)
            have T7 : Two (W5.setCell ⟨w.heap.size + 1, 3, none⟩ (.int .i64 v)).drew w.heap.size #[.int .i64 0, .string ⟨#[]⟩, .string ⟨#[]⟩, .int .i64 0, .int .i64 0] #[.int .i64 (kd), .string ⟨#[]⟩, .string ⟨#[]⟩, .int .i64 (v), .int .i64 (0)] := ⟨(T5.setK 3 (.int .i64 v)).r, (T5.setK 3 (.int .i64 v)).k⟩
            have B7 := (setK1 B5 3 (.int .i64 v)).drew
            clear m0 m1 m2 m3 m4 l0 l1 l2 l3 l4 gk gr
            generalize (W5.setCell ⟨w.heap.size + 1, 3, none⟩ (.int .i64 v)).drew = W7 at T7 B7 hHeld ⊢
            refine pure_ (i := 0) (N := some 69) (v := ?_) (a' := ?_) #[true, false, false, false, false, false, false, false, false, false] rfl rfl (any_of HT_.out (by kernel_rfl)) (fun _ _ _ h => h) (Or.inl ⟨by rfl, ?_⟩) ?_ ?_
            rotate_left
            · intro w'
              go_simp
              with_reducible rfl
            rotate_left
            · simp only [Act.put, List.setIfInBounds_toArray, List.set_cons_zero, List.set_cons_succ, i64_w, i32_w]
              rfl
            refine pure_ (i := 4) (N := some 73) (v := ?_) (a' := ?_) #[true, false, false, false, true, false, false, false, false, false] rfl rfl (any_of HT_.out (by kernel_rfl)) (fun _ _ _ h => h) (Or.inl ⟨by rfl, ?_⟩) ?_ ?_
            rotate_left
            · intro w'
              go_simp
              with_reducible rfl
            rotate_left
            · simp only [Act.put, List.setIfInBounds_toArray, List.set_cons_zero, List.set_cons_succ, i64_w, i32_w]
              rfl
            refine take_ (i := 1) (N := some 70) (v := ?_) (a' := ?_) #[true, true, false, false, true, false, false, false, false, false] rfl rfl (take_ofW HT_.out HW_.out (by kernel_rfl)) (fun _ _ _ h => h) (Or.inl ⟨by rfl, ?_⟩) hHeld ?_ ?_
            rotate_left
            · intro w' _
              go_simp
              with_reducible rfl
            rotate_left
            · simp only [Act.put, List.setIfInBounds_toArray, List.set_cons_zero, List.set_cons_succ, i64_w, i32_w]
              rfl
            refine pure_ (i := 2) (N := some 71) (v := ?_) (a' := ?_) #[true, true, true, false, true, false, false, false, false, false] rfl rfl (any_of HT_.out (by kernel_rfl)) (fun _ _ _ h => h) (Or.inl ⟨by rfl, ?_⟩) ?_ ?_
            rotate_left
            · intro w'
              go_simp
              with_reducible rfl
            rotate_left
            · simp only [Act.put, List.setIfInBounds_toArray, List.set_cons_zero, List.set_cons_succ, i64_w, i32_w]
              rfl
            refine pure_ (i := 3) (N := some 72) (v := ?_) (a' := ?_) #[true, true, true, true, true, false, false, false, false, false] rfl rfl (any_of HT_.out (by kernel_rfl)) (fun _ _ _ h => h) (Or.inl ⟨by rfl, ?_⟩) ?_ ?_
            rotate_left
            · intro w'
              go_simp
              with_reducible rfl
            rotate_left
            · simp only [Act.put, List.setIfInBounds_toArray, List.set_cons_zero, List.set_cons_succ, i64_w, i32_w]
              rfl
            refine take_ (i := 5) (N := some 74) (v := ?_) (a' := ?_) #[true, true, true, true, true, true, false, false, false, false] rfl rfl (take_ofW HT_.out HW_.out (by kernel_rfl)) (fun _ _ _ h => h) (Or.inl ⟨by rfl, ?_⟩) hHeld ?_ ?_
            rotate_left
            · intro w' _
              go_simp
              with_reducible rfl
            rotate_left
            · simp only [Act.put, List.setIfInBounds_toArray, List.set_cons_zero, List.set_cons_succ, i64_w, i32_w]
              rfl
            refine pure_ (i := 6) (N := some 75) (v := ?_) (a' := ?_) #[true, true, true, true, true, true, true, false, false, false] rfl rfl (any_of HT_.out (by kernel_rfl)) (fun _ _ _ h => h) (Or.inl ⟨by rfl, ?_⟩) ?_ ?_
            rotate_left
            · intro w'
              go_simp
              with_reducible rfl
            rotate_left
            · simp only [Act.put, List.setIfInBounds_toArray, List.set_cons_zero, List.set_cons_succ, i64_w, i32_w]
              rfl
            refine pure_ (i := 7) (N := some 76) (v := ?_) (a' := ?_) #[true, true, true, true, true, true, true, true, false, false] rfl rfl (any_of HT_.out (by kernel_rfl)) (fun _ _ _ h => h) (Or.inl ⟨by rfl, ?_⟩) ?_ ?_
            rotate_left
            · intro w'
              go_simp
              with_reducible rfl
            rotate_left
            · simp only [Act.put, List.setIfInBounds_toArray, List.set_cons_zero, List.set_cons_succ, i64_w, i32_w]
              rfl
            refine pure_ (i := 8) (N := some 77) (v := ?_) (a' := ?_) #[true, true, true, true, true, true, true, true, true, false] rfl rfl (any_of HT_.out (by kernel_rfl)) (fun _ _ _ h => h) (Or.inl ⟨by rfl, ?_⟩) ?_ ?_
            rotate_left
            · intro w'
              go_simp
              with_reducible rfl
            rotate_left
            · simp only [Act.put, List.setIfInBounds_toArray, List.set_cons_zero, List.set_cons_succ, i64_w, i32_w]
              rfl
            refine one_ (i := 9) (N := none) #[true, true, true, true, true, true, true, true, true, true] rfl rfl (one_of HT_.out (by kernel_rfl)) (by decide) (fun K hK => ?_)
            obtain ⟨m0, m1, m2, m3, m4, l0, l1, l2, l3, l4, gk, gr⟩ := T7.seen
            refine skip_ (w1 := ?_) (by rfl) rfl ?_ ?_
            rotate_left
            · go_simp
              rfl
            refine hK.out _ _ trivial (fun hHeld => ?_)
            clear hK K
            refine done_ (done_of HT_.out (by kernel_rfl)) ?_
            clear HT_ HW_ hHeld hw1 hw2 hw3 hw5 q3 q4 hy3 hy4 hmv
            cases m
            · go_wp2_with (first | (go_at_call 14; refine (hm _).mono ?_; rintro e W3 ⟨rfl, hB3⟩; have T3 : Two W3 w.heap.size #[.int .i64 0, .string ⟨#[]⟩, .string ⟨#[]⟩, .int .i64 0, .int .i64 0] #[.int .i64 (kd), .string ⟨#[]⟩, .string ⟨#[]⟩, .int .i64 (v), .int .i64 (mv)] := (T7.setK 4 (.int .i64 mv)).below hB3; have B3 := (setK1 B7 4 (.int .i64 mv)).trans (hB3.mono (T7.setK 4 (.int .i64 mv)).lt); clear m0 m1 m2 m3 m4 l0 l1 l2 l3 l4 gk gr; obtain ⟨m0, m1, m2, m3, m4, l0, l1, l2, l3, l4, gk, gr⟩ := T3.seen))
              refine bodyPost_ret (results_ct rfl _ _ w.heap.size 23 #[.int .i64 0, .string ⟨#[]⟩, .string ⟨#[]⟩, .int .i64 0, .int .i64 0] (0, 0) _ rfl (((((T3.setR 0 _).setR 1 _).setR 2 _).setR 3 _).setR 4 _).r Try.underlying23 rfl (by kernel_rfl)) rfl ?_
              refine ⟨?_, setR5 B3 _ _ _ _ _⟩
              unfold refParsed
              rw [if_neg (by simp)]
              rfl
            · cases hbs : (b.toList == s.toList)
              · go_wp2_with (first | (go_at_call 14; refine (hm _).mono ?_; rintro e W3 ⟨rfl, hB3⟩; have T3 : Two W3 w.heap.size #[.int .i64 0, .string ⟨#[]⟩, .string ⟨#[]⟩, .int .i64 0, .int .i64 0] #[.int .i64 (kd), .string ⟨#[]⟩, .string ⟨#[]⟩, .int .i64 (v), .int .i64 (mv)] := (T7.setK 4 (.int .i64 mv)).below hB3; have B3 := (setK1 B7 4 (.int .i64 mv)).trans (hB3.mono (T7.setK 4 (.int .i64 mv)).lt); clear m0 m1 m2 m3 m4 l0 l1 l2 l3 l4 gk gr; obtain ⟨m0, m1, m2, m3, m4, l0, l1, l2, l3, l4, gk, gr⟩ := T3.seen) | (go_at_call 16; refine (hb (by simp) _).mono ?_; rintro e W4 ⟨rfl, hB4⟩; have T4 := T3.below hB4; have B4 := B3.trans (hB4.mono T3.lt); clear m0 m1 m2 m3 m4 l0 l1 l2 l3 l4 gk gr; obtain ⟨m0, m1, m2, m3, m4, l0, l1, l2, l3, l4, gk, gr⟩ := T4.seen))
                refine bodyPost_ret (results_ct rfl _ _ w.heap.size 23 #[.int .i64 0, .string ⟨#[]⟩, .string ⟨#[]⟩, .int .i64 0, .int .i64 0] (0, 0) _ rfl (((((T4.setR 0 _).setR 1 _).setR 2 _).setR 3 _).setR 4 _).r Try.underlying23 rfl (by kernel_rfl)) rfl ?_
                refine ⟨?_, setR5 B4 _ _ _ _ _⟩
                unfold refParsed
                rw [if_neg (fun h => by rw [h.2] at hbs; simp at hbs)]
                rfl
              · go_wp2_with (first | (go_at_call 14; refine (hm _).mono ?_; rintro e W3 ⟨rfl, hB3⟩; have T3 : Two W3 w.heap.size #[.int .i64 0, .string ⟨#[]⟩, .string ⟨#[]⟩, .int .i64 0, .int .i64 0] #[.int .i64 (kd), .string ⟨#[]⟩, .string ⟨#[]⟩, .int .i64 (v), .int .i64 (mv)] := (T7.setK 4 (.int .i64 mv)).below hB3; have B3 := (setK1 B7 4 (.int .i64 mv)).trans (hB3.mono (T7.setK 4 (.int .i64 mv)).lt); clear m0 m1 m2 m3 m4 l0 l1 l2 l3 l4 gk gr; obtain ⟨m0, m1, m2, m3, m4, l0, l1, l2, l3, l4, gk, gr⟩ := T3.seen) | (go_at_call 16; refine (hb (by simp) _).mono ?_; rintro e W4 ⟨rfl, hB4⟩; have T4 := T3.below hB4; have B4 := B3.trans (hB4.mono T3.lt); clear m0 m1 m2 m3 m4 l0 l1 l2 l3 l4 gk gr; obtain ⟨m0, m1, m2, m3, m4, l0, l1, l2, l3, l4, gk, gr⟩ := T4.seen))
                refine bodyPost_ret (results_ct rfl _ _ w.heap.size 23 #[.int .i64 (kd), .string ⟨#[]⟩, .string ⟨#[]⟩, .int .i64 (v), .int .i64 (mv)] (0, 0) _ rfl (((((T4.setR 0 _).setR 1 _).setR 2 _).setR 3 _).setR 4 _).r Try.underlying23 rfl (by kernel_rfl)) rfl ?_
                refine ⟨?_, setR5 B4 _ _ _ _ _⟩
                unfold refParsed
                rw [if_pos ⟨rfl, by simpa using hbs⟩]
                rfl
          · have hqd := decide_eq_true hqs
            have hqn : (bt rest q != 0) = false := bne_eq_false_iff_eq.2 hqe
            have hl3 : decide ((rest.size : Int) < 3) = false := decide_eq_false (by omega)
            have hl5 : decide ((rest.size : Int) < 5) = false := decide_eq_false (by omega)
            have q3 : (3 < (rest.size : Int)) = True := eq_true (by omega)
            have q4 : (4 < (rest.size : Int)) = True := eq_true (by omega)
            obtain ⟨hw1, hw2, hw3, hw5⟩ := chunk_w y3 y4 mv hmv
            go_wp2_with (go_at_call 33; refine (hrd _).mono ?_; rintro e W5 ⟨rfl, hB5⟩; have T5 := (HT).below hB5; have B5 := (HB).trans (hB5.mono (HT).lt); clear m0 m1 m2 m3 m4 l0 l1 l2 l3 l4 gk gr; obtain ⟨m0, m1, m2, m3, m4, l0, l1, l2, l3, l4, gk, gr⟩ := T5.seen)
            refine start_ (n := 10) (S := fun w' => True) (ds := []) #[false, false, false, false, false, false, false, false, false, false] (by kernel_rfl) rfl rfl trivial (fun hHeld => ?_)
            refine with_tabW refParse_tab22 refParse_bits22 (fun HT_ HW_ => ?_)
            have T7 : Two (W5.setCell ⟨w.heap.size + 1, 3, none⟩ (.int .i64 v)).drew w.heap.size #[.int .i64 0, .string ⟨#[]⟩, .string ⟨#[]⟩, .int .i64 0, .int .i64 0] #[.int .i64 (kd), .string ⟨#[]⟩, .string ⟨#[]⟩, .int .i64 (v), .int .i64 (0)] := ⟨(T5.setK 3 (.int .i64 v)).r, (T5.setK 3 (.int .i64 v)).k⟩
            have B7 := (setK1 B5 3 (.int .i64 v)).drew
            clear m0 m1 m2 m3 m4 l0 l1 l2 l3 l4 gk gr
            generalize (W5.setCell ⟨w.heap.size + 1, 3, none⟩ (.int .i64 v)).drew = W7 at T7 B7 hHeld ⊢
            refine pure_ (i := 0) (N := some 69) (v := ?_) (a' := ?_) #[true, false, false, false, false, false, false, false, false, false] rfl rfl (any_of HT_.out (by kernel_rfl)) (fun _ _ _ h => h) (Or.inl ⟨by rfl, ?_⟩) ?_ ?_
            rotate_left
            · intro w'
              go_simp
              with_reducible rfl
            rotate_left
            · simp only [Act.put, List.setIfInBounds_toArray, List.set_cons_zero, List.set_cons_succ, i64_w, i32_w]
              rfl
            refine pure_ (i := 4) (N := some 73) (v := ?_) (a' := ?_) #[true, false, false, false, true, false, false, false, false, false] rfl rfl (any_of HT_.out (by kernel_rfl)) (fun _ _ _ h => h) (Or.inl ⟨by rfl, ?_⟩) ?_ ?_
            rotate_left
            · intro w'
              go_simp
              with_reducible rfl
            rotate_left
            · simp only [Act.put, List.setIfInBounds_toArray, List.set_cons_zero, List.set_cons_succ, i64_w, i32_w]
              rfl
            refine take_ (i := 1) (N := some 70) (v := ?_) (a' := ?_) #[true, true, false, false, true, false, false, false, false, false] rfl rfl (take_ofW HT_.out HW_.out (by kernel_rfl)) (fun _ _ _ h => h) (Or.inl ⟨by rfl, ?_⟩) hHeld ?_ ?_
            rotate_left
            · intro w' _
              go_simp
              with_reducible rfl
            rotate_left
            · simp only [Act.put, List.setIfInBounds_toArray, List.set_cons_zero, List.set_cons_succ, i64_w, i32_w]
              rfl
            refine pure_ (i := 2) (N := some 71) (v := ?_) (a' := ?_) #[true, true, true, false, true, false, false, false, false, false] rfl rfl (any_of HT_.out (by kernel_rfl)) (fun _ _ _ h => h) (Or.inl ⟨by rfl, ?_⟩) ?_ ?_
            rotate_left
            · intro w'
              go_simp
              with_reducible rfl
            rotate_left
            · simp only [Act.put, List.setIfInBounds_toArray, List.set_cons_zero, List.set_cons_succ, i64_w, i32_w]
              rfl
            refine pure_ (i := 3) (N := some 72) (v := ?_) (a' := ?_) #[true, true, true, true, true, false, false, false, false, false] rfl rfl (any_of HT_.out (by kernel_rfl)) (fun _ _ _ h => h) (Or.inl ⟨by rfl, ?_⟩) ?_ ?_
            rotate_left
            · intro w'
              go_simp
              with_reducible rfl
            rotate_left
            · simp only [Act.put, List.setIfInBounds_toArray, List.set_cons_zero, List.set_cons_succ, i64_w, i32_w]
              rfl
            refine take_ (i := 5) (N := some 74) (v := ?_) (a' := ?_) #[true, true, true, true, true, true, false, false, false, false] rfl rfl (take_ofW HT_.out HW_.out (by kernel_rfl)) (fun _ _ _ h => h) (Or.inl ⟨by rfl, ?_⟩) hHeld ?_ ?_
            rotate_left
            · intro w' _
              go_simp
              with_reducible rfl
            rotate_left
            · simp only [Act.put, List.setIfInBounds_toArray, List.set_cons_zero, List.set_cons_succ, i64_w, i32_w]
              rfl
            refine pure_ (i := 6) (N := some 75) (v := ?_) (a' := ?_) #[true, true, true, true, true, true, true, false, false, false] rfl rfl (any_of HT_.out (by kernel_rfl)) (fun _ _ _ h => h) (Or.inl ⟨by rfl, ?_⟩) ?_ ?_
            rotate_left
            · intro w'
              go_simp
              with_reducible rfl
            rotate_left
            · simp only [Act.put, List.setIfInBounds_toArray, List.set_cons_zero, List.set_cons_succ, i64_w, i32_w]
              rfl
            refine pure_ (i := 7) (N := some 76) (v := ?_) (a' := ?_) #[true, true, true, true, true, true, true, true, false, false] rfl rfl (any_of HT_.out (by kernel_rfl)) (fun _ _ _ h => h) (Or.inl ⟨by rfl, ?_⟩) ?_ ?_
            rotate_left
            · intro w'
              go_simp
              with_reducible rfl
            rotate_left
            · simp only [Act.put, List.setIfInBounds_toArray, List.set_cons_zero, List.set_cons_succ, i64_w, i32_w]
              rfl
            refine pure_ (i := 8) (N := some 77) (v := ?_) (a' := ?_) #[true, true, true, true, true, true, true, true, true, false] rfl rfl (any_of HT_.out (by kernel_rfl)) (fun _ _ _ h => h) (Or.inl ⟨by rfl, ?_⟩) ?_ ?_
            rotate_left
            · intro w'
              go_simp
              with_reducible rfl
            rotate_left
            · simp only [Act.put, List.setIfInBounds_toArray, List.set_cons_zero, List.set_cons_succ, i64_w, i32_w]
              rfl
            refine one_ (i := 9) (N := none) #[true, true, true, true, true, true, true, true, true, true] rfl rfl (one_of HT_.out (by kernel_rfl)) (by decide) (fun K hK => ?_)
            obtain ⟨m0, m1, m2, m3, m4, l0, l1, l2, l3, l4, gk, gr⟩ := T7.seen
            refine skip_ (w1 := ?_) (by rfl) rfl ?_ ?_
            rotate_left
            · go_simp
              rfl
            refine hK.out _ _ trivial (fun hHeld => ?_)
            clear hK K
            refine done_ (done_of HT_.out (by kernel_rfl)) ?_
            clear HT_ HW_ hHeld hw1 hw2 hw3 hw5 q3 q4 hy3 hy4 hmv
            cases m
            · go_wp2_with (first | (go_at_call 14; refine (hm _).mono ?_; rintro e W3 ⟨rfl, hB3⟩; have T3 : Two W3 w.heap.size #[.int .i64 0, .string ⟨#[]⟩, .string ⟨#[]⟩, .int .i64 0, .int .i64 0] #[.int .i64 (kd), .string ⟨#[]⟩, .string ⟨#[]⟩, .int .i64 (v), .int .i64 (mv)] := (T7.setK 4 (.int .i64 mv)).below hB3; have B3 := (setK1 B7 4 (.int .i64 mv)).trans (hB3.mono (T7.setK 4 (.int .i64 mv)).lt); clear m0 m1 m2 m3 m4 l0 l1 l2 l3 l4 gk gr; obtain ⟨m0, m1, m2, m3, m4, l0, l1, l2, l3, l4, gk, gr⟩ := T3.seen))
              refine bodyPost_ret (results_ct rfl _ _ w.heap.size 23 #[.int .i64 0, .string ⟨#[]⟩, .string ⟨#[]⟩, .int .i64 0, .int .i64 0] (0, 0) _ rfl (((((T3.setR 0 _).setR 1 _).setR 2 _).setR 3 _).setR 4 _).r Try.underlying23 rfl (by kernel_rfl)) rfl ?_
              refine ⟨?_, setR5 B3 _ _ _ _ _⟩
              unfold refParsed
              rw [if_neg (by simp)]
              rfl
            · cases hbs : (b.toList == s.toList)
              · go_wp2_with (first | (go_at_call 14; refine (hm _).mono ?_; rintro e W3 ⟨rfl, hB3⟩; have T3 : Two W3 w.heap.size #[.int .i64 0, .string ⟨#[]⟩, .string ⟨#[]⟩, .int .i64 0, .int .i64 0] #[.int .i64 (kd), .string ⟨#[]⟩, .string ⟨#[]⟩, .int .i64 (v), .int .i64 (mv)] := (T7.setK 4 (.int .i64 mv)).below hB3; have B3 := (setK1 B7 4 (.int .i64 mv)).trans (hB3.mono (T7.setK 4 (.int .i64 mv)).lt); clear m0 m1 m2 m3 m4 l0 l1 l2 l3 l4 gk gr; obtain ⟨m0, m1, m2, m3, m4, l0, l1, l2, l3, l4, gk, gr⟩ := T3.seen) | (go_at_call 16; refine (hb (by simp) _).mono ?_; rintro e W4 ⟨rfl, hB4⟩; have T4 := T3.below hB4; have B4 := B3.trans (hB4.mono T3.lt); clear m0 m1 m2 m3 m4 l0 l1 l2 l3 l4 gk gr; obtain ⟨m0, m1, m2, m3, m4, l0, l1, l2, l3, l4, gk, gr⟩ := T4.seen))
                refine bodyPost_ret (results_ct rfl _ _ w.heap.size 23 #[.int .i64 0, .string ⟨#[]⟩, .string ⟨#[]⟩, .int .i64 0, .int .i64 0] (0, 0) _ rfl (((((T4.setR 0 _).setR 1 _).setR 2 _).setR 3 _).setR 4 _).r Try.underlying23 rfl (by kernel_rfl)) rfl ?_
                refine ⟨?_, setR5 B4 _ _ _ _ _⟩
                unfold refParsed
                rw [if_neg (fun h => by rw [h.2] at hbs; simp at hbs)]
                rfl
              · go_wp2_with (first | (go_at_call 14; refine (hm _).mono ?_; rintro e W3 ⟨rfl, hB3⟩; have T3 : Two W3 w.heap.size #[.int .i64 0, .string ⟨#[]⟩, .string ⟨#[]⟩, .int .i64 0, .int .i64 0] #[.int .i64 (kd), .string ⟨#[]⟩, .string ⟨#[]⟩, .int .i64 (v), .int .i64 (mv)] := (T7.setK 4 (.int .i64 mv)).below hB3; have B3 := (setK1 B7 4 (.int .i64 mv)).trans (hB3.mono (T7.setK 4 (.int .i64 mv)).lt); clear m0 m1 m2 m3 m4 l0 l1 l2 l3 l4 gk gr; obtain ⟨m0, m1, m2, m3, m4, l0, l1, l2, l3, l4, gk, gr⟩ := T3.seen) | (go_at_call 16; refine (hb (by simp) _).mono ?_; rintro e W4 ⟨rfl, hB4⟩; have T4 := T3.below hB4; have B4 := B3.trans (hB4.mono T3.lt); clear m0 m1 m2 m3 m4 l0 l1 l2 l3 l4 gk gr; obtain ⟨m0, m1, m2, m3, m4, l0, l1, l2, l3, l4, gk, gr⟩ := T4.seen))
                refine bodyPost_ret (results_ct rfl _ _ w.heap.size 23 #[.int .i64 (kd), .string ⟨#[]⟩, .string ⟨#[]⟩, .int .i64 (v), .int .i64 (mv)] (0, 0) _ rfl (((((T4.setR 0 _).setR 1 _).setR 2 _).setR 3 _).setR 4 _).r Try.underlying23 rfl (by kernel_rfl)) rfl ?_
                refine ⟨?_, setR5 B4 _ _ _ _ _⟩
                unfold refParsed
                rw [if_pos ⟨rfl, by simpa using hbs⟩]
                rfl
end Go.Proofs.YtcohfhclcoiigaaX
