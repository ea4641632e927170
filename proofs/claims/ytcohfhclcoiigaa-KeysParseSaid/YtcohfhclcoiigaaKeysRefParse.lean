/- The reference's Parse: the walk, over what May and Bytes answer. -/
import Derived.Test.YtcohfhclcoiigaaKeysParse
import Derived.Test.YtcohfhclcoiigaaPlain
set_option linter.unusedVariables false
set_option linter.unusedSimpArgs false
namespace Go.Proofs.YtcohfhclcoiigaaX
open Go.RowKit Go.Proofs.YtcohfhclcoiigaaW.PrintWords Go.Proofs.YtcohfhclcoiigaaW.PrintLast Go.Proofs.YtcohfhclcoiigaaW.PrintMore

def MayIs (k : Int) (A B : ByteArray) (N M : Int) (m : Bool) : Prop := ∀ W : World, Calls Try.prog 14 #[.agg #[.int .i64 k, .string A, .string B, .int .i64 N, .int .i64 M]] W fun e w' => e = .returned (.bool m) ∧ Below W.heap.size W w'
def RefBytesIs (k : Int) (A B : ByteArray) (N M : Int) (b : ByteArray) : Prop := ∀ W : World, Calls Try.prog 16 #[.agg #[.int .i64 k, .string A, .string B, .int .i64 N, .int .i64 M]] W fun e w' => e = .returned (.string b) ∧ Below W.heap.size W w'
def ReadIs (r : ByteArray) (v : Int) : Prop := ∀ W : World, Calls Try.prog 33 #[.string r] W fun e w' => e = .returned (.int .i64 v) ∧ Below W.heap.size W w'
def kindR (x : UInt8) : Int := 1 + Lib.indexByte [110, 105, 99, 100, 112, 114, 117, 102, 103, 116] x
theorem kindR_at (i : Int) (h0 : 1 ≤ i) (h1 : i ≤ 10) (x : UInt8) : (bt ⟨#[32, 110, 105, 99, 100, 112, 114, 117, 102, 103, 116]⟩ i == (x.toNat : Int)) = decide (kindR x = i) := by
  have key : ∀ (j : Fin 11) (y : Fin 256), 1 ≤ j.val → (bt ⟨#[32, 110, 105, 99, 100, 112, 114, 117, 102, 103, 116]⟩ (j.val : Int) == ((UInt8.ofNat y.val).toNat : Int)) = decide (kindR (UInt8.ofNat y.val) = (j.val : Int)) := by decide +kernel
  obtain ⟨n, rfl⟩ := Int.eq_ofNat_of_zero_le (show 0 ≤ i by omega)
  have h : (bt ⟨#[32, 110, 105, 99, 100, 112, 114, 117, 102, 103, 116]⟩ (n : Int) == ((UInt8.ofNat x.toNat).toNat : Int)) = decide (kindR (UInt8.ofNat x.toNat) = (n : Int)) := key ⟨n, by omega⟩ ⟨x.toNat, x.toNat_lt⟩ (by show 1 ≤ n; omega)
  have e : UInt8.ofNat x.toNat = x := by simp
  rw [e] at h
  exact h
theorem kindR_range (x : UInt8) : 0 ≤ kindR x ∧ kindR x ≤ 10 := by
  have key : ∀ (y : Fin 256), 0 ≤ kindR (UInt8.ofNat y.val) ∧ kindR (UInt8.ofNat y.val) ≤ 10 := by decide +kernel
  have := key ⟨x.toNat, x.toNat_lt⟩
  simpa using this

theorem below_drawn {b : Nat} {w W : World} (h : Below b w W) (n : Nat) : Below b w (W.drewN n) := h.trans ⟨rfl, rfl, rfl, Nat.le_refl _, fun _ _ => rfl⟩
def refParsed (s : ByteArray) (k : Int) (A B : ByteArray) (N M : Int) (m : Bool) (b : ByteArray) : Value :=
  if m = true ∧ b.toList = s.toList then .tuple #[.agg #[.int .i64 k, .string A, .string B, .int .i64 N, .int .i64 M], .bool true]
  else .tuple #[.agg #[.int .i64 0, .string ⟨#[]⟩, .string ⟨#[]⟩, .int .i64 0, .int .i64 0], .bool false]

set_option maxHeartbeats 4000000 in
set_option maxRecDepth 100000 in
theorem refParse_none (s : ByteArray) (w : World) (hs0 : 0 < s.size) (hs : s.size ≤ 1000000) (x : UInt8) (hx : s[0]'hs0 = x) (kd : Int) (hk : kindR x = kd) (hk0 : kd = 0) :
    Calls Try.prog 18 #[.string s] w fun e w' => e = .returned (.tuple #[.agg #[.int .i64 0, .string ⟨#[]⟩, .string ⟨#[]⟩, .int .i64 0, .int .i64 0], .bool false]) ∧ Below w.heap.size w w' := by
  have hemp := bytes_ne hs0
  go_enter Try.func18, Try.ntmps18
  go_wp2_with fail
  go_loopw [5, 8, 9, 10, 11, 12, 13, 14, 15, 16, 17, 18, 19, 20, 21, 22] (fun i _ _ _ _ _ _ _ _ _ _ _ _ _ _ _ wx => ∃ n : Int, 1 ≤ n ∧ n ≤ 11 ∧ i = .int .i64 n ∧ Two wx w.heap.size #[.int .i64 0, .string ⟨#[]⟩, .string ⟨#[]⟩, .int .i64 0, .int .i64 0] #[.int .i64 (if kd < n then kd else 0), .string ⟨#[]⟩, .string ⟨#[]⟩, .int .i64 0, .int .i64 0] ∧ Below w.heap.size w wx) (fun i _ _ _ _ _ _ _ _ _ _ _ _ _ _ _ wx => 11 - (intOf i).toNat)
  case atStart =>
    have := kindR_range x
    have e : (if kd < 1 then kd else 0) = 0 := by split <;> omega
    exact ⟨1, by omega, by omega, rfl, by rw [e]; exact two0 w _ _, alloc2_below w _ _⟩
  case round =>
    obtain ⟨n, hn1, hn2, rfl, HT, HB⟩ := hrel
    have hkr := kindR_range x
    rw [hk] at hkr
    generalize hko : (if kd < n then kd else 0) = ko at HT
    obtain ⟨m0, m1, m2, m3, m4, l0, l1, l2, l3, l4, gk, gr⟩ := HT.seen
    by_cases hlt : n ≤ 10
    · have hd1 : decide (n ≤ 10) = true := decide_eq_true hlt
      have h0 : 0 ≤ n := by omega
      have h11 : n < 11 := by omega
      have hbt := bt_at ⟨#[32, 110, 105, 99, 100, 112, 114, 117, 102, 103, 116]⟩ n
      have hy := kindR_at n hn1 hlt x
      rw [hk] at hy
      have HK : Aside ((if kd < n then kd else 0) = ko) := hko
      clear hko
      go_wp2_with fail
      by_cases hkn : kd = n
      · have hd2 := decide_eq_true hkn
        rw [hd2] at hy
        have hk2 : (if kd < n + 1 then kd else 0) = n := by rw [if_pos (by omega), hkn]
        exfalso
        omega
      · have hd2 := decide_eq_false hkn
        rw [hd2] at hy
        have hk2 : (if kd < n + 1 then kd else 0) = ko := by rw [← HK]; by_cases c : kd < n; rw [if_pos c, if_pos (by omega)]; rw [if_neg c, if_neg (by omega)]
        go_quiet (fail)
        go_wp2_with fail
        go_roundw
        case rel => exact ⟨n + 1, by omega, by omega, rfl, by rw [hk2]; exact ⟨HT.r, HT.k⟩, below_drawn HB nq⟩
        case measure => simp [intOf]; omega
    · have hd1 : decide (n ≤ 10) = false := decide_eq_false hlt
      rw [if_pos (by omega)] at hko
      subst hko
      subst hk0
      go_wp2_with fail
      refine bodyPost_ret (results_ct rfl _ _ w.heap.size 23 #[.int .i64 0, .string ⟨#[]⟩, .string ⟨#[]⟩, .int .i64 0, .int .i64 0] (0, 0) _ rfl (((((HT.setR 0 _).setR 1 _).setR 2 _).setR 3 _).setR 4 _).r Try.underlying23 rfl (by kernel_rfl)) rfl ?_
      exact ⟨rfl, setR5 HB _ _ _ _ _⟩
set_option maxHeartbeats 4000000 in
set_option maxRecDepth 100000 in
theorem refParse_1 (s : ByteArray) (w : World) (hs0 : 0 < s.size) (hs : s.size ≤ 1000000) (x : UInt8) (hx : s[0]'hs0 = x) (kd : Int) (hk : kindR x = kd) (hk1 : 1 ≤ kd)
    (rest : ByteArray) (hr : s.extract 1 s.size = rest) (hrs : rest.size ≤ 1000000) (z : Int) (hz0 : 0 ≤ z) (hz1 : z ≤ rest.size) (hz2 : ∀ i, 0 ≤ i → i < z → bt rest i ≠ 0) (hz3 : z = rest.size ∨ z < rest.size ∧ bt rest z = 0)
    (c2 : (kd == 2) = false) (c3 : (kd == 3) = false) (c4 : (kd == 4) = false) (c6 : (kd == 6) = false) (c7 : (kd == 7) = false) (c9 : (kd == 9) = false)
    (m : Bool) (hm : MayIs kd rest ⟨#[]⟩ 0 0 m) (b : ByteArray) (hb : m = true → RefBytesIs kd rest ⟨#[]⟩ 0 0 b) :
    Calls Try.prog 18 #[.string s] w fun e w' => e = .returned (refParsed s kd rest ⟨#[]⟩ 0 0 m b) ∧ Below w.heap.size w w' := by
  have hemp := bytes_ne hs0
  go_enter Try.func18, Try.ntmps18
  go_wp2_with fail
  go_loopw [5, 8, 9, 10, 11, 12, 13, 14, 15, 16, 17, 18, 19, 20, 21, 22] (fun i _ _ _ _ _ _ _ _ _ _ _ _ _ _ _ wx => ∃ n : Int, 1 ≤ n ∧ n ≤ 11 ∧ i = .int .i64 n ∧ Two wx w.heap.size #[.int .i64 0, .string ⟨#[]⟩, .string ⟨#[]⟩, .int .i64 0, .int .i64 0] #[.int .i64 (if kd < n then kd else 0), .string ⟨#[]⟩, .string ⟨#[]⟩, .int .i64 0, .int .i64 0] ∧ Below w.heap.size w wx) (fun i _ _ _ _ _ _ _ _ _ _ _ _ _ _ _ wx => 11 - (intOf i).toNat)
  case atStart =>
    have := kindR_range x
    have e : (if kd < 1 then kd else 0) = 0 := by split <;> omega
    exact ⟨1, by omega, by omega, rfl, by rw [e]; exact two0 w _ _, alloc2_below w _ _⟩
  case round =>
    obtain ⟨n, hn1, hn2, rfl, HT, HB⟩ := hrel
    have hkr := kindR_range x
    rw [hk] at hkr
    generalize hko : (if kd < n then kd else 0) = ko at HT
    obtain ⟨m0, m1, m2, m3, m4, l0, l1, l2, l3, l4, gk, gr⟩ := HT.seen
    by_cases hlt : n ≤ 10
    · have hd1 : decide (n ≤ 10) = true := decide_eq_true hlt
      have h0 : 0 ≤ n := by omega
      have h11 : n < 11 := by omega
      have hbt := bt_at ⟨#[32, 110, 105, 99, 100, 112, 114, 117, 102, 103, 116]⟩ n
      have hy := kindR_at n hn1 hlt x
      rw [hk] at hy
      have HK : Aside ((if kd < n then kd else 0) = ko) := hko
      clear hko
      go_wp2_with fail
      by_cases hkn : kd = n
      · have hd2 := decide_eq_true hkn
        rw [hd2] at hy
        have hk2 : (if kd < n + 1 then kd else 0) = n := by rw [if_pos (by omega), hkn]
        go_quiet (fail)
        have T2 : Two (wr.drewN nq) w.heap.size #[.int .i64 0, .string ⟨#[]⟩, .string ⟨#[]⟩, .int .i64 0, .int .i64 0] #[.int .i64 ko, .string ⟨#[]⟩, .string ⟨#[]⟩, .int .i64 0, .int .i64 0] := ⟨HT.r, HT.k⟩
        have B2 : Below w.heap.size w (wr.drewN nq) := below_drawn HB nq
        clear m0 m1 m2 m3 m4 l0 l1 l2 l3 l4 gk gr HT HB
        generalize wr.drewN nq = W2 at T2 B2 ⊢
        obtain ⟨m0, m1, m2, m3, m4, l0, l1, l2, l3, l4, gk, gr⟩ := T2.seen
        go_wp2_with fail
        go_roundw
        case rel => exact ⟨n + 1, by omega, by omega, rfl, by rw [hk2]; exact T2.setK 0 _, setK1 B2 0 _⟩
        case measure => simp [intOf]; omega
      · have hd2 := decide_eq_false hkn
        rw [hd2] at hy
        have hk2 : (if kd < n + 1 then kd else 0) = ko := by rw [← HK]; by_cases c : kd < n; rw [if_pos c, if_pos (by omega)]; rw [if_neg c, if_neg (by omega)]
        go_quiet (fail)
        go_wp2_with fail
        go_roundw
        case rel => exact ⟨n + 1, by omega, by omega, rfl, by rw [hk2]; exact ⟨HT.r, HT.k⟩, below_drawn HB nq⟩
        case measure => simp [intOf]; omega
    · have hd1 : decide (n ≤ 10) = false := decide_eq_false hlt
      rw [if_pos (by omega)] at hko
      subst hko
      have hk0 : (kd == 0) = false := by rw [beq_eq_false_iff_ne]; omega
      go_wp2_with fail
      go_loop [7, 29, 30, 31, 32, 33, 34, 35, 36, 37, 38, 39, 40] (fun i _ _ _ _ _ _ _ _ _ _ _ _ => ∃ q : Int, 0 ≤ q ∧ q ≤ z ∧ i = .int .i64 q) (fun i _ _ _ _ _ _ _ _ _ _ _ _ => z.toNat - (intOf i).toNat)
      case atStart => exact ⟨0, by omega, hz0, rfl⟩
      case round =>
        obtain ⟨q, hq0, hq1, rfl⟩ := hrel
        have hbq := bt_at rest q
        by_cases hqz : q < z
        · have hqs : q < (rest.size : Int) := by omega
          have hqd := decide_eq_true hqs
          have hqn : (bt rest q != 0) = true := bne_iff_ne.2 (hz2 q hq0 hqz)
          have hwr : wrap64 (q + 1) = q + 1 := w64 (by omega) (by omega)
          go_wp2_with fail
          go_round
          case rel => exact ⟨q + 1, by omega, by omega, rfl⟩
          case measure => simp [intOf]; omega
        · obtain rfl : q = z := by omega
          rcases hz3 with hqe | ⟨hqs, hqe⟩
          · have hqd : decide (q < (rest.size : Int)) = false := decide_eq_false (by omega)
            cases m
            · go_wp2_with (first | (go_at_call 14; refine (hm _).mono ?_; rintro e W3 ⟨rfl, hB3⟩; have T3 : Two W3 w.heap.size #[.int .i64 0, .string ⟨#[]⟩, .string ⟨#[]⟩, .int .i64 0, .int .i64 0] #[.int .i64 (kd), .string rest, .string ⟨#[]⟩, .int .i64 (0), .int .i64 (0)] := (HT.setK 1 (.string rest)).below hB3; have B3 := (setK1 HB 1 (.string rest)).trans (hB3.mono (HT.setK 1 (.string rest)).lt); clear m0 m1 m2 m3 m4 l0 l1 l2 l3 l4 gk gr; obtain ⟨m0, m1, m2, m3, m4, l0, l1, l2, l3, l4, gk, gr⟩ := T3.seen))
              refine bodyPost_ret (results_ct rfl _ _ w.heap.size 23 #[.int .i64 0, .string ⟨#[]⟩, .string ⟨#[]⟩, .int .i64 0, .int .i64 0] (0, 0) _ rfl (((((T3.setR 0 _).setR 1 _).setR 2 _).setR 3 _).setR 4 _).r Try.underlying23 rfl (by kernel_rfl)) rfl ?_
              refine ⟨?_, setR5 B3 _ _ _ _ _⟩
              unfold refParsed
              rw [if_neg (by simp)]
              rfl
            · cases hbs : (b.toList == s.toList)
              · go_wp2_with (first | (go_at_call 14; refine (hm _).mono ?_; rintro e W3 ⟨rfl, hB3⟩; have T3 : Two W3 w.heap.size #[.int .i64 0, .string ⟨#[]⟩, .string ⟨#[]⟩, .int .i64 0, .int .i64 0] #[.int .i64 (kd), .string rest, .string ⟨#[]⟩, .int .i64 (0), .int .i64 (0)] := (HT.setK 1 (.string rest)).below hB3; have B3 := (setK1 HB 1 (.string rest)).trans (hB3.mono (HT.setK 1 (.string rest)).lt); clear m0 m1 m2 m3 m4 l0 l1 l2 l3 l4 gk gr; obtain ⟨m0, m1, m2, m3, m4, l0, l1, l2, l3, l4, gk, gr⟩ := T3.seen) | (go_at_call 16; refine (hb (by simp) _).mono ?_; rintro e W4 ⟨rfl, hB4⟩; have T4 := T3.below hB4; have B4 := B3.trans (hB4.mono T3.lt); clear m0 m1 m2 m3 m4 l0 l1 l2 l3 l4 gk gr; obtain ⟨m0, m1, m2, m3, m4, l0, l1, l2, l3, l4, gk, gr⟩ := T4.seen))
                refine bodyPost_ret (results_ct rfl _ _ w.heap.size 23 #[.int .i64 0, .string ⟨#[]⟩, .string ⟨#[]⟩, .int .i64 0, .int .i64 0] (0, 0) _ rfl (((((T4.setR 0 _).setR 1 _).setR 2 _).setR 3 _).setR 4 _).r Try.underlying23 rfl (by kernel_rfl)) rfl ?_
                refine ⟨?_, setR5 B4 _ _ _ _ _⟩
                unfold refParsed
                rw [if_neg (fun h => by rw [h.2] at hbs; simp at hbs)]
                rfl
              · go_wp2_with (first | (go_at_call 14; refine (hm _).mono ?_; rintro e W3 ⟨rfl, hB3⟩; have T3 : Two W3 w.heap.size #[.int .i64 0, .string ⟨#[]⟩, .string ⟨#[]⟩, .int .i64 0, .int .i64 0] #[.int .i64 (kd), .string rest, .string ⟨#[]⟩, .int .i64 (0), .int .i64 (0)] := (HT.setK 1 (.string rest)).below hB3; have B3 := (setK1 HB 1 (.string rest)).trans (hB3.mono (HT.setK 1 (.string rest)).lt); clear m0 m1 m2 m3 m4 l0 l1 l2 l3 l4 gk gr; obtain ⟨m0, m1, m2, m3, m4, l0, l1, l2, l3, l4, gk, gr⟩ := T3.seen) | (go_at_call 16; refine (hb (by simp) _).mono ?_; rintro e W4 ⟨rfl, hB4⟩; have T4 := T3.below hB4; have B4 := B3.trans (hB4.mono T3.lt); clear m0 m1 m2 m3 m4 l0 l1 l2 l3 l4 gk gr; obtain ⟨m0, m1, m2, m3, m4, l0, l1, l2, l3, l4, gk, gr⟩ := T4.seen))
                refine bodyPost_ret (results_ct rfl _ _ w.heap.size 23 #[.int .i64 (kd), .string rest, .string ⟨#[]⟩, .int .i64 (0), .int .i64 (0)] (0, 0) _ rfl (((((T4.setR 0 _).setR 1 _).setR 2 _).setR 3 _).setR 4 _).r Try.underlying23 rfl (by kernel_rfl)) rfl ?_
                refine ⟨?_, setR5 B4 _ _ _ _ _⟩
                unfold refParsed
                rw [if_pos ⟨rfl, by simpa using hbs⟩]
                rfl
          · have hqd := decide_eq_true hqs
            have hqn : (bt rest q != 0) = false := bne_eq_false_iff_eq.2 hqe
            cases m
            · go_wp2_with (first | (go_at_call 14; refine (hm _).mono ?_; rintro e W3 ⟨rfl, hB3⟩; have T3 : Two W3 w.heap.size #[.int .i64 0, .string ⟨#[]⟩, .string ⟨#[]⟩, .int .i64 0, .int .i64 0] #[.int .i64 (kd), .string rest, .string ⟨#[]⟩, .int .i64 (0), .int .i64 (0)] := (HT.setK 1 (.string rest)).below hB3; have B3 := (setK1 HB 1 (.string rest)).trans (hB3.mono (HT.setK 1 (.string rest)).lt); clear m0 m1 m2 m3 m4 l0 l1 l2 l3 l4 gk gr; obtain ⟨m0, m1, m2, m3, m4, l0, l1, l2, l3, l4, gk, gr⟩ := T3.seen))
              refine bodyPost_ret (results_ct rfl _ _ w.heap.size 23 #[.int .i64 0, .string ⟨#[]⟩, .string ⟨#[]⟩, .int .i64 0, .int .i64 0] (0, 0) _ rfl (((((T3.setR 0 _).setR 1 _).setR 2 _).setR 3 _).setR 4 _).r Try.underlying23 rfl (by kernel_rfl)) rfl ?_
              refine ⟨?_, setR5 B3 _ _ _ _ _⟩
              unfold refParsed
              rw [if_neg (by simp)]
              rfl
            · cases hbs : (b.toList == s.toList)
              · go_wp2_with (first | (go_at_call 14; refine (hm _).mono ?_; rintro e W3 ⟨rfl, hB3⟩; have T3 : Two W3 w.heap.size #[.int .i64 0, .string ⟨#[]⟩, .string ⟨#[]⟩, .int .i64 0, .int .i64 0] #[.int .i64 (kd), .string rest, .string ⟨#[]⟩, .int .i64 (0), .int .i64 (0)] := (HT.setK 1 (.string rest)).below hB3; have B3 := (setK1 HB 1 (.string rest)).trans (hB3.mono (HT.setK 1 (.string rest)).lt); clear m0 m1 m2 m3 m4 l0 l1 l2 l3 l4 gk gr; obtain ⟨m0, m1, m2, m3, m4, l0, l1, l2, l3, l4, gk, gr⟩ := T3.seen) | (go_at_call 16; refine (hb (by simp) _).mono ?_; rintro e W4 ⟨rfl, hB4⟩; have T4 := T3.below hB4; have B4 := B3.trans (hB4.mono T3.lt); clear m0 m1 m2 m3 m4 l0 l1 l2 l3 l4 gk gr; obtain ⟨m0, m1, m2, m3, m4, l0, l1, l2, l3, l4, gk, gr⟩ := T4.seen))
                refine bodyPost_ret (results_ct rfl _ _ w.heap.size 23 #[.int .i64 0, .string ⟨#[]⟩, .string ⟨#[]⟩, .int .i64 0, .int .i64 0] (0, 0) _ rfl (((((T4.setR 0 _).setR 1 _).setR 2 _).setR 3 _).setR 4 _).r Try.underlying23 rfl (by kernel_rfl)) rfl ?_
                refine ⟨?_, setR5 B4 _ _ _ _ _⟩
                unfold refParsed
                rw [if_neg (fun h => by rw [h.2] at hbs; simp at hbs)]
                rfl
              · go_wp2_with (first | (go_at_call 14; refine (hm _).mono ?_; rintro e W3 ⟨rfl, hB3⟩; have T3 : Two W3 w.heap.size #[.int .i64 0, .string ⟨#[]⟩, .string ⟨#[]⟩, .int .i64 0, .int .i64 0] #[.int .i64 (kd), .string rest, .string ⟨#[]⟩, .int .i64 (0), .int .i64 (0)] := (HT.setK 1 (.string rest)).below hB3; have B3 := (setK1 HB 1 (.string rest)).trans (hB3.mono (HT.setK 1 (.string rest)).lt); clear m0 m1 m2 m3 m4 l0 l1 l2 l3 l4 gk gr; obtain ⟨m0, m1, m2, m3, m4, l0, l1, l2, l3, l4, gk, gr⟩ := T3.seen) | (go_at_call 16; refine (hb (by simp) _).mono ?_; rintro e W4 ⟨rfl, hB4⟩; have T4 := T3.below hB4; have B4 := B3.trans (hB4.mono T3.lt); clear m0 m1 m2 m3 m4 l0 l1 l2 l3 l4 gk gr; obtain ⟨m0, m1, m2, m3, m4, l0, l1, l2, l3, l4, gk, gr⟩ := T4.seen))
                refine bodyPost_ret (results_ct rfl _ _ w.heap.size 23 #[.int .i64 (kd), .string rest, .string ⟨#[]⟩, .int .i64 (0), .int .i64 (0)] (0, 0) _ rfl (((((T4.setR 0 _).setR 1 _).setR 2 _).setR 3 _).setR 4 _).r Try.underlying23 rfl (by kernel_rfl)) rfl ?_
                refine ⟨?_, setR5 B4 _ _ _ _ _⟩
                unfold refParsed
                rw [if_pos ⟨rfl, by simpa using hbs⟩]
                rfl
set_option maxHeartbeats 4000000 in
set_option maxRecDepth 100000 in
theorem refParse_2s (s : ByteArray) (w : World) (hs0 : 0 < s.size) (hs : s.size ≤ 1000000) (x : UInt8) (hx : s[0]'hs0 = x) (kd : Int) (hk : kindR x = kd) (hk1 : 1 ≤ kd)
    (rest : ByteArray) (hr : s.extract 1 s.size = rest) (hrs : rest.size ≤ 1000000) (z : Int) (hz0 : 0 ≤ z) (hz1 : z ≤ rest.size) (hz2 : ∀ i, 0 ≤ i → i < z → bt rest i ≠ 0) (hz3 : z = rest.size ∨ z < rest.size ∧ bt rest z = 0)
    (c2 : (kd == 2) = true) (c3 : (kd == 3) = false) (c4 : (kd == 4) = false) (c6 : (kd == 6) = false) (c7 : (kd == 7) = false) (c9 : (kd == 9) = false) (hsh : (rest.size : Int) < 3) :
    Calls Try.prog 18 #[.string s] w fun e w' => e = .returned (.tuple #[.agg #[.int .i64 0, .string ⟨#[]⟩, .string ⟨#[]⟩, .int .i64 0, .int .i64 0], .bool false]) ∧ Below w.heap.size w w' := by
  have hemp := bytes_ne hs0
  go_enter Try.func18, Try.ntmps18
  go_wp2_with fail
  go_loopw [5, 8, 9, 10, 11, 12, 13, 14, 15, 16, 17, 18, 19, 20, 21, 22] (fun i _ _ _ _ _ _ _ _ _ _ _ _ _ _ _ wx => ∃ n : Int, 1 ≤ n ∧ n ≤ 11 ∧ i = .int .i64 n ∧ Two wx w.heap.size #[.int .i64 0, .string ⟨#[]⟩, .string ⟨#[]⟩, .int .i64 0, .int .i64 0] #[.int .i64 (if kd < n then kd else 0), .string ⟨#[]⟩, .string ⟨#[]⟩, .int .i64 0, .int .i64 0] ∧ Below w.heap.size w wx) (fun i _ _ _ _ _ _ _ _ _ _ _ _ _ _ _ wx => 11 - (intOf i).toNat)
  case atStart =>
    have := kindR_range x
    have e : (if kd < 1 then kd else 0) = 0 := by split <;> omega
    exact ⟨1, by omega, by omega, rfl, by rw [e]; exact two0 w _ _, alloc2_below w _ _⟩
  case round =>
    obtain ⟨n, hn1, hn2, rfl, HT, HB⟩ := hrel
    have hkr := kindR_range x
    rw [hk] at hkr
    generalize hko : (if kd < n then kd else 0) = ko at HT
    obtain ⟨m0, m1, m2, m3, m4, l0, l1, l2, l3, l4, gk, gr⟩ := HT.seen
    by_cases hlt : n ≤ 10
    · have hd1 : decide (n ≤ 10) = true := decide_eq_true hlt
      have h0 : 0 ≤ n := by omega
      have h11 : n < 11 := by omega
      have hbt := bt_at ⟨#[32, 110, 105, 99, 100, 112, 114, 117, 102, 103, 116]⟩ n
      have hy := kindR_at n hn1 hlt x
      rw [hk] at hy
      have HK : Aside ((if kd < n then kd else 0) = ko) := hko
      clear hko
      go_wp2_with fail
      by_cases hkn : kd = n
      · have hd2 := decide_eq_true hkn
        rw [hd2] at hy
        have hk2 : (if kd < n + 1 then kd else 0) = n := by rw [if_pos (by omega), hkn]
        go_quiet (fail)
        have T2 : Two (wr.drewN nq) w.heap.size #[.int .i64 0, .string ⟨#[]⟩, .string ⟨#[]⟩, .int .i64 0, .int .i64 0] #[.int .i64 ko, .string ⟨#[]⟩, .string ⟨#[]⟩, .int .i64 0, .int .i64 0] := ⟨HT.r, HT.k⟩
        have B2 : Below w.heap.size w (wr.drewN nq) := below_drawn HB nq
        clear m0 m1 m2 m3 m4 l0 l1 l2 l3 l4 gk gr HT HB
        generalize wr.drewN nq = W2 at T2 B2 ⊢
        obtain ⟨m0, m1, m2, m3, m4, l0, l1, l2, l3, l4, gk, gr⟩ := T2.seen
        go_wp2_with fail
        go_roundw
        case rel => exact ⟨n + 1, by omega, by omega, rfl, by rw [hk2]; exact T2.setK 0 _, setK1 B2 0 _⟩
        case measure => simp [intOf]; omega
      · have hd2 := decide_eq_false hkn
        rw [hd2] at hy
        have hk2 : (if kd < n + 1 then kd else 0) = ko := by rw [← HK]; by_cases c : kd < n; rw [if_pos c, if_pos (by omega)]; rw [if_neg c, if_neg (by omega)]
        go_quiet (fail)
        go_wp2_with fail
        go_roundw
        case rel => exact ⟨n + 1, by omega, by omega, rfl, by rw [hk2]; exact ⟨HT.r, HT.k⟩, below_drawn HB nq⟩
        case measure => simp [intOf]; omega
    · have hd1 : decide (n ≤ 10) = false := decide_eq_false hlt
      rw [if_pos (by omega)] at hko
      subst hko
      have hk0 : (kd == 0) = false := by rw [beq_eq_false_iff_ne]; omega
      go_wp2_with fail
      go_loop [7, 29, 30, 31, 32, 33, 34, 35, 36, 37, 38, 39, 40] (fun i _ _ _ _ _ _ _ _ _ _ _ _ => ∃ q : Int, 0 ≤ q ∧ q ≤ z ∧ i = .int .i64 q) (fun i _ _ _ _ _ _ _ _ _ _ _ _ => z.toNat - (intOf i).toNat)
      case atStart => exact ⟨0, by omega, hz0, rfl⟩
      case round =>
        obtain ⟨q, hq0, hq1, rfl⟩ := hrel
        have hbq := bt_at rest q
        by_cases hqz : q < z
        · have hqs : q < (rest.size : Int) := by omega
          have hqd := decide_eq_true hqs
          have hqn : (bt rest q != 0) = true := bne_iff_ne.2 (hz2 q hq0 hqz)
          have hwr : wrap64 (q + 1) = q + 1 := w64 (by omega) (by omega)
          go_wp2_with fail
          go_round
          case rel => exact ⟨q + 1, by omega, by omega, rfl⟩
          case measure => simp [intOf]; omega
        · obtain rfl : q = z := by omega
          rcases hz3 with hqe | ⟨hqs, hqe⟩
          · have hqd : decide (q < (rest.size : Int)) = false := decide_eq_false (by omega)
            have hl3 : decide ((rest.size : Int) < 3) = true := decide_eq_true (by omega)
            go_wp2_with fail
            refine bodyPost_ret (results_ct rfl _ _ w.heap.size 23 #[.int .i64 0, .string ⟨#[]⟩, .string ⟨#[]⟩, .int .i64 0, .int .i64 0] (0, 0) _ rfl (((((HT.setR 0 _).setR 1 _).setR 2 _).setR 3 _).setR 4 _).r Try.underlying23 rfl (by kernel_rfl)) rfl ?_
            refine ⟨?_, setR5 HB _ _ _ _ _⟩
            rfl
          · have hqd := decide_eq_true hqs
            have hqn : (bt rest q != 0) = false := bne_eq_false_iff_eq.2 hqe
            have hl3 : decide ((rest.size : Int) < 3) = true := decide_eq_true (by omega)
            go_wp2_with fail
            refine bodyPost_ret (results_ct rfl _ _ w.heap.size 23 #[.int .i64 0, .string ⟨#[]⟩, .string ⟨#[]⟩, .int .i64 0, .int .i64 0] (0, 0) _ rfl (((((HT.setR 0 _).setR 1 _).setR 2 _).setR 3 _).setR 4 _).r Try.underlying23 rfl (by kernel_rfl)) rfl ?_
            refine ⟨?_, setR5 HB _ _ _ _ _⟩
            rfl
set_option maxHeartbeats 4000000 in
set_option maxRecDepth 100000 in
theorem refParse_3s (s : ByteArray) (w : World) (hs0 : 0 < s.size) (hs : s.size ≤ 1000000) (x : UInt8) (hx : s[0]'hs0 = x) (kd : Int) (hk : kindR x = kd) (hk1 : 1 ≤ kd)
    (rest : ByteArray) (hr : s.extract 1 s.size = rest) (hrs : rest.size ≤ 1000000) (z : Int) (hz0 : 0 ≤ z) (hz1 : z ≤ rest.size) (hz2 : ∀ i, 0 ≤ i → i < z → bt rest i ≠ 0) (hz3 : z = rest.size ∨ z < rest.size ∧ bt rest z = 0)
    (c2 : (kd == 2) = false) (c3 : (kd == 3) = true) (c4 : (kd == 4) = false) (c6 : (kd == 6) = false) (c7 : (kd == 7) = false) (c9 : (kd == 9) = false) (hsh : (rest.size : Int) < 3) :
    Calls Try.prog 18 #[.string s] w fun e w' => e = .returned (.tuple #[.agg #[.int .i64 0, .string ⟨#[]⟩, .string ⟨#[]⟩, .int .i64 0, .int .i64 0], .bool false]) ∧ Below w.heap.size w w' := by
  have hemp := bytes_ne hs0
  go_enter Try.func18, Try.ntmps18
  go_wp2_with fail
  go_loopw [5, 8, 9, 10, 11, 12, 13, 14, 15, 16, 17, 18, 19, 20, 21, 22] (fun i _ _ _ _ _ _ _ _ _ _ _ _ _ _ _ wx => ∃ n : Int, 1 ≤ n ∧ n ≤ 11 ∧ i = .int .i64 n ∧ Two wx w.heap.size #[.int .i64 0, .string ⟨#[]⟩, .string ⟨#[]⟩, .int .i64 0, .int .i64 0] #[.int .i64 (if kd < n then kd else 0), .string ⟨#[]⟩, .string ⟨#[]⟩, .int .i64 0, .int .i64 0] ∧ Below w.heap.size w wx) (fun i _ _ _ _ _ _ _ _ _ _ _ _ _ _ _ wx => 11 - (intOf i).toNat)
  case atStart =>
    have := kindR_range x
    have e : (if kd < 1 then kd else 0) = 0 := by split <;> omega
    exact ⟨1, by omega, by omega, rfl, by rw [e]; exact two0 w _ _, alloc2_below w _ _⟩
  case round =>
    obtain ⟨n, hn1, hn2, rfl, HT, HB⟩ := hrel
    have hkr := kindR_range x
    rw [hk] at hkr
    generalize hko : (if kd < n then kd else 0) = ko at HT
    obtain ⟨m0, m1, m2, m3, m4, l0, l1, l2, l3, l4, gk, gr⟩ := HT.seen
    by_cases hlt : n ≤ 10
    · have hd1 : decide (n ≤ 10) = true := decide_eq_true hlt
      have h0 : 0 ≤ n := by omega
      have h11 : n < 11 := by omega
      have hbt := bt_at ⟨#[32, 110, 105, 99, 100, 112, 114, 117, 102, 103, 116]⟩ n
      have hy := kindR_at n hn1 hlt x
      rw [hk] at hy
      have HK : Aside ((if kd < n then kd else 0) = ko) := hko
      clear hko
      go_wp2_with fail
      by_cases hkn : kd = n
      · have hd2 := decide_eq_true hkn
        rw [hd2] at hy
        have hk2 : (if kd < n + 1 then kd else 0) = n := by rw [if_pos (by omega), hkn]
        go_quiet (fail)
        have T2 : Two (wr.drewN nq) w.heap.size #[.int .i64 0, .string ⟨#[]⟩, .string ⟨#[]⟩, .int .i64 0, .int .i64 0] #[.int .i64 ko, .string ⟨#[]⟩, .string ⟨#[]⟩, .int .i64 0, .int .i64 0] := ⟨HT.r, HT.k⟩
        have B2 : Below w.heap.size w (wr.drewN nq) := below_drawn HB nq
        clear m0 m1 m2 m3 m4 l0 l1 l2 l3 l4 gk gr HT HB
        generalize wr.drewN nq = W2 at T2 B2 ⊢
        obtain ⟨m0, m1, m2, m3, m4, l0, l1, l2, l3, l4, gk, gr⟩ := T2.seen
        go_wp2_with fail
        go_roundw
        case rel => exact ⟨n + 1, by omega, by omega, rfl, by rw [hk2]; exact T2.setK 0 _, setK1 B2 0 _⟩
        case measure => simp [intOf]; omega
      · have hd2 := decide_eq_false hkn
        rw [hd2] at hy
        have hk2 : (if kd < n + 1 then kd else 0) = ko := by rw [← HK]; by_cases c : kd < n; rw [if_pos c, if_pos (by omega)]; rw [if_neg c, if_neg (by omega)]
        go_quiet (fail)
        go_wp2_with fail
        go_roundw
        case rel => exact ⟨n + 1, by omega, by omega, rfl, by rw [hk2]; exact ⟨HT.r, HT.k⟩, below_drawn HB nq⟩
        case measure => simp [intOf]; omega
    · have hd1 : decide (n ≤ 10) = false := decide_eq_false hlt
      rw [if_pos (by omega)] at hko
      subst hko
      have hk0 : (kd == 0) = false := by rw [beq_eq_false_iff_ne]; omega
      go_wp2_with fail
      go_loop [7, 29, 30, 31, 32, 33, 34, 35, 36, 37, 38, 39, 40] (fun i _ _ _ _ _ _ _ _ _ _ _ _ => ∃ q : Int, 0 ≤ q ∧ q ≤ z ∧ i = .int .i64 q) (fun i _ _ _ _ _ _ _ _ _ _ _ _ => z.toNat - (intOf i).toNat)
      case atStart => exact ⟨0, by omega, hz0, rfl⟩
      case round =>
        obtain ⟨q, hq0, hq1, rfl⟩ := hrel
        have hbq := bt_at rest q
        by_cases hqz : q < z
        · have hqs : q < (rest.size : Int) := by omega
          have hqd := decide_eq_true hqs
          have hqn : (bt rest q != 0) = true := bne_iff_ne.2 (hz2 q hq0 hqz)
          have hwr : wrap64 (q + 1) = q + 1 := w64 (by omega) (by omega)
          go_wp2_with fail
          go_round
          case rel => exact ⟨q + 1, by omega, by omega, rfl⟩
          case measure => simp [intOf]; omega
        · obtain rfl : q = z := by omega
          rcases hz3 with hqe | ⟨hqs, hqe⟩
          · have hqd : decide (q < (rest.size : Int)) = false := decide_eq_false (by omega)
            have hl3 : decide ((rest.size : Int) < 3) = true := decide_eq_true (by omega)
            go_wp2_with fail
            refine bodyPost_ret (results_ct rfl _ _ w.heap.size 23 #[.int .i64 0, .string ⟨#[]⟩, .string ⟨#[]⟩, .int .i64 0, .int .i64 0] (0, 0) _ rfl (((((HT.setR 0 _).setR 1 _).setR 2 _).setR 3 _).setR 4 _).r Try.underlying23 rfl (by kernel_rfl)) rfl ?_
            refine ⟨?_, setR5 HB _ _ _ _ _⟩
            rfl
          · have hqd := decide_eq_true hqs
            have hqn : (bt rest q != 0) = false := bne_eq_false_iff_eq.2 hqe
            have hl3 : decide ((rest.size : Int) < 3) = true := decide_eq_true (by omega)
            go_wp2_with fail
            refine bodyPost_ret (results_ct rfl _ _ w.heap.size 23 #[.int .i64 0, .string ⟨#[]⟩, .string ⟨#[]⟩, .int .i64 0, .int .i64 0] (0, 0) _ rfl (((((HT.setR 0 _).setR 1 _).setR 2 _).setR 3 _).setR 4 _).r Try.underlying23 rfl (by kernel_rfl)) rfl ?_
            refine ⟨?_, setR5 HB _ _ _ _ _⟩
            rfl
set_option maxHeartbeats 4000000 in
set_option maxRecDepth 100000 in
theorem refParse_4s (s : ByteArray) (w : World) (hs0 : 0 < s.size) (hs : s.size ≤ 1000000) (x : UInt8) (hx : s[0]'hs0 = x) (kd : Int) (hk : kindR x = kd) (hk1 : 1 ≤ kd)
    (rest : ByteArray) (hr : s.extract 1 s.size = rest) (hrs : rest.size ≤ 1000000) (z : Int) (hz0 : 0 ≤ z) (hz1 : z ≤ rest.size) (hz2 : ∀ i, 0 ≤ i → i < z → bt rest i ≠ 0) (hz3 : z = rest.size ∨ z < rest.size ∧ bt rest z = 0)
    (c2 : (kd == 2) = false) (c3 : (kd == 3) = false) (c4 : (kd == 4) = true) (c6 : (kd == 6) = false) (c7 : (kd == 7) = false) (c9 : (kd == 9) = false) (hsh : (rest.size : Int) < 3) :
    Calls Try.prog 18 #[.string s] w fun e w' => e = .returned (.tuple #[.agg #[.int .i64 0, .string ⟨#[]⟩, .string ⟨#[]⟩, .int .i64 0, .int .i64 0], .bool false]) ∧ Below w.heap.size w w' := by
  have hemp := bytes_ne hs0
  go_enter Try.func18, Try.ntmps18
  go_wp2_with fail
  go_loopw [5, 8, 9, 10, 11, 12, 13, 14, 15, 16, 17, 18, 19, 20, 21, 22] (fun i _ _ _ _ _ _ _ _ _ _ _ _ _ _ _ wx => ∃ n : Int, 1 ≤ n ∧ n ≤ 11 ∧ i = .int .i64 n ∧ Two wx w.heap.size #[.int .i64 0, .string ⟨#[]⟩, .string ⟨#[]⟩, .int .i64 0, .int .i64 0] #[.int .i64 (if kd < n then kd else 0), .string ⟨#[]⟩, .string ⟨#[]⟩, .int .i64 0, .int .i64 0] ∧ Below w.heap.size w wx) (fun i _ _ _ _ _ _ _ _ _ _ _ _ _ _ _ wx => 11 - (intOf i).toNat)
  case atStart =>
    have := kindR_range x
    have e : (if kd < 1 then kd else 0) = 0 := by split <;> omega
    exact ⟨1, by omega, by omega, rfl, by rw [e]; exact two0 w _ _, alloc2_below w _ _⟩
  case round =>
    obtain ⟨n, hn1, hn2, rfl, HT, HB⟩ := hrel
    have hkr := kindR_range x
    rw [hk] at hkr
    generalize hko : (if kd < n then kd else 0) = ko at HT
    obtain ⟨m0, m1, m2, m3, m4, l0, l1, l2, l3, l4, gk, gr⟩ := HT.seen
    by_cases hlt : n ≤ 10
    · have hd1 : decide (n ≤ 10) = true := decide_eq_true hlt
      have h0 : 0 ≤ n := by omega
      have h11 : n < 11 := by omega
      have hbt := bt_at ⟨#[32, 110, 105, 99, 100, 112, 114, 117, 102, 103, 116]⟩ n
      have hy := kindR_at n hn1 hlt x
      rw [hk] at hy
      have HK : Aside ((if kd < n then kd else 0) = ko) := hko
      clear hko
      go_wp2_with fail
      by_cases hkn : kd = n
      · have hd2 := decide_eq_true hkn
        rw [hd2] at hy
        have hk2 : (if kd < n + 1 then kd else 0) = n := by rw [if_pos (by omega), hkn]
        go_quiet (fail)
        have T2 : Two (wr.drewN nq) w.heap.size #[.int .i64 0, .string ⟨#[]⟩, .string ⟨#[]⟩, .int .i64 0, .int .i64 0] #[.int .i64 ko, .string ⟨#[]⟩, .string ⟨#[]⟩, .int .i64 0, .int .i64 0] := ⟨HT.r, HT.k⟩
        have B2 : Below w.heap.size w (wr.drewN nq) := below_drawn HB nq
        clear m0 m1 m2 m3 m4 l0 l1 l2 l3 l4 gk gr HT HB
        generalize wr.drewN nq = W2 at T2 B2 ⊢
        obtain ⟨m0, m1, m2, m3, m4, l0, l1, l2, l3, l4, gk, gr⟩ := T2.seen
        go_wp2_with fail
        go_roundw
        case rel => exact ⟨n + 1, by omega, by omega, rfl, by rw [hk2]; exact T2.setK 0 _, setK1 B2 0 _⟩
        case measure => simp [intOf]; omega
      · have hd2 := decide_eq_false hkn
        rw [hd2] at hy
        have hk2 : (if kd < n + 1 then kd else 0) = ko := by rw [← HK]; by_cases c : kd < n; rw [if_pos c, if_pos (by omega)]; rw [if_neg c, if_neg (by omega)]
        go_quiet (fail)
        go_wp2_with fail
        go_roundw
        case rel => exact ⟨n + 1, by omega, by omega, rfl, by rw [hk2]; exact ⟨HT.r, HT.k⟩, below_drawn HB nq⟩
        case measure => simp [intOf]; omega
    · have hd1 : decide (n ≤ 10) = false := decide_eq_false hlt
      rw [if_pos (by omega)] at hko
      subst hko
      have hk0 : (kd == 0) = false := by rw [beq_eq_false_iff_ne]; omega
      go_wp2_with fail
      go_loop [7, 29, 30, 31, 32, 33, 34, 35, 36, 37, 38, 39, 40] (fun i _ _ _ _ _ _ _ _ _ _ _ _ => ∃ q : Int, 0 ≤ q ∧ q ≤ z ∧ i = .int .i64 q) (fun i _ _ _ _ _ _ _ _ _ _ _ _ => z.toNat - (intOf i).toNat)
      case atStart => exact ⟨0, by omega, hz0, rfl⟩
      case round =>
        obtain ⟨q, hq0, hq1, rfl⟩ := hrel
        have hbq := bt_at rest q
        by_cases hqz : q < z
        · have hqs : q < (rest.size : Int) := by omega
          have hqd := decide_eq_true hqs
          have hqn : (bt rest q != 0) = true := bne_iff_ne.2 (hz2 q hq0 hqz)
          have hwr : wrap64 (q + 1) = q + 1 := w64 (by omega) (by omega)
          go_wp2_with fail
          go_round
          case rel => exact ⟨q + 1, by omega, by omega, rfl⟩
          case measure => simp [intOf]; omega
        · obtain rfl : q = z := by omega
          rcases hz3 with hqe | ⟨hqs, hqe⟩
          · have hqd : decide (q < (rest.size : Int)) = false := decide_eq_false (by omega)
            have hl3 : decide ((rest.size : Int) < 3) = true := decide_eq_true (by omega)
            go_wp2_with fail
            refine bodyPost_ret (results_ct rfl _ _ w.heap.size 23 #[.int .i64 0, .string ⟨#[]⟩, .string ⟨#[]⟩, .int .i64 0, .int .i64 0] (0, 0) _ rfl (((((HT.setR 0 _).setR 1 _).setR 2 _).setR 3 _).setR 4 _).r Try.underlying23 rfl (by kernel_rfl)) rfl ?_
            refine ⟨?_, setR5 HB _ _ _ _ _⟩
            rfl
          · have hqd := decide_eq_true hqs
            have hqn : (bt rest q != 0) = false := bne_eq_false_iff_eq.2 hqe
            have hl3 : decide ((rest.size : Int) < 3) = true := decide_eq_true (by omega)
            go_wp2_with fail
            refine bodyPost_ret (results_ct rfl _ _ w.heap.size 23 #[.int .i64 0, .string ⟨#[]⟩, .string ⟨#[]⟩, .int .i64 0, .int .i64 0] (0, 0) _ rfl (((((HT.setR 0 _).setR 1 _).setR 2 _).setR 3 _).setR 4 _).r Try.underlying23 rfl (by kernel_rfl)) rfl ?_
            refine ⟨?_, setR5 HB _ _ _ _ _⟩
            rfl
set_option maxHeartbeats 4000000 in
set_option maxRecDepth 100000 in
theorem refParse_3t (s : ByteArray) (w : World) (hs0 : 0 < s.size) (hs : s.size ≤ 1000000) (x : UInt8) (hx : s[0]'hs0 = x) (kd : Int) (hk : kindR x = kd) (hk1 : 1 ≤ kd)
    (rest : ByteArray) (hr : s.extract 1 s.size = rest) (hrs : rest.size ≤ 1000000) (z : Int) (hz0 : 0 ≤ z) (hz1 : z ≤ rest.size) (hz2 : ∀ i, 0 ≤ i → i < z → bt rest i ≠ 0) (hz3 : z = rest.size ∨ z < rest.size ∧ bt rest z = 0)
    (c2 : (kd == 2) = false) (c3 : (kd == 3) = true) (c4 : (kd == 4) = false) (c6 : (kd == 6) = false) (c7 : (kd == 7) = false) (c9 : (kd == 9) = false) (hsh : ¬ (rest.size : Int) < 3) (hsh5 : (rest.size : Int) < 5) :
    Calls Try.prog 18 #[.string s] w fun e w' => e = .returned (.tuple #[.agg #[.int .i64 0, .string ⟨#[]⟩, .string ⟨#[]⟩, .int .i64 0, .int .i64 0], .bool false]) ∧ Below w.heap.size w w' := by
  have hemp := bytes_ne hs0
  go_enter Try.func18, Try.ntmps18
  go_wp2_with fail
  go_loopw [5, 8, 9, 10, 11, 12, 13, 14, 15, 16, 17, 18, 19, 20, 21, 22] (fun i _ _ _ _ _ _ _ _ _ _ _ _ _ _ _ wx => ∃ n : Int, 1 ≤ n ∧ n ≤ 11 ∧ i = .int .i64 n ∧ Two wx w.heap.size #[.int .i64 0, .string ⟨#[]⟩, .string ⟨#[]⟩, .int .i64 0, .int .i64 0] #[.int .i64 (if kd < n then kd else 0), .string ⟨#[]⟩, .string ⟨#[]⟩, .int .i64 0, .int .i64 0] ∧ Below w.heap.size w wx) (fun i _ _ _ _ _ _ _ _ _ _ _ _ _ _ _ wx => 11 - (intOf i).toNat)
  case atStart =>
    have := kindR_range x
    have e : (if kd < 1 then kd else 0) = 0 := by split <;> omega
    exact ⟨1, by omega, by omega, rfl, by rw [e]; exact two0 w _ _, alloc2_below w _ _⟩
  case round =>
    obtain ⟨n, hn1, hn2, rfl, HT, HB⟩ := hrel
    have hkr := kindR_range x
    rw [hk] at hkr
    generalize hko : (if kd < n then kd else 0) = ko at HT
    obtain ⟨m0, m1, m2, m3, m4, l0, l1, l2, l3, l4, gk, gr⟩ := HT.seen
    by_cases hlt : n ≤ 10
    · have hd1 : decide (n ≤ 10) = true := decide_eq_true hlt
      have h0 : 0 ≤ n := by omega
      have h11 : n < 11 := by omega
      have hbt := bt_at ⟨#[32, 110, 105, 99, 100, 112, 114, 117, 102, 103, 116]⟩ n
      have hy := kindR_at n hn1 hlt x
      rw [hk] at hy
      have HK : Aside ((if kd < n then kd else 0) = ko) := hko
      clear hko
      go_wp2_with fail
      by_cases hkn : kd = n
      · have hd2 := decide_eq_true hkn
        rw [hd2] at hy
        have hk2 : (if kd < n + 1 then kd else 0) = n := by rw [if_pos (by omega), hkn]
        go_quiet (fail)
        have T2 : Two (wr.drewN nq) w.heap.size #[.int .i64 0, .string ⟨#[]⟩, .string ⟨#[]⟩, .int .i64 0, .int .i64 0] #[.int .i64 ko, .string ⟨#[]⟩, .string ⟨#[]⟩, .int .i64 0, .int .i64 0] := ⟨HT.r, HT.k⟩
        have B2 : Below w.heap.size w (wr.drewN nq) := below_drawn HB nq
        clear m0 m1 m2 m3 m4 l0 l1 l2 l3 l4 gk gr HT HB
        generalize wr.drewN nq = W2 at T2 B2 ⊢
        obtain ⟨m0, m1, m2, m3, m4, l0, l1, l2, l3, l4, gk, gr⟩ := T2.seen
        go_wp2_with fail
        go_roundw
        case rel => exact ⟨n + 1, by omega, by omega, rfl, by rw [hk2]; exact T2.setK 0 _, setK1 B2 0 _⟩
        case measure => simp [intOf]; omega
      · have hd2 := decide_eq_false hkn
        rw [hd2] at hy
        have hk2 : (if kd < n + 1 then kd else 0) = ko := by rw [← HK]; by_cases c : kd < n; rw [if_pos c, if_pos (by omega)]; rw [if_neg c, if_neg (by omega)]
        go_quiet (fail)
        go_wp2_with fail
        go_roundw
        case rel => exact ⟨n + 1, by omega, by omega, rfl, by rw [hk2]; exact ⟨HT.r, HT.k⟩, below_drawn HB nq⟩
        case measure => simp [intOf]; omega
    · have hd1 : decide (n ≤ 10) = false := decide_eq_false hlt
      rw [if_pos (by omega)] at hko
      subst hko
      have hk0 : (kd == 0) = false := by rw [beq_eq_false_iff_ne]; omega
      go_wp2_with fail
      go_loop [7, 29, 30, 31, 32, 33, 34, 35, 36, 37, 38, 39, 40] (fun i _ _ _ _ _ _ _ _ _ _ _ _ => ∃ q : Int, 0 ≤ q ∧ q ≤ z ∧ i = .int .i64 q) (fun i _ _ _ _ _ _ _ _ _ _ _ _ => z.toNat - (intOf i).toNat)
      case atStart => exact ⟨0, by omega, hz0, rfl⟩
      case round =>
        obtain ⟨q, hq0, hq1, rfl⟩ := hrel
        have hbq := bt_at rest q
        by_cases hqz : q < z
        · have hqs : q < (rest.size : Int) := by omega
          have hqd := decide_eq_true hqs
          have hqn : (bt rest q != 0) = true := bne_iff_ne.2 (hz2 q hq0 hqz)
          have hwr : wrap64 (q + 1) = q + 1 := w64 (by omega) (by omega)
          go_wp2_with fail
          go_round
          case rel => exact ⟨q + 1, by omega, by omega, rfl⟩
          case measure => simp [intOf]; omega
        · obtain rfl : q = z := by omega
          rcases hz3 with hqe | ⟨hqs, hqe⟩
          · have hqd : decide (q < (rest.size : Int)) = false := decide_eq_false (by omega)
            have hl3 : decide ((rest.size : Int) < 3) = false := decide_eq_false (by omega)
            have hl5 : decide ((rest.size : Int) < 5) = true := decide_eq_true (by omega)
            go_wp2_with fail
            refine bodyPost_ret (results_ct rfl _ _ w.heap.size 23 #[.int .i64 0, .string ⟨#[]⟩, .string ⟨#[]⟩, .int .i64 0, .int .i64 0] (0, 0) _ rfl (((((HT.setR 0 _).setR 1 _).setR 2 _).setR 3 _).setR 4 _).r Try.underlying23 rfl (by kernel_rfl)) rfl ?_
            refine ⟨?_, setR5 HB _ _ _ _ _⟩
            rfl
          · have hqd := decide_eq_true hqs
            have hqn : (bt rest q != 0) = false := bne_eq_false_iff_eq.2 hqe
            have hl3 : decide ((rest.size : Int) < 3) = false := decide_eq_false (by omega)
            have hl5 : decide ((rest.size : Int) < 5) = true := decide_eq_true (by omega)
            go_wp2_with fail
            refine bodyPost_ret (results_ct rfl _ _ w.heap.size 23 #[.int .i64 0, .string ⟨#[]⟩, .string ⟨#[]⟩, .int .i64 0, .int .i64 0] (0, 0) _ rfl (((((HT.setR 0 _).setR 1 _).setR 2 _).setR 3 _).setR 4 _).r Try.underlying23 rfl (by kernel_rfl)) rfl ?_
            refine ⟨?_, setR5 HB _ _ _ _ _⟩
            rfl
set_option maxHeartbeats 4000000 in
set_option maxRecDepth 100000 in
theorem refParse_2 (s : ByteArray) (w : World) (hs0 : 0 < s.size) (hs : s.size ≤ 1000000) (x : UInt8) (hx : s[0]'hs0 = x) (kd : Int) (hk : kindR x = kd) (hk1 : 1 ≤ kd)
    (rest : ByteArray) (hr : s.extract 1 s.size = rest) (hrs : rest.size ≤ 1000000) (z : Int) (hz0 : 0 ≤ z) (hz1 : z ≤ rest.size) (hz2 : ∀ i, 0 ≤ i → i < z → bt rest i ≠ 0) (hz3 : z = rest.size ∨ z < rest.size ∧ bt rest z = 0)
    (c2 : (kd == 2) = true) (c3 : (kd == 3) = false) (c4 : (kd == 4) = false) (c6 : (kd == 6) = false) (c7 : (kd == 7) = false) (c9 : (kd == 9) = false) (hsh : ¬ (rest.size : Int) < 3) (v : Int) (hrd : ReadIs rest v)
    (m : Bool) (hm : MayIs kd ⟨#[]⟩ ⟨#[]⟩ v 0 m) (b : ByteArray) (hb : m = true → RefBytesIs kd ⟨#[]⟩ ⟨#[]⟩ v 0 b) :
    Calls Try.prog 18 #[.string s] w fun e w' => e = .returned (refParsed s kd ⟨#[]⟩ ⟨#[]⟩ v 0 m b) ∧ Below w.heap.size w w' := by
  have hemp := bytes_ne hs0
  go_enter Try.func18, Try.ntmps18
  go_wp2_with fail
  go_loopw [5, 8, 9, 10, 11, 12, 13, 14, 15, 16, 17, 18, 19, 20, 21, 22] (fun i _ _ _ _ _ _ _ _ _ _ _ _ _ _ _ wx => ∃ n : Int, 1 ≤ n ∧ n ≤ 11 ∧ i = .int .i64 n ∧ Two wx w.heap.size #[.int .i64 0, .string ⟨#[]⟩, .string ⟨#[]⟩, .int .i64 0, .int .i64 0] #[.int .i64 (if kd < n then kd else 0), .string ⟨#[]⟩, .string ⟨#[]⟩, .int .i64 0, .int .i64 0] ∧ Below w.heap.size w wx) (fun i _ _ _ _ _ _ _ _ _ _ _ _ _ _ _ wx => 11 - (intOf i).toNat)
  case atStart =>
    have := kindR_range x
    have e : (if kd < 1 then kd else 0) = 0 := by split <;> omega
    exact ⟨1, by omega, by omega, rfl, by rw [e]; exact two0 w _ _, alloc2_below w _ _⟩
  case round =>
    obtain ⟨n, hn1, hn2, rfl, HT, HB⟩ := hrel
    have hkr := kindR_range x
    rw [hk] at hkr
    generalize hko : (if kd < n then kd else 0) = ko at HT
    obtain ⟨m0, m1, m2, m3, m4, l0, l1, l2, l3, l4, gk, gr⟩ := HT.seen
    by_cases hlt : n ≤ 10
    · have hd1 : decide (n ≤ 10) = true := decide_eq_true hlt
      have h0 : 0 ≤ n := by omega
      have h11 : n < 11 := by omega
      have hbt := bt_at ⟨#[32, 110, 105, 99, 100, 112, 114, 117, 102, 103, 116]⟩ n
      have hy := kindR_at n hn1 hlt x
      rw [hk] at hy
      have HK : Aside ((if kd < n then kd else 0) = ko) := hko
      clear hko
      go_wp2_with fail
      by_cases hkn : kd = n
      · have hd2 := decide_eq_true hkn
        rw [hd2] at hy
        have hk2 : (if kd < n + 1 then kd else 0) = n := by rw [if_pos (by omega), hkn]
        go_quiet (fail)
        have T2 : Two (wr.drewN nq) w.heap.size #[.int .i64 0, .string ⟨#[]⟩, .string ⟨#[]⟩, .int .i64 0, .int .i64 0] #[.int .i64 ko, .string ⟨#[]⟩, .string ⟨#[]⟩, .int .i64 0, .int .i64 0] := ⟨HT.r, HT.k⟩
        have B2 : Below w.heap.size w (wr.drewN nq) := below_drawn HB nq
        clear m0 m1 m2 m3 m4 l0 l1 l2 l3 l4 gk gr HT HB
        generalize wr.drewN nq = W2 at T2 B2 ⊢
        obtain ⟨m0, m1, m2, m3, m4, l0, l1, l2, l3, l4, gk, gr⟩ := T2.seen
        go_wp2_with fail
        go_roundw
        case rel => exact ⟨n + 1, by omega, by omega, rfl, by rw [hk2]; exact T2.setK 0 _, setK1 B2 0 _⟩
        case measure => simp [intOf]; omega
      · have hd2 := decide_eq_false hkn
        rw [hd2] at hy
        have hk2 : (if kd < n + 1 then kd else 0) = ko := by rw [← HK]; by_cases c : kd < n; rw [if_pos c, if_pos (by omega)]; rw [if_neg c, if_neg (by omega)]
        go_quiet (fail)
        go_wp2_with fail
        go_roundw
        case rel => exact ⟨n + 1, by omega, by omega, rfl, by rw [hk2]; exact ⟨HT.r, HT.k⟩, below_drawn HB nq⟩
        case measure => simp [intOf]; omega
    · have hd1 : decide (n ≤ 10) = false := decide_eq_false hlt
      rw [if_pos (by omega)] at hko
      subst hko
      have hk0 : (kd == 0) = false := by rw [beq_eq_false_iff_ne]; omega
      go_wp2_with fail
      go_loop [7, 29, 30, 31, 32, 33, 34, 35, 36, 37, 38, 39, 40] (fun i _ _ _ _ _ _ _ _ _ _ _ _ => ∃ q : Int, 0 ≤ q ∧ q ≤ z ∧ i = .int .i64 q) (fun i _ _ _ _ _ _ _ _ _ _ _ _ => z.toNat - (intOf i).toNat)
      case atStart => exact ⟨0, by omega, hz0, rfl⟩
      case round =>
        obtain ⟨q, hq0, hq1, rfl⟩ := hrel
        have hbq := bt_at rest q
        by_cases hqz : q < z
        · have hqs : q < (rest.size : Int) := by omega
          have hqd := decide_eq_true hqs
          have hqn : (bt rest q != 0) = true := bne_iff_ne.2 (hz2 q hq0 hqz)
          have hwr : wrap64 (q + 1) = q + 1 := w64 (by omega) (by omega)
          go_wp2_with fail
          go_round
          case rel => exact ⟨q + 1, by omega, by omega, rfl⟩
          case measure => simp [intOf]; omega
        · obtain rfl : q = z := by omega
          rcases hz3 with hqe | ⟨hqs, hqe⟩
          · have hqd : decide (q < (rest.size : Int)) = false := decide_eq_false (by omega)
            have hl3 : decide ((rest.size : Int) < 3) = false := decide_eq_false (by omega)
            cases m
            · go_wp2_with (first | (go_at_call 33; refine (hrd _).mono ?_; rintro e W5 ⟨rfl, hB5⟩; have T5 := (HT).below hB5; have B5 := (HB).trans (hB5.mono (HT).lt); clear m0 m1 m2 m3 m4 l0 l1 l2 l3 l4 gk gr; obtain ⟨m0, m1, m2, m3, m4, l0, l1, l2, l3, l4, gk, gr⟩ := T5.seen) | (go_at_call 14; refine (hm _).mono ?_; rintro e W3 ⟨rfl, hB3⟩; have T3 : Two W3 w.heap.size #[.int .i64 0, .string ⟨#[]⟩, .string ⟨#[]⟩, .int .i64 0, .int .i64 0] #[.int .i64 (kd), .string ⟨#[]⟩, .string ⟨#[]⟩, .int .i64 (v), .int .i64 (0)] := (T5.setK 3 (.int .i64 v)).below hB3; have B3 := (setK1 B5 3 (.int .i64 v)).trans (hB3.mono (T5.setK 3 (.int .i64 v)).lt); clear m0 m1 m2 m3 m4 l0 l1 l2 l3 l4 gk gr; obtain ⟨m0, m1, m2, m3, m4, l0, l1, l2, l3, l4, gk, gr⟩ := T3.seen))
              refine bodyPost_ret (results_ct rfl _ _ w.heap.size 23 #[.int .i64 0, .string ⟨#[]⟩, .string ⟨#[]⟩, .int .i64 0, .int .i64 0] (0, 0) _ rfl (((((T3.setR 0 _).setR 1 _).setR 2 _).setR 3 _).setR 4 _).r Try.underlying23 rfl (by kernel_rfl)) rfl ?_
              refine ⟨?_, setR5 B3 _ _ _ _ _⟩
              unfold refParsed
              rw [if_neg (by simp)]
              rfl
            · cases hbs : (b.toList == s.toList)
              · go_wp2_with (first | (go_at_call 33; refine (hrd _).mono ?_; rintro e W5 ⟨rfl, hB5⟩; have T5 := (HT).below hB5; have B5 := (HB).trans (hB5.mono (HT).lt); clear m0 m1 m2 m3 m4 l0 l1 l2 l3 l4 gk gr; obtain ⟨m0, m1, m2, m3, m4, l0, l1, l2, l3, l4, gk, gr⟩ := T5.seen) | (go_at_call 14; refine (hm _).mono ?_; rintro e W3 ⟨rfl, hB3⟩; have T3 : Two W3 w.heap.size #[.int .i64 0, .string ⟨#[]⟩, .string ⟨#[]⟩, .int .i64 0, .int .i64 0] #[.int .i64 (kd), .string ⟨#[]⟩, .string ⟨#[]⟩, .int .i64 (v), .int .i64 (0)] := (T5.setK 3 (.int .i64 v)).below hB3; have B3 := (setK1 B5 3 (.int .i64 v)).trans (hB3.mono (T5.setK 3 (.int .i64 v)).lt); clear m0 m1 m2 m3 m4 l0 l1 l2 l3 l4 gk gr; obtain ⟨m0, m1, m2, m3, m4, l0, l1, l2, l3, l4, gk, gr⟩ := T3.seen) | (go_at_call 16; refine (hb (by simp) _).mono ?_; rintro e W4 ⟨rfl, hB4⟩; have T4 := T3.below hB4; have B4 := B3.trans (hB4.mono T3.lt); clear m0 m1 m2 m3 m4 l0 l1 l2 l3 l4 gk gr; obtain ⟨m0, m1, m2, m3, m4, l0, l1, l2, l3, l4, gk, gr⟩ := T4.seen))
                refine bodyPost_ret (results_ct rfl _ _ w.heap.size 23 #[.int .i64 0, .string ⟨#[]⟩, .string ⟨#[]⟩, .int .i64 0, .int .i64 0] (0, 0) _ rfl (((((T4.setR 0 _).setR 1 _).setR 2 _).setR 3 _).setR 4 _).r Try.underlying23 rfl (by kernel_rfl)) rfl ?_
                refine ⟨?_, setR5 B4 _ _ _ _ _⟩
                unfold refParsed
                rw [if_neg (fun h => by rw [h.2] at hbs; simp at hbs)]
                rfl
              · go_wp2_with (first | (go_at_call 33; refine (hrd _).mono ?_; rintro e W5 ⟨rfl, hB5⟩; have T5 := (HT).below hB5; have B5 := (HB).trans (hB5.mono (HT).lt); clear m0 m1 m2 m3 m4 l0 l1 l2 l3 l4 gk gr; obtain ⟨m0, m1, m2, m3, m4, l0, l1, l2, l3, l4, gk, gr⟩ := T5.seen) | (go_at_call 14; refine (hm _).mono ?_; rintro e W3 ⟨rfl, hB3⟩; have T3 : Two W3 w.heap.size #[.int .i64 0, .string ⟨#[]⟩, .string ⟨#[]⟩, .int .i64 0, .int .i64 0] #[.int .i64 (kd), .string ⟨#[]⟩, .string ⟨#[]⟩, .int .i64 (v), .int .i64 (0)] := (T5.setK 3 (.int .i64 v)).below hB3; have B3 := (setK1 B5 3 (.int .i64 v)).trans (hB3.mono (T5.setK 3 (.int .i64 v)).lt); clear m0 m1 m2 m3 m4 l0 l1 l2 l3 l4 gk gr; obtain ⟨m0, m1, m2, m3, m4, l0, l1, l2, l3, l4, gk, gr⟩ := T3.seen) | (go_at_call 16; refine (hb (by simp) _).mono ?_; rintro e W4 ⟨rfl, hB4⟩; have T4 := T3.below hB4; have B4 := B3.trans (hB4.mono T3.lt); clear m0 m1 m2 m3 m4 l0 l1 l2 l3 l4 gk gr; obtain ⟨m0, m1, m2, m3, m4, l0, l1, l2, l3, l4, gk, gr⟩ := T4.seen))
                refine bodyPost_ret (results_ct rfl _ _ w.heap.size 23 #[.int .i64 (kd), .string ⟨#[]⟩, .string ⟨#[]⟩, .int .i64 (v), .int .i64 (0)] (0, 0) _ rfl (((((T4.setR 0 _).setR 1 _).setR 2 _).setR 3 _).setR 4 _).r Try.underlying23 rfl (by kernel_rfl)) rfl ?_
                refine ⟨?_, setR5 B4 _ _ _ _ _⟩
                unfold refParsed
                rw [if_pos ⟨rfl, by simpa using hbs⟩]
                rfl
          · have hqd := decide_eq_true hqs
            have hqn : (bt rest q != 0) = false := bne_eq_false_iff_eq.2 hqe
            have hl3 : decide ((rest.size : Int) < 3) = false := decide_eq_false (by omega)
            cases m
            · go_wp2_with (first | (go_at_call 33; refine (hrd _).mono ?_; rintro e W5 ⟨rfl, hB5⟩; have T5 := (HT).below hB5; have B5 := (HB).trans (hB5.mono (HT).lt); clear m0 m1 m2 m3 m4 l0 l1 l2 l3 l4 gk gr; obtain ⟨m0, m1, m2, m3, m4, l0, l1, l2, l3, l4, gk, gr⟩ := T5.seen) | (go_at_call 14; refine (hm _).mono ?_; rintro e W3 ⟨rfl, hB3⟩; have T3 : Two W3 w.heap.size #[.int .i64 0, .string ⟨#[]⟩, .string ⟨#[]⟩, .int .i64 0, .int .i64 0] #[.int .i64 (kd), .string ⟨#[]⟩, .string ⟨#[]⟩, .int .i64 (v), .int .i64 (0)] := (T5.setK 3 (.int .i64 v)).below hB3; have B3 := (setK1 B5 3 (.int .i64 v)).trans (hB3.mono (T5.setK 3 (.int .i64 v)).lt); clear m0 m1 m2 m3 m4 l0 l1 l2 l3 l4 gk gr; obtain ⟨m0, m1, m2, m3, m4, l0, l1, l2, l3, l4, gk, gr⟩ := T3.seen))
              refine bodyPost_ret (results_ct rfl _ _ w.heap.size 23 #[.int .i64 0, .string ⟨#[]⟩, .string ⟨#[]⟩, .int .i64 0, .int .i64 0] (0, 0) _ rfl (((((T3.setR 0 _).setR 1 _).setR 2 _).setR 3 _).setR 4 _).r Try.underlying23 rfl (by kernel_rfl)) rfl ?_
              refine ⟨?_, setR5 B3 _ _ _ _ _⟩
              unfold refParsed
              rw [if_neg (by simp)]
              rfl
            · cases hbs : (b.toList == s.toList)
              · go_wp2_with (first | (go_at_call 33; refine (hrd _).mono ?_; rintro e W5 ⟨rfl, hB5⟩; have T5 := (HT).below hB5; have B5 := (HB).trans (hB5.mono (HT).lt); clear m0 m1 m2 m3 m4 l0 l1 l2 l3 l4 gk gr; obtain ⟨m0, m1, m2, m3, m4, l0, l1, l2, l3, l4, gk, gr⟩ := T5.seen) | (go_at_call 14; refine (hm _).mono ?_; rintro e W3 ⟨rfl, hB3⟩; have T3 : Two W3 w.heap.size #[.int .i64 0, .string ⟨#[]⟩, .string ⟨#[]⟩, .int .i64 0, .int .i64 0] #[.int .i64 (kd), .string ⟨#[]⟩, .string ⟨#[]⟩, .int .i64 (v), .int .i64 (0)] := (T5.setK 3 (.int .i64 v)).below hB3; have B3 := (setK1 B5 3 (.int .i64 v)).trans (hB3.mono (T5.setK 3 (.int .i64 v)).lt); clear m0 m1 m2 m3 m4 l0 l1 l2 l3 l4 gk gr; obtain ⟨m0, m1, m2, m3, m4, l0, l1, l2, l3, l4, gk, gr⟩ := T3.seen) | (go_at_call 16; refine (hb (by simp) _).mono ?_; rintro e W4 ⟨rfl, hB4⟩; have T4 := T3.below hB4; have B4 := B3.trans (hB4.mono T3.lt); clear m0 m1 m2 m3 m4 l0 l1 l2 l3 l4 gk gr; obtain ⟨m0, m1, m2, m3, m4, l0, l1, l2, l3, l4, gk, gr⟩ := T4.seen))
                refine bodyPost_ret (results_ct rfl _ _ w.heap.size 23 #[.int .i64 0, .string ⟨#[]⟩, .string ⟨#[]⟩, .int .i64 0, .int .i64 0] (0, 0) _ rfl (((((T4.setR 0 _).setR 1 _).setR 2 _).setR 3 _).setR 4 _).r Try.underlying23 rfl (by kernel_rfl)) rfl ?_
                refine ⟨?_, setR5 B4 _ _ _ _ _⟩
                unfold refParsed
                rw [if_neg (fun h => by rw [h.2] at hbs; simp at hbs)]
                rfl
              · go_wp2_with (first | (go_at_call 33; refine (hrd _).mono ?_; rintro e W5 ⟨rfl, hB5⟩; have T5 := (HT).below hB5; have B5 := (HB).trans (hB5.mono (HT).lt); clear m0 m1 m2 m3 m4 l0 l1 l2 l3 l4 gk gr; obtain ⟨m0, m1, m2, m3, m4, l0, l1, l2, l3, l4, gk, gr⟩ := T5.seen) | (go_at_call 14; refine (hm _).mono ?_; rintro e W3 ⟨rfl, hB3⟩; have T3 : Two W3 w.heap.size #[.int .i64 0, .string ⟨#[]⟩, .string ⟨#[]⟩, .int .i64 0, .int .i64 0] #[.int .i64 (kd), .string ⟨#[]⟩, .string ⟨#[]⟩, .int .i64 (v), .int .i64 (0)] := (T5.setK 3 (.int .i64 v)).below hB3; have B3 := (setK1 B5 3 (.int .i64 v)).trans (hB3.mono (T5.setK 3 (.int .i64 v)).lt); clear m0 m1 m2 m3 m4 l0 l1 l2 l3 l4 gk gr; obtain ⟨m0, m1, m2, m3, m4, l0, l1, l2, l3, l4, gk, gr⟩ := T3.seen) | (go_at_call 16; refine (hb (by simp) _).mono ?_; rintro e W4 ⟨rfl, hB4⟩; have T4 := T3.below hB4; have B4 := B3.trans (hB4.mono T3.lt); clear m0 m1 m2 m3 m4 l0 l1 l2 l3 l4 gk gr; obtain ⟨m0, m1, m2, m3, m4, l0, l1, l2, l3, l4, gk, gr⟩ := T4.seen))
                refine bodyPost_ret (results_ct rfl _ _ w.heap.size 23 #[.int .i64 (kd), .string ⟨#[]⟩, .string ⟨#[]⟩, .int .i64 (v), .int .i64 (0)] (0, 0) _ rfl (((((T4.setR 0 _).setR 1 _).setR 2 _).setR 3 _).setR 4 _).r Try.underlying23 rfl (by kernel_rfl)) rfl ?_
                refine ⟨?_, setR5 B4 _ _ _ _ _⟩
                unfold refParsed
                rw [if_pos ⟨rfl, by simpa using hbs⟩]
                rfl
set_option maxHeartbeats 4000000 in
set_option maxRecDepth 100000 in
theorem refParse_4 (s : ByteArray) (w : World) (hs0 : 0 < s.size) (hs : s.size ≤ 1000000) (x : UInt8) (hx : s[0]'hs0 = x) (kd : Int) (hk : kindR x = kd) (hk1 : 1 ≤ kd)
    (rest : ByteArray) (hr : s.extract 1 s.size = rest) (hrs : rest.size ≤ 1000000) (z : Int) (hz0 : 0 ≤ z) (hz1 : z ≤ rest.size) (hz2 : ∀ i, 0 ≤ i → i < z → bt rest i ≠ 0) (hz3 : z = rest.size ∨ z < rest.size ∧ bt rest z = 0)
    (c2 : (kd == 2) = false) (c3 : (kd == 3) = false) (c4 : (kd == 4) = true) (c6 : (kd == 6) = false) (c7 : (kd == 7) = false) (c9 : (kd == 9) = false) (hsh : ¬ (rest.size : Int) < 3) (v : Int) (hrd : ReadIs rest v) (ca : ByteArray) (hca : rest.extract 3 rest.size = ca)
    (m : Bool) (hm : MayIs kd ca ⟨#[]⟩ v 0 m) (b : ByteArray) (hb : m = true → RefBytesIs kd ca ⟨#[]⟩ v 0 b) :
    Calls Try.prog 18 #[.string s] w fun e w' => e = .returned (refParsed s kd ca ⟨#[]⟩ v 0 m b) ∧ Below w.heap.size w w' := by
  have hemp := bytes_ne hs0
  go_enter Try.func18, Try.ntmps18
  go_wp2_with fail
  go_loopw [5, 8, 9, 10, 11, 12, 13, 14, 15, 16, 17, 18, 19, 20, 21, 22] (fun i _ _ _ _ _ _ _ _ _ _ _ _ _ _ _ wx => ∃ n : Int, 1 ≤ n ∧ n ≤ 11 ∧ i = .int .i64 n ∧ Two wx w.heap.size #[.int .i64 0, .string ⟨#[]⟩, .string ⟨#[]⟩, .int .i64 0, .int .i64 0] #[.int .i64 (if kd < n then kd else 0), .string ⟨#[]⟩, .string ⟨#[]⟩, .int .i64 0, .int .i64 0] ∧ Below w.heap.size w wx) (fun i _ _ _ _ _ _ _ _ _ _ _ _ _ _ _ wx => 11 - (intOf i).toNat)
  case atStart =>
    have := kindR_range x
    have e : (if kd < 1 then kd else 0) = 0 := by split <;> omega
    exact ⟨1, by omega, by omega, rfl, by rw [e]; exact two0 w _ _, alloc2_below w _ _⟩
  case round =>
    obtain ⟨n, hn1, hn2, rfl, HT, HB⟩ := hrel
    have hkr := kindR_range x
    rw [hk] at hkr
    generalize hko : (if kd < n then kd else 0) = ko at HT
    obtain ⟨m0, m1, m2, m3, m4, l0, l1, l2, l3, l4, gk, gr⟩ := HT.seen
    by_cases hlt : n ≤ 10
    · have hd1 : decide (n ≤ 10) = true := decide_eq_true hlt
      have h0 : 0 ≤ n := by omega
      have h11 : n < 11 := by omega
      have hbt := bt_at ⟨#[32, 110, 105, 99, 100, 112, 114, 117, 102, 103, 116]⟩ n
      have hy := kindR_at n hn1 hlt x
      rw [hk] at hy
      have HK : Aside ((if kd < n then kd else 0) = ko) := hko
      clear hko
      go_wp2_with fail
      by_cases hkn : kd = n
      · have hd2 := decide_eq_true hkn
        rw [hd2] at hy
        have hk2 : (if kd < n + 1 then kd else 0) = n := by rw [if_pos (by omega), hkn]
        go_quiet (fail)
        have T2 : Two (wr.drewN nq) w.heap.size #[.int .i64 0, .string ⟨#[]⟩, .string ⟨#[]⟩, .int .i64 0, .int .i64 0] #[.int .i64 ko, .string ⟨#[]⟩, .string ⟨#[]⟩, .int .i64 0, .int .i64 0] := ⟨HT.r, HT.k⟩
        have B2 : Below w.heap.size w (wr.drewN nq) := below_drawn HB nq
        clear m0 m1 m2 m3 m4 l0 l1 l2 l3 l4 gk gr HT HB
        generalize wr.drewN nq = W2 at T2 B2 ⊢
        obtain ⟨m0, m1, m2, m3, m4, l0, l1, l2, l3, l4, gk, gr⟩ := T2.seen
        go_wp2_with fail
        go_roundw
        case rel => exact ⟨n + 1, by omega, by omega, rfl, by rw [hk2]; exact T2.setK 0 _, setK1 B2 0 _⟩
        case measure => simp [intOf]; omega
      · have hd2 := decide_eq_false hkn
        rw [hd2] at hy
        have hk2 : (if kd < n + 1 then kd else 0) = ko := by rw [← HK]; by_cases c : kd < n; rw [if_pos c, if_pos (by omega)]; rw [if_neg c, if_neg (by omega)]
        go_quiet (fail)
        go_wp2_with fail
        go_roundw
        case rel => exact ⟨n + 1, by omega, by omega, rfl, by rw [hk2]; exact ⟨HT.r, HT.k⟩, below_drawn HB nq⟩
        case measure => simp [intOf]; omega
    · have hd1 : decide (n ≤ 10) = false := decide_eq_false hlt
      rw [if_pos (by omega)] at hko
      subst hko
      have hk0 : (kd == 0) = false := by rw [beq_eq_false_iff_ne]; omega
      go_wp2_with fail
      go_loop [7, 29, 30, 31, 32, 33, 34, 35, 36, 37, 38, 39, 40] (fun i _ _ _ _ _ _ _ _ _ _ _ _ => ∃ q : Int, 0 ≤ q ∧ q ≤ z ∧ i = .int .i64 q) (fun i _ _ _ _ _ _ _ _ _ _ _ _ => z.toNat - (intOf i).toNat)
      case atStart => exact ⟨0, by omega, hz0, rfl⟩
      case round =>
        obtain ⟨q, hq0, hq1, rfl⟩ := hrel
        have hbq := bt_at rest q
        by_cases hqz : q < z
        · have hqs : q < (rest.size : Int) := by omega
          have hqd := decide_eq_true hqs
          have hqn : (bt rest q != 0) = true := bne_iff_ne.2 (hz2 q hq0 hqz)
          have hwr : wrap64 (q + 1) = q + 1 := w64 (by omega) (by omega)
          go_wp2_with fail
          go_round
          case rel => exact ⟨q + 1, by omega, by omega, rfl⟩
          case measure => simp [intOf]; omega
        · obtain rfl : q = z := by omega
          rcases hz3 with hqe | ⟨hqs, hqe⟩
          · have hqd : decide (q < (rest.size : Int)) = false := decide_eq_false (by omega)
            have hl3 : decide ((rest.size : Int) < 3) = false := decide_eq_false (by omega)
            have hge3 : 3 ≤ (rest.size : Int) := by omega
            cases m
            · go_wp2_with (first | (go_at_call 33; refine (hrd _).mono ?_; rintro e W5 ⟨rfl, hB5⟩; have T5 := (HT).below hB5; have B5 := (HB).trans (hB5.mono (HT).lt); clear m0 m1 m2 m3 m4 l0 l1 l2 l3 l4 gk gr; obtain ⟨m0, m1, m2, m3, m4, l0, l1, l2, l3, l4, gk, gr⟩ := T5.seen) | (go_at_call 14; refine (hm _).mono ?_; rintro e W3 ⟨rfl, hB3⟩; have T3 : Two W3 w.heap.size #[.int .i64 0, .string ⟨#[]⟩, .string ⟨#[]⟩, .int .i64 0, .int .i64 0] #[.int .i64 (kd), .string ca, .string ⟨#[]⟩, .int .i64 (v), .int .i64 (0)] := ((T5.setK 3 (.int .i64 v)).setK 1 (.string ca)).below hB3; have B3 := (setK1 (setK1 B5 3 (.int .i64 v)) 1 (.string ca)).trans (hB3.mono ((T5.setK 3 (.int .i64 v)).setK 1 (.string ca)).lt); clear m0 m1 m2 m3 m4 l0 l1 l2 l3 l4 gk gr; obtain ⟨m0, m1, m2, m3, m4, l0, l1, l2, l3, l4, gk, gr⟩ := T3.seen))
              refine bodyPost_ret (results_ct rfl _ _ w.heap.size 23 #[.int .i64 0, .string ⟨#[]⟩, .string ⟨#[]⟩, .int .i64 0, .int .i64 0] (0, 0) _ rfl (((((T3.setR 0 _).setR 1 _).setR 2 _).setR 3 _).setR 4 _).r Try.underlying23 rfl (by kernel_rfl)) rfl ?_
              refine ⟨?_, setR5 B3 _ _ _ _ _⟩
              unfold refParsed
              rw [if_neg (by simp)]
              rfl
            · cases hbs : (b.toList == s.toList)
              · go_wp2_with (first | (go_at_call 33; refine (hrd _).mono ?_; rintro e W5 ⟨rfl, hB5⟩; have T5 := (HT).below hB5; have B5 := (HB).trans (hB5.mono (HT).lt); clear m0 m1 m2 m3 m4 l0 l1 l2 l3 l4 gk gr; obtain ⟨m0, m1, m2, m3, m4, l0, l1, l2, l3, l4, gk, gr⟩ := T5.seen) | (go_at_call 14; refine (hm _).mono ?_; rintro e W3 ⟨rfl, hB3⟩; have T3 : Two W3 w.heap.size #[.int .i64 0, .string ⟨#[]⟩, .string ⟨#[]⟩, .int .i64 0, .int .i64 0] #[.int .i64 (kd), .string ca, .string ⟨#[]⟩, .int .i64 (v), .int .i64 (0)] := ((T5.setK 3 (.int .i64 v)).setK 1 (.string ca)).below hB3; have B3 := (setK1 (setK1 B5 3 (.int .i64 v)) 1 (.string ca)).trans (hB3.mono ((T5.setK 3 (.int .i64 v)).setK 1 (.string ca)).lt); clear m0 m1 m2 m3 m4 l0 l1 l2 l3 l4 gk gr; obtain ⟨m0, m1, m2, m3, m4, l0, l1, l2, l3, l4, gk, gr⟩ := T3.seen) | (go_at_call 16; refine (hb (by simp) _).mono ?_; rintro e W4 ⟨rfl, hB4⟩; have T4 := T3.below hB4; have B4 := B3.trans (hB4.mono T3.lt); clear m0 m1 m2 m3 m4 l0 l1 l2 l3 l4 gk gr; obtain ⟨m0, m1, m2, m3, m4, l0, l1, l2, l3, l4, gk, gr⟩ := T4.seen))
                refine bodyPost_ret (results_ct rfl _ _ w.heap.size 23 #[.int .i64 0, .string ⟨#[]⟩, .string ⟨#[]⟩, .int .i64 0, .int .i64 0] (0, 0) _ rfl (((((T4.setR 0 _).setR 1 _).setR 2 _).setR 3 _).setR 4 _).r Try.underlying23 rfl (by kernel_rfl)) rfl ?_
                refine ⟨?_, setR5 B4 _ _ _ _ _⟩
                unfold refParsed
                rw [if_neg (fun h => by rw [h.2] at hbs; simp at hbs)]
                rfl
              · go_wp2_with (first | (go_at_call 33; refine (hrd _).mono ?_; rintro e W5 ⟨rfl, hB5⟩; have T5 := (HT).below hB5; have B5 := (HB).trans (hB5.mono (HT).lt); clear m0 m1 m2 m3 m4 l0 l1 l2 l3 l4 gk gr; obtain ⟨m0, m1, m2, m3, m4, l0, l1, l2, l3, l4, gk, gr⟩ := T5.seen) | (go_at_call 14; refine (hm _).mono ?_; rintro e W3 ⟨rfl, hB3⟩; have T3 : Two W3 w.heap.size #[.int .i64 0, .string ⟨#[]⟩, .string ⟨#[]⟩, .int .i64 0, .int .i64 0] #[.int .i64 (kd), .string ca, .string ⟨#[]⟩, .int .i64 (v), .int .i64 (0)] := ((T5.setK 3 (.int .i64 v)).setK 1 (.string ca)).below hB3; have B3 := (setK1 (setK1 B5 3 (.int .i64 v)) 1 (.string ca)).trans (hB3.mono ((T5.setK 3 (.int .i64 v)).setK 1 (.string ca)).lt); clear m0 m1 m2 m3 m4 l0 l1 l2 l3 l4 gk gr; obtain ⟨m0, m1, m2, m3, m4, l0, l1, l2, l3, l4, gk, gr⟩ := T3.seen) | (go_at_call 16; refine (hb (by simp) _).mono ?_; rintro e W4 ⟨rfl, hB4⟩; have T4 := T3.below hB4; have B4 := B3.trans (hB4.mono T3.lt); clear m0 m1 m2 m3 m4 l0 l1 l2 l3 l4 gk gr; obtain ⟨m0, m1, m2, m3, m4, l0, l1, l2, l3, l4, gk, gr⟩ := T4.seen))
                refine bodyPost_ret (results_ct rfl _ _ w.heap.size 23 #[.int .i64 (kd), .string ca, .string ⟨#[]⟩, .int .i64 (v), .int .i64 (0)] (0, 0) _ rfl (((((T4.setR 0 _).setR 1 _).setR 2 _).setR 3 _).setR 4 _).r Try.underlying23 rfl (by kernel_rfl)) rfl ?_
                refine ⟨?_, setR5 B4 _ _ _ _ _⟩
                unfold refParsed
                rw [if_pos ⟨rfl, by simpa using hbs⟩]
                rfl
          · have hqd := decide_eq_true hqs
            have hqn : (bt rest q != 0) = false := bne_eq_false_iff_eq.2 hqe
            have hl3 : decide ((rest.size : Int) < 3) = false := decide_eq_false (by omega)
            have hge3 : 3 ≤ (rest.size : Int) := by omega
            cases m
            · go_wp2_with (first | (go_at_call 33; refine (hrd _).mono ?_; rintro e W5 ⟨rfl, hB5⟩; have T5 := (HT).below hB5; have B5 := (HB).trans (hB5.mono (HT).lt); clear m0 m1 m2 m3 m4 l0 l1 l2 l3 l4 gk gr; obtain ⟨m0, m1, m2, m3, m4, l0, l1, l2, l3, l4, gk, gr⟩ := T5.seen) | (go_at_call 14; refine (hm _).mono ?_; rintro e W3 ⟨rfl, hB3⟩; have T3 : Two W3 w.heap.size #[.int .i64 0, .string ⟨#[]⟩, .string ⟨#[]⟩, .int .i64 0, .int .i64 0] #[.int .i64 (kd), .string ca, .string ⟨#[]⟩, .int .i64 (v), .int .i64 (0)] := ((T5.setK 3 (.int .i64 v)).setK 1 (.string ca)).below hB3; have B3 := (setK1 (setK1 B5 3 (.int .i64 v)) 1 (.string ca)).trans (hB3.mono ((T5.setK 3 (.int .i64 v)).setK 1 (.string ca)).lt); clear m0 m1 m2 m3 m4 l0 l1 l2 l3 l4 gk gr; obtain ⟨m0, m1, m2, m3, m4, l0, l1, l2, l3, l4, gk, gr⟩ := T3.seen))
              refine bodyPost_ret (results_ct rfl _ _ w.heap.size 23 #[.int .i64 0, .string ⟨#[]⟩, .string ⟨#[]⟩, .int .i64 0, .int .i64 0] (0, 0) _ rfl (((((T3.setR 0 _).setR 1 _).setR 2 _).setR 3 _).setR 4 _).r Try.underlying23 rfl (by kernel_rfl)) rfl ?_
              refine ⟨?_, setR5 B3 _ _ _ _ _⟩
              unfold refParsed
              rw [if_neg (by simp)]
              rfl
            · cases hbs : (b.toList == s.toList)
              · go_wp2_with (first | (go_at_call 33; refine (hrd _).mono ?_; rintro e W5 ⟨rfl, hB5⟩; have T5 := (HT).below hB5; have B5 := (HB).trans (hB5.mono (HT).lt); clear m0 m1 m2 m3 m4 l0 l1 l2 l3 l4 gk gr; obtain ⟨m0, m1, m2, m3, m4, l0, l1, l2, l3, l4, gk, gr⟩ := T5.seen) | (go_at_call 14; refine (hm _).mono ?_; rintro e W3 ⟨rfl, hB3⟩; have T3 : Two W3 w.heap.size #[.int .i64 0, .string ⟨#[]⟩, .string ⟨#[]⟩, .int .i64 0, .int .i64 0] #[.int .i64 (kd), .string ca, .string ⟨#[]⟩, .int .i64 (v), .int .i64 (0)] := ((T5.setK 3 (.int .i64 v)).setK 1 (.string ca)).below hB3; have B3 := (setK1 (setK1 B5 3 (.int .i64 v)) 1 (.string ca)).trans (hB3.mono ((T5.setK 3 (.int .i64 v)).setK 1 (.string ca)).lt); clear m0 m1 m2 m3 m4 l0 l1 l2 l3 l4 gk gr; obtain ⟨m0, m1, m2, m3, m4, l0, l1, l2, l3, l4, gk, gr⟩ := T3.seen) | (go_at_call 16; refine (hb (by simp) _).mono ?_; rintro e W4 ⟨rfl, hB4⟩; have T4 := T3.below hB4; have B4 := B3.trans (hB4.mono T3.lt); clear m0 m1 m2 m3 m4 l0 l1 l2 l3 l4 gk gr; obtain ⟨m0, m1, m2, m3, m4, l0, l1, l2, l3, l4, gk, gr⟩ := T4.seen))
                refine bodyPost_ret (results_ct rfl _ _ w.heap.size 23 #[.int .i64 0, .string ⟨#[]⟩, .string ⟨#[]⟩, .int .i64 0, .int .i64 0] (0, 0) _ rfl (((((T4.setR 0 _).setR 1 _).setR 2 _).setR 3 _).setR 4 _).r Try.underlying23 rfl (by kernel_rfl)) rfl ?_
                refine ⟨?_, setR5 B4 _ _ _ _ _⟩
                unfold refParsed
                rw [if_neg (fun h => by rw [h.2] at hbs; simp at hbs)]
                rfl
              · go_wp2_with (first | (go_at_call 33; refine (hrd _).mono ?_; rintro e W5 ⟨rfl, hB5⟩; have T5 := (HT).below hB5; have B5 := (HB).trans (hB5.mono (HT).lt); clear m0 m1 m2 m3 m4 l0 l1 l2 l3 l4 gk gr; obtain ⟨m0, m1, m2, m3, m4, l0, l1, l2, l3, l4, gk, gr⟩ := T5.seen) | (go_at_call 14; refine (hm _).mono ?_; rintro e W3 ⟨rfl, hB3⟩; have T3 : Two W3 w.heap.size #[.int .i64 0, .string ⟨#[]⟩, .string ⟨#[]⟩, .int .i64 0, .int .i64 0] #[.int .i64 (kd), .string ca, .string ⟨#[]⟩, .int .i64 (v), .int .i64 (0)] := ((T5.setK 3 (.int .i64 v)).setK 1 (.string ca)).below hB3; have B3 := (setK1 (setK1 B5 3 (.int .i64 v)) 1 (.string ca)).trans (hB3.mono ((T5.setK 3 (.int .i64 v)).setK 1 (.string ca)).lt); clear m0 m1 m2 m3 m4 l0 l1 l2 l3 l4 gk gr; obtain ⟨m0, m1, m2, m3, m4, l0, l1, l2, l3, l4, gk, gr⟩ := T3.seen) | (go_at_call 16; refine (hb (by simp) _).mono ?_; rintro e W4 ⟨rfl, hB4⟩; have T4 := T3.below hB4; have B4 := B3.trans (hB4.mono T3.lt); clear m0 m1 m2 m3 m4 l0 l1 l2 l3 l4 gk gr; obtain ⟨m0, m1, m2, m3, m4, l0, l1, l2, l3, l4, gk, gr⟩ := T4.seen))
                refine bodyPost_ret (results_ct rfl _ _ w.heap.size 23 #[.int .i64 (kd), .string ca, .string ⟨#[]⟩, .int .i64 (v), .int .i64 (0)] (0, 0) _ rfl (((((T4.setR 0 _).setR 1 _).setR 2 _).setR 3 _).setR 4 _).r Try.underlying23 rfl (by kernel_rfl)) rfl ?_
                refine ⟨?_, setR5 B4 _ _ _ _ _⟩
                unfold refParsed
                rw [if_pos ⟨rfl, by simpa using hbs⟩]
                rfl
set_option maxHeartbeats 4000000 in
set_option maxRecDepth 100000 in
theorem refParse_6z (s : ByteArray) (w : World) (hs0 : 0 < s.size) (hs : s.size ≤ 1000000) (x : UInt8) (hx : s[0]'hs0 = x) (kd : Int) (hk : kindR x = kd) (hk1 : 1 ≤ kd)
    (rest : ByteArray) (hr : s.extract 1 s.size = rest) (hrs : rest.size ≤ 1000000) (z : Int) (hz0 : 0 ≤ z) (hz1 : z ≤ rest.size) (hz2 : ∀ i, 0 ≤ i → i < z → bt rest i ≠ 0) (hz3 : z = rest.size ∨ z < rest.size ∧ bt rest z = 0)
    (c2 : (kd == 2) = false) (c3 : (kd == 3) = false) (c4 : (kd == 4) = false) (c6 : (kd == 6) = true) (c7 : (kd == 7) = false) (c9 : (kd == 9) = false) (hze : z = rest.size) :
    Calls Try.prog 18 #[.string s] w fun e w' => e = .returned (.tuple #[.agg #[.int .i64 0, .string ⟨#[]⟩, .string ⟨#[]⟩, .int .i64 0, .int .i64 0], .bool false]) ∧ Below w.heap.size w w' := by
  have hemp := bytes_ne hs0
  go_enter Try.func18, Try.ntmps18
  go_wp2_with fail
  go_loopw [5, 8, 9, 10, 11, 12, 13, 14, 15, 16, 17, 18, 19, 20, 21, 22] (fun i _ _ _ _ _ _ _ _ _ _ _ _ _ _ _ wx => ∃ n : Int, 1 ≤ n ∧ n ≤ 11 ∧ i = .int .i64 n ∧ Two wx w.heap.size #[.int .i64 0, .string ⟨#[]⟩, .string ⟨#[]⟩, .int .i64 0, .int .i64 0] #[.int .i64 (if kd < n then kd else 0), .string ⟨#[]⟩, .string ⟨#[]⟩, .int .i64 0, .int .i64 0] ∧ Below w.heap.size w wx) (fun i _ _ _ _ _ _ _ _ _ _ _ _ _ _ _ wx => 11 - (intOf i).toNat)
  case atStart =>
    have := kindR_range x
    have e : (if kd < 1 then kd else 0) = 0 := by split <;> omega
    exact ⟨1, by omega, by omega, rfl, by rw [e]; exact two0 w _ _, alloc2_below w _ _⟩
  case round =>
    obtain ⟨n, hn1, hn2, rfl, HT, HB⟩ := hrel
    have hkr := kindR_range x
    rw [hk] at hkr
    generalize hko : (if kd < n then kd else 0) = ko at HT
    obtain ⟨m0, m1, m2, m3, m4, l0, l1, l2, l3, l4, gk, gr⟩ := HT.seen
    by_cases hlt : n ≤ 10
    · have hd1 : decide (n ≤ 10) = true := decide_eq_true hlt
      have h0 : 0 ≤ n := by omega
      have h11 : n < 11 := by omega
      have hbt := bt_at ⟨#[32, 110, 105, 99, 100, 112, 114, 117, 102, 103, 116]⟩ n
      have hy := kindR_at n hn1 hlt x
      rw [hk] at hy
      have HK : Aside ((if kd < n then kd else 0) = ko) := hko
      clear hko
      go_wp2_with fail
      by_cases hkn : kd = n
      · have hd2 := decide_eq_true hkn
        rw [hd2] at hy
        have hk2 : (if kd < n + 1 then kd else 0) = n := by rw [if_pos (by omega), hkn]
        go_quiet (fail)
        have T2 : Two (wr.drewN nq) w.heap.size #[.int .i64 0, .string ⟨#[]⟩, .string ⟨#[]⟩, .int .i64 0, .int .i64 0] #[.int .i64 ko, .string ⟨#[]⟩, .string ⟨#[]⟩, .int .i64 0, .int .i64 0] := ⟨HT.r, HT.k⟩
        have B2 : Below w.heap.size w (wr.drewN nq) := below_drawn HB nq
        clear m0 m1 m2 m3 m4 l0 l1 l2 l3 l4 gk gr HT HB
        generalize wr.drewN nq = W2 at T2 B2 ⊢
        obtain ⟨m0, m1, m2, m3, m4, l0, l1, l2, l3, l4, gk, gr⟩ := T2.seen
        go_wp2_with fail
        go_roundw
        case rel => exact ⟨n + 1, by omega, by omega, rfl, by rw [hk2]; exact T2.setK 0 _, setK1 B2 0 _⟩
        case measure => simp [intOf]; omega
      · have hd2 := decide_eq_false hkn
        rw [hd2] at hy
        have hk2 : (if kd < n + 1 then kd else 0) = ko := by rw [← HK]; by_cases c : kd < n; rw [if_pos c, if_pos (by omega)]; rw [if_neg c, if_neg (by omega)]
        go_quiet (fail)
        go_wp2_with fail
        go_roundw
        case rel => exact ⟨n + 1, by omega, by omega, rfl, by rw [hk2]; exact ⟨HT.r, HT.k⟩, below_drawn HB nq⟩
        case measure => simp [intOf]; omega
    · have hd1 : decide (n ≤ 10) = false := decide_eq_false hlt
      rw [if_pos (by omega)] at hko
      subst hko
      have hk0 : (kd == 0) = false := by rw [beq_eq_false_iff_ne]; omega
      go_wp2_with fail
      go_loop [7, 29, 30, 31, 32, 33, 34, 35, 36, 37, 38, 39, 40] (fun i _ _ _ _ _ _ _ _ _ _ _ _ => ∃ q : Int, 0 ≤ q ∧ q ≤ z ∧ i = .int .i64 q) (fun i _ _ _ _ _ _ _ _ _ _ _ _ => z.toNat - (intOf i).toNat)
      case atStart => exact ⟨0, by omega, hz0, rfl⟩
      case round =>
        obtain ⟨q, hq0, hq1, rfl⟩ := hrel
        have hbq := bt_at rest q
        by_cases hqz : q < z
        · have hqs : q < (rest.size : Int) := by omega
          have hqd := decide_eq_true hqs
          have hqn : (bt rest q != 0) = true := bne_iff_ne.2 (hz2 q hq0 hqz)
          have hwr : wrap64 (q + 1) = q + 1 := w64 (by omega) (by omega)
          go_wp2_with fail
          go_round
          case rel => exact ⟨q + 1, by omega, by omega, rfl⟩
          case measure => simp [intOf]; omega
        · obtain rfl : q = z := by omega
          rcases hz3 with hqe | ⟨hqs, hqe⟩
          · have hqd : decide (q < (rest.size : Int)) = false := decide_eq_false (by omega)
            have hqe2 : (q == (rest.size : Int)) = true := beq_iff_eq.2 hqe
            go_wp2_with fail
            refine bodyPost_ret (results_ct rfl _ _ w.heap.size 23 #[.int .i64 0, .string ⟨#[]⟩, .string ⟨#[]⟩, .int .i64 0, .int .i64 0] (0, 0) _ rfl (((((HT.setR 0 _).setR 1 _).setR 2 _).setR 3 _).setR 4 _).r Try.underlying23 rfl (by kernel_rfl)) rfl ?_
            refine ⟨?_, setR5 HB _ _ _ _ _⟩
            rfl
          · have hqd := decide_eq_true hqs
            have hqn : (bt rest q != 0) = false := bne_eq_false_iff_eq.2 hqe
            exfalso
            omega
set_option maxHeartbeats 4000000 in
set_option maxRecDepth 100000 in
theorem refParse_7z (s : ByteArray) (w : World) (hs0 : 0 < s.size) (hs : s.size ≤ 1000000) (x : UInt8) (hx : s[0]'hs0 = x) (kd : Int) (hk : kindR x = kd) (hk1 : 1 ≤ kd)
    (rest : ByteArray) (hr : s.extract 1 s.size = rest) (hrs : rest.size ≤ 1000000) (z : Int) (hz0 : 0 ≤ z) (hz1 : z ≤ rest.size) (hz2 : ∀ i, 0 ≤ i → i < z → bt rest i ≠ 0) (hz3 : z = rest.size ∨ z < rest.size ∧ bt rest z = 0)
    (c2 : (kd == 2) = false) (c3 : (kd == 3) = false) (c4 : (kd == 4) = false) (c6 : (kd == 6) = false) (c7 : (kd == 7) = true) (c9 : (kd == 9) = false) (hze : z = rest.size) :
    Calls Try.prog 18 #[.string s] w fun e w' => e = .returned (.tuple #[.agg #[.int .i64 0, .string ⟨#[]⟩, .string ⟨#[]⟩, .int .i64 0, .int .i64 0], .bool false]) ∧ Below w.heap.size w w' := by
  have hemp := bytes_ne hs0
  go_enter Try.func18, Try.ntmps18
  go_wp2_with fail
  go_loopw [5, 8, 9, 10, 11, 12, 13, 14, 15, 16, 17, 18, 19, 20, 21, 22] (fun i _ _ _ _ _ _ _ _ _ _ _ _ _ _ _ wx => ∃ n : Int, 1 ≤ n ∧ n ≤ 11 ∧ i = .int .i64 n ∧ Two wx w.heap.size #[.int .i64 0, .string ⟨#[]⟩, .string ⟨#[]⟩, .int .i64 0, .int .i64 0] #[.int .i64 (if kd < n then kd else 0), .string ⟨#[]⟩, .string ⟨#[]⟩, .int .i64 0, .int .i64 0] ∧ Below w.heap.size w wx) (fun i _ _ _ _ _ _ _ _ _ _ _ _ _ _ _ wx => 11 - (intOf i).toNat)
  case atStart =>
    have := kindR_range x
    have e : (if kd < 1 then kd else 0) = 0 := by split <;> omega
    exact ⟨1, by omega, by omega, rfl, by rw [e]; exact two0 w _ _, alloc2_below w _ _⟩
  case round =>
    obtain ⟨n, hn1, hn2, rfl, HT, HB⟩ := hrel
    have hkr := kindR_range x
    rw [hk] at hkr
    generalize hko : (if kd < n then kd else 0) = ko at HT
    obtain ⟨m0, m1, m2, m3, m4, l0, l1, l2, l3, l4, gk, gr⟩ := HT.seen
    by_cases hlt : n ≤ 10
    · have hd1 : decide (n ≤ 10) = true := decide_eq_true hlt
      have h0 : 0 ≤ n := by omega
      have h11 : n < 11 := by omega
      have hbt := bt_at ⟨#[32, 110, 105, 99, 100, 112, 114, 117, 102, 103, 116]⟩ n
      have hy := kindR_at n hn1 hlt x
      rw [hk] at hy
      have HK : Aside ((if kd < n then kd else 0) = ko) := hko
      clear hko
      go_wp2_with fail
      by_cases hkn : kd = n
      · have hd2 := decide_eq_true hkn
        rw [hd2] at hy
        have hk2 : (if kd < n + 1 then kd else 0) = n := by rw [if_pos (by omega), hkn]
        go_quiet (fail)
        have T2 : Two (wr.drewN nq) w.heap.size #[.int .i64 0, .string ⟨#[]⟩, .string ⟨#[]⟩, .int .i64 0, .int .i64 0] #[.int .i64 ko, .string ⟨#[]⟩, .string ⟨#[]⟩, .int .i64 0, .int .i64 0] := ⟨HT.r, HT.k⟩
        have B2 : Below w.heap.size w (wr.drewN nq) := below_drawn HB nq
        clear m0 m1 m2 m3 m4 l0 l1 l2 l3 l4 gk gr HT HB
        generalize wr.drewN nq = W2 at T2 B2 ⊢
        obtain ⟨m0, m1, m2, m3, m4, l0, l1, l2, l3, l4, gk, gr⟩ := T2.seen
        go_wp2_with fail
        go_roundw
        case rel => exact ⟨n + 1, by omega, by omega, rfl, by rw [hk2]; exact T2.setK 0 _, setK1 B2 0 _⟩
        case measure => simp [intOf]; omega
      · have hd2 := decide_eq_false hkn
        rw [hd2] at hy
        have hk2 : (if kd < n + 1 then kd else 0) = ko := by rw [← HK]; by_cases c : kd < n; rw [if_pos c, if_pos (by omega)]; rw [if_neg c, if_neg (by omega)]
        go_quiet (fail)
        go_wp2_with fail
        go_roundw
        case rel => exact ⟨n + 1, by omega, by omega, rfl, by rw [hk2]; exact ⟨HT.r, HT.k⟩, below_drawn HB nq⟩
        case measure => simp [intOf]; omega
    · have hd1 : decide (n ≤ 10) = false := decide_eq_false hlt
      rw [if_pos (by omega)] at hko
      subst hko
      have hk0 : (kd == 0) = false := by rw [beq_eq_false_iff_ne]; omega
      go_wp2_with fail
      go_loop [7, 29, 30, 31, 32, 33, 34, 35, 36, 37, 38, 39, 40] (fun i _ _ _ _ _ _ _ _ _ _ _ _ => ∃ q : Int, 0 ≤ q ∧ q ≤ z ∧ i = .int .i64 q) (fun i _ _ _ _ _ _ _ _ _ _ _ _ => z.toNat - (intOf i).toNat)
      case atStart => exact ⟨0, by omega, hz0, rfl⟩
      case round =>
        obtain ⟨q, hq0, hq1, rfl⟩ := hrel
        have hbq := bt_at rest q
        by_cases hqz : q < z
        · have hqs : q < (rest.size : Int) := by omega
          have hqd := decide_eq_true hqs
          have hqn : (bt rest q != 0) = true := bne_iff_ne.2 (hz2 q hq0 hqz)
          have hwr : wrap64 (q + 1) = q + 1 := w64 (by omega) (by omega)
          go_wp2_with fail
          go_round
          case rel => exact ⟨q + 1, by omega, by omega, rfl⟩
          case measure => simp [intOf]; omega
        · obtain rfl : q = z := by omega
          rcases hz3 with hqe | ⟨hqs, hqe⟩
          · have hqd : decide (q < (rest.size : Int)) = false := decide_eq_false (by omega)
            have hqe2 : (q == (rest.size : Int)) = true := beq_iff_eq.2 hqe
            go_wp2_with fail
            refine bodyPost_ret (results_ct rfl _ _ w.heap.size 23 #[.int .i64 0, .string ⟨#[]⟩, .string ⟨#[]⟩, .int .i64 0, .int .i64 0] (0, 0) _ rfl (((((HT.setR 0 _).setR 1 _).setR 2 _).setR 3 _).setR 4 _).r Try.underlying23 rfl (by kernel_rfl)) rfl ?_
            refine ⟨?_, setR5 HB _ _ _ _ _⟩
            rfl
          · have hqd := decide_eq_true hqs
            have hqn : (bt rest q != 0) = false := bne_eq_false_iff_eq.2 hqe
            exfalso
            omega
set_option maxHeartbeats 4000000 in
set_option maxRecDepth 100000 in
theorem refParse_9z (s : ByteArray) (w : World) (hs0 : 0 < s.size) (hs : s.size ≤ 1000000) (x : UInt8) (hx : s[0]'hs0 = x) (kd : Int) (hk : kindR x = kd) (hk1 : 1 ≤ kd)
    (rest : ByteArray) (hr : s.extract 1 s.size = rest) (hrs : rest.size ≤ 1000000) (z : Int) (hz0 : 0 ≤ z) (hz1 : z ≤ rest.size) (hz2 : ∀ i, 0 ≤ i → i < z → bt rest i ≠ 0) (hz3 : z = rest.size ∨ z < rest.size ∧ bt rest z = 0)
    (c2 : (kd == 2) = false) (c3 : (kd == 3) = false) (c4 : (kd == 4) = false) (c6 : (kd == 6) = false) (c7 : (kd == 7) = false) (c9 : (kd == 9) = true) (hze : z = rest.size) :
    Calls Try.prog 18 #[.string s] w fun e w' => e = .returned (.tuple #[.agg #[.int .i64 0, .string ⟨#[]⟩, .string ⟨#[]⟩, .int .i64 0, .int .i64 0], .bool false]) ∧ Below w.heap.size w w' := by
  have hemp := bytes_ne hs0
  go_enter Try.func18, Try.ntmps18
  go_wp2_with fail
  go_loopw [5, 8, 9, 10, 11, 12, 13, 14, 15, 16, 17, 18, 19, 20, 21, 22] (fun i _ _ _ _ _ _ _ _ _ _ _ _ _ _ _ wx => ∃ n : Int, 1 ≤ n ∧ n ≤ 11 ∧ i = .int .i64 n ∧ Two wx w.heap.size #[.int .i64 0, .string ⟨#[]⟩, .string ⟨#[]⟩, .int .i64 0, .int .i64 0] #[.int .i64 (if kd < n then kd else 0), .string ⟨#[]⟩, .string ⟨#[]⟩, .int .i64 0, .int .i64 0] ∧ Below w.heap.size w wx) (fun i _ _ _ _ _ _ _ _ _ _ _ _ _ _ _ wx => 11 - (intOf i).toNat)
  case atStart =>
    have := kindR_range x
    have e : (if kd < 1 then kd else 0) = 0 := by split <;> omega
    exact ⟨1, by omega, by omega, rfl, by rw [e]; exact two0 w _ _, alloc2_below w _ _⟩
  case round =>
    obtain ⟨n, hn1, hn2, rfl, HT, HB⟩ := hrel
    have hkr := kindR_range x
    rw [hk] at hkr
    generalize hko : (if kd < n then kd else 0) = ko at HT
    obtain ⟨m0, m1, m2, m3, m4, l0, l1, l2, l3, l4, gk, gr⟩ := HT.seen
    by_cases hlt : n ≤ 10
    · have hd1 : decide (n ≤ 10) = true := decide_eq_true hlt
      have h0 : 0 ≤ n := by omega
      have h11 : n < 11 := by omega
      have hbt := bt_at ⟨#[32, 110, 105, 99, 100, 112, 114, 117, 102, 103, 116]⟩ n
      have hy := kindR_at n hn1 hlt x
      rw [hk] at hy
      have HK : Aside ((if kd < n then kd else 0) = ko) := hko
      clear hko
      go_wp2_with fail
      by_cases hkn : kd = n
      · have hd2 := decide_eq_true hkn
        rw [hd2] at hy
        have hk2 : (if kd < n + 1 then kd else 0) = n := by rw [if_pos (by omega), hkn]
        go_quiet (fail)
        have T2 : Two (wr.drewN nq) w.heap.size #[.int .i64 0, .string ⟨#[]⟩, .string ⟨#[]⟩, .int .i64 0, .int .i64 0] #[.int .i64 ko, .string ⟨#[]⟩, .string ⟨#[]⟩, .int .i64 0, .int .i64 0] := ⟨HT.r, HT.k⟩
        have B2 : Below w.heap.size w (wr.drewN nq) := below_drawn HB nq
        clear m0 m1 m2 m3 m4 l0 l1 l2 l3 l4 gk gr HT HB
        generalize wr.drewN nq = W2 at T2 B2 ⊢
        obtain ⟨m0, m1, m2, m3, m4, l0, l1, l2, l3, l4, gk, gr⟩ := T2.seen
        go_wp2_with fail
        go_roundw
        case rel => exact ⟨n + 1, by omega, by omega, rfl, by rw [hk2]; exact T2.setK 0 _, setK1 B2 0 _⟩
        case measure => simp [intOf]; omega
      · have hd2 := decide_eq_false hkn
        rw [hd2] at hy
        have hk2 : (if kd < n + 1 then kd else 0) = ko := by rw [← HK]; by_cases c : kd < n; rw [if_pos c, if_pos (by omega)]; rw [if_neg c, if_neg (by omega)]
        go_quiet (fail)
        go_wp2_with fail
        go_roundw
        case rel => exact ⟨n + 1, by omega, by omega, rfl, by rw [hk2]; exact ⟨HT.r, HT.k⟩, below_drawn HB nq⟩
        case measure => simp [intOf]; omega
    · have hd1 : decide (n ≤ 10) = false := decide_eq_false hlt
      rw [if_pos (by omega)] at hko
      subst hko
      have hk0 : (kd == 0) = false := by rw [beq_eq_false_iff_ne]; omega
      go_wp2_with fail
      go_loop [7, 29, 30, 31, 32, 33, 34, 35, 36, 37, 38, 39, 40] (fun i _ _ _ _ _ _ _ _ _ _ _ _ => ∃ q : Int, 0 ≤ q ∧ q ≤ z ∧ i = .int .i64 q) (fun i _ _ _ _ _ _ _ _ _ _ _ _ => z.toNat - (intOf i).toNat)
      case atStart => exact ⟨0, by omega, hz0, rfl⟩
      case round =>
        obtain ⟨q, hq0, hq1, rfl⟩ := hrel
        have hbq := bt_at rest q
        by_cases hqz : q < z
        · have hqs : q < (rest.size : Int) := by omega
          have hqd := decide_eq_true hqs
          have hqn : (bt rest q != 0) = true := bne_iff_ne.2 (hz2 q hq0 hqz)
          have hwr : wrap64 (q + 1) = q + 1 := w64 (by omega) (by omega)
          go_wp2_with fail
          go_round
          case rel => exact ⟨q + 1, by omega, by omega, rfl⟩
          case measure => simp [intOf]; omega
        · obtain rfl : q = z := by omega
          rcases hz3 with hqe | ⟨hqs, hqe⟩
          · have hqd : decide (q < (rest.size : Int)) = false := decide_eq_false (by omega)
            have hqe2 : (q == (rest.size : Int)) = true := beq_iff_eq.2 hqe
            go_wp2_with fail
            refine bodyPost_ret (results_ct rfl _ _ w.heap.size 23 #[.int .i64 0, .string ⟨#[]⟩, .string ⟨#[]⟩, .int .i64 0, .int .i64 0] (0, 0) _ rfl (((((HT.setR 0 _).setR 1 _).setR 2 _).setR 3 _).setR 4 _).r Try.underlying23 rfl (by kernel_rfl)) rfl ?_
            refine ⟨?_, setR5 HB _ _ _ _ _⟩
            rfl
          · have hqd := decide_eq_true hqs
            have hqn : (bt rest q != 0) = false := bne_eq_false_iff_eq.2 hqe
            exfalso
            omega
set_option maxHeartbeats 4000000 in
set_option maxRecDepth 100000 in
theorem refParse_9t (s : ByteArray) (w : World) (hs0 : 0 < s.size) (hs : s.size ≤ 1000000) (x : UInt8) (hx : s[0]'hs0 = x) (kd : Int) (hk : kindR x = kd) (hk1 : 1 ≤ kd)
    (rest : ByteArray) (hr : s.extract 1 s.size = rest) (hrs : rest.size ≤ 1000000) (z : Int) (hz0 : 0 ≤ z) (hz1 : z ≤ rest.size) (hz2 : ∀ i, 0 ≤ i → i < z → bt rest i ≠ 0) (hz3 : z = rest.size ∨ z < rest.size ∧ bt rest z = 0)
    (c2 : (kd == 2) = false) (c3 : (kd == 3) = false) (c4 : (kd == 4) = false) (c6 : (kd == 6) = false) (c7 : (kd == 7) = false) (c9 : (kd == 9) = true) (hzl : z < rest.size) (hsh : (rest.size : Int) - z < 4) :
    Calls Try.prog 18 #[.string s] w fun e w' => e = .returned (.tuple #[.agg #[.int .i64 0, .string ⟨#[]⟩, .string ⟨#[]⟩, .int .i64 0, .int .i64 0], .bool false]) ∧ Below w.heap.size w w' := by
  have hemp := bytes_ne hs0
  go_enter Try.func18, Try.ntmps18
  go_wp2_with fail
  go_loopw [5, 8, 9, 10, 11, 12, 13, 14, 15, 16, 17, 18, 19, 20, 21, 22] (fun i _ _ _ _ _ _ _ _ _ _ _ _ _ _ _ wx => ∃ n : Int, 1 ≤ n ∧ n ≤ 11 ∧ i = .int .i64 n ∧ Two wx w.heap.size #[.int .i64 0, .string ⟨#[]⟩, .string ⟨#[]⟩, .int .i64 0, .int .i64 0] #[.int .i64 (if kd < n then kd else 0), .string ⟨#[]⟩, .string ⟨#[]⟩, .int .i64 0, .int .i64 0] ∧ Below w.heap.size w wx) (fun i _ _ _ _ _ _ _ _ _ _ _ _ _ _ _ wx => 11 - (intOf i).toNat)
  case atStart =>
    have := kindR_range x
    have e : (if kd < 1 then kd else 0) = 0 := by split <;> omega
    exact ⟨1, by omega, by omega, rfl, by rw [e]; exact two0 w _ _, alloc2_below w _ _⟩
  case round =>
    obtain ⟨n, hn1, hn2, rfl, HT, HB⟩ := hrel
    have hkr := kindR_range x
    rw [hk] at hkr
    generalize hko : (if kd < n then kd else 0) = ko at HT
    obtain ⟨m0, m1, m2, m3, m4, l0, l1, l2, l3, l4, gk, gr⟩ := HT.seen
    by_cases hlt : n ≤ 10
    · have hd1 : decide (n ≤ 10) = true := decide_eq_true hlt
      have h0 : 0 ≤ n := by omega
      have h11 : n < 11 := by omega
      have hbt := bt_at ⟨#[32, 110, 105, 99, 100, 112, 114, 117, 102, 103, 116]⟩ n
      have hy := kindR_at n hn1 hlt x
      rw [hk] at hy
      have HK : Aside ((if kd < n then kd else 0) = ko) := hko
      clear hko
      go_wp2_with fail
      by_cases hkn : kd = n
      · have hd2 := decide_eq_true hkn
        rw [hd2] at hy
        have hk2 : (if kd < n + 1 then kd else 0) = n := by rw [if_pos (by omega), hkn]
        go_quiet (fail)
        have T2 : Two (wr.drewN nq) w.heap.size #[.int .i64 0, .string ⟨#[]⟩, .string ⟨#[]⟩, .int .i64 0, .int .i64 0] #[.int .i64 ko, .string ⟨#[]⟩, .string ⟨#[]⟩, .int .i64 0, .int .i64 0] := ⟨HT.r, HT.k⟩
        have B2 : Below w.heap.size w (wr.drewN nq) := below_drawn HB nq
        clear m0 m1 m2 m3 m4 l0 l1 l2 l3 l4 gk gr HT HB
        generalize wr.drewN nq = W2 at T2 B2 ⊢
        obtain ⟨m0, m1, m2, m3, m4, l0, l1, l2, l3, l4, gk, gr⟩ := T2.seen
        go_wp2_with fail
        go_roundw
        case rel => exact ⟨n + 1, by omega, by omega, rfl, by rw [hk2]; exact T2.setK 0 _, setK1 B2 0 _⟩
        case measure => simp [intOf]; omega
      · have hd2 := decide_eq_false hkn
        rw [hd2] at hy
        have hk2 : (if kd < n + 1 then kd else 0) = ko := by rw [← HK]; by_cases c : kd < n; rw [if_pos c, if_pos (by omega)]; rw [if_neg c, if_neg (by omega)]
        go_quiet (fail)
        go_wp2_with fail
        go_roundw
        case rel => exact ⟨n + 1, by omega, by omega, rfl, by rw [hk2]; exact ⟨HT.r, HT.k⟩, below_drawn HB nq⟩
        case measure => simp [intOf]; omega
    · have hd1 : decide (n ≤ 10) = false := decide_eq_false hlt
      rw [if_pos (by omega)] at hko
      subst hko
      have hk0 : (kd == 0) = false := by rw [beq_eq_false_iff_ne]; omega
      go_wp2_with fail
      go_loop [7, 29, 30, 31, 32, 33, 34, 35, 36, 37, 38, 39, 40] (fun i _ _ _ _ _ _ _ _ _ _ _ _ => ∃ q : Int, 0 ≤ q ∧ q ≤ z ∧ i = .int .i64 q) (fun i _ _ _ _ _ _ _ _ _ _ _ _ => z.toNat - (intOf i).toNat)
      case atStart => exact ⟨0, by omega, hz0, rfl⟩
      case round =>
        obtain ⟨q, hq0, hq1, rfl⟩ := hrel
        have hbq := bt_at rest q
        by_cases hqz : q < z
        · have hqs : q < (rest.size : Int) := by omega
          have hqd := decide_eq_true hqs
          have hqn : (bt rest q != 0) = true := bne_iff_ne.2 (hz2 q hq0 hqz)
          have hwr : wrap64 (q + 1) = q + 1 := w64 (by omega) (by omega)
          go_wp2_with fail
          go_round
          case rel => exact ⟨q + 1, by omega, by omega, rfl⟩
          case measure => simp [intOf]; omega
        · obtain rfl : q = z := by omega
          rcases hz3 with hqe | ⟨hqs, hqe⟩
          · have hqd : decide (q < (rest.size : Int)) = false := decide_eq_false (by omega)
            exfalso
            omega
          · have hqd := decide_eq_true hqs
            have hqn : (bt rest q != 0) = false := bne_eq_false_iff_eq.2 hqe
            have hqe2 : (q == (rest.size : Int)) = false := by rw [beq_eq_false_iff_ne]; omega
            have hql : q ≤ (rest.size : Int) := by omega
            have hwr : wrap64 (q + 1) = q + 1 := w64 (by omega) (by omega)
            have hq1l : q + 1 ≤ (rest.size : Int) := by omega
            have hq10 : 0 ≤ q + 1 := by omega
            have hws : wrap64 ((rest.size : Int) - q) = (rest.size : Int) - q := w64 (by omega) (by omega)
            have hl4 : decide ((rest.size : Int) - q < 4) = true := decide_eq_true (by omega)
            go_wp2_with fail
            refine bodyPost_ret (results_ct rfl _ _ w.heap.size 23 #[.int .i64 0, .string ⟨#[]⟩, .string ⟨#[]⟩, .int .i64 0, .int .i64 0] (0, 0) _ rfl (((((HT.setR 0 _).setR 1 _).setR 2 _).setR 3 _).setR 4 _).r Try.underlying23 rfl (by kernel_rfl)) rfl ?_
            refine ⟨?_, setR5 HB _ _ _ _ _⟩
            rfl
set_option maxHeartbeats 4000000 in
set_option maxRecDepth 100000 in
theorem refParse_6 (s : ByteArray) (w : World) (hs0 : 0 < s.size) (hs : s.size ≤ 1000000) (x : UInt8) (hx : s[0]'hs0 = x) (kd : Int) (hk : kindR x = kd) (hk1 : 1 ≤ kd)
    (rest : ByteArray) (hr : s.extract 1 s.size = rest) (hrs : rest.size ≤ 1000000) (z : Int) (hz0 : 0 ≤ z) (hz1 : z ≤ rest.size) (hz2 : ∀ i, 0 ≤ i → i < z → bt rest i ≠ 0) (hz3 : z = rest.size ∨ z < rest.size ∧ bt rest z = 0)
    (c2 : (kd == 2) = false) (c3 : (kd == 3) = false) (c4 : (kd == 4) = false) (c6 : (kd == 6) = true) (c7 : (kd == 7) = false) (c9 : (kd == 9) = false) (hzl : z < rest.size) (ca : ByteArray) (hca : rest.extract 0 z.toNat = ca) (cb : ByteArray) (hcb : rest.extract (z + 1).toNat rest.size = cb)
    (m : Bool) (hm : MayIs kd ca cb 0 0 m) (b : ByteArray) (hb : m = true → RefBytesIs kd ca cb 0 0 b) :
    Calls Try.prog 18 #[.string s] w fun e w' => e = .returned (refParsed s kd ca cb 0 0 m b) ∧ Below w.heap.size w w' := by
  have hemp := bytes_ne hs0
  go_enter Try.func18, Try.ntmps18
  go_wp2_with fail
  go_loopw [5, 8, 9, 10, 11, 12, 13, 14, 15, 16, 17, 18, 19, 20, 21, 22] (fun i _ _ _ _ _ _ _ _ _ _ _ _ _ _ _ wx => ∃ n : Int, 1 ≤ n ∧ n ≤ 11 ∧ i = .int .i64 n ∧ Two wx w.heap.size #[.int .i64 0, .string ⟨#[]⟩, .string ⟨#[]⟩, .int .i64 0, .int .i64 0] #[.int .i64 (if kd < n then kd else 0), .string ⟨#[]⟩, .string ⟨#[]⟩, .int .i64 0, .int .i64 0] ∧ Below w.heap.size w wx) (fun i _ _ _ _ _ _ _ _ _ _ _ _ _ _ _ wx => 11 - (intOf i).toNat)
  case atStart =>
    have := kindR_range x
    have e : (if kd < 1 then kd else 0) = 0 := by split <;> omega
    exact ⟨1, by omega, by omega, rfl, by rw [e]; exact two0 w _ _, alloc2_below w _ _⟩
  case round =>
    obtain ⟨n, hn1, hn2, rfl, HT, HB⟩ := hrel
    have hkr := kindR_range x
    rw [hk] at hkr
    generalize hko : (if kd < n then kd else 0) = ko at HT
    obtain ⟨m0, m1, m2, m3, m4, l0, l1, l2, l3, l4, gk, gr⟩ := HT.seen
    by_cases hlt : n ≤ 10
    · have hd1 : decide (n ≤ 10) = true := decide_eq_true hlt
      have h0 : 0 ≤ n := by omega
      have h11 : n < 11 := by omega
      have hbt := bt_at ⟨#[32, 110, 105, 99, 100, 112, 114, 117, 102, 103, 116]⟩ n
      have hy := kindR_at n hn1 hlt x
      rw [hk] at hy
      have HK : Aside ((if kd < n then kd else 0) = ko) := hko
      clear hko
      go_wp2_with fail
      by_cases hkn : kd = n
      · have hd2 := decide_eq_true hkn
        rw [hd2] at hy
        have hk2 : (if kd < n + 1 then kd else 0) = n := by rw [if_pos (by omega), hkn]
        go_quiet (fail)
        have T2 : Two (wr.drewN nq) w.heap.size #[.int .i64 0, .string ⟨#[]⟩, .string ⟨#[]⟩, .int .i64 0, .int .i64 0] #[.int .i64 ko, .string ⟨#[]⟩, .string ⟨#[]⟩, .int .i64 0, .int .i64 0] := ⟨HT.r, HT.k⟩
        have B2 : Below w.heap.size w (wr.drewN nq) := below_drawn HB nq
        clear m0 m1 m2 m3 m4 l0 l1 l2 l3 l4 gk gr HT HB
        generalize wr.drewN nq = W2 at T2 B2 ⊢
        obtain ⟨m0, m1, m2, m3, m4, l0, l1, l2, l3, l4, gk, gr⟩ := T2.seen
        go_wp2_with fail
        go_roundw
        case rel => exact ⟨n + 1, by omega, by omega, rfl, by rw [hk2]; exact T2.setK 0 _, setK1 B2 0 _⟩
        case measure => simp [intOf]; omega
      · have hd2 := decide_eq_false hkn
        rw [hd2] at hy
        have hk2 : (if kd < n + 1 then kd else 0) = ko := by rw [← HK]; by_cases c : kd < n; rw [if_pos c, if_pos (by omega)]; rw [if_neg c, if_neg (by omega)]
        go_quiet (fail)
        go_wp2_with fail
        go_roundw
        case rel => exact ⟨n + 1, by omega, by omega, rfl, by rw [hk2]; exact ⟨HT.r, HT.k⟩, below_drawn HB nq⟩
        case measure => simp [intOf]; omega
    · have hd1 : decide (n ≤ 10) = false := decide_eq_false hlt
      rw [if_pos (by omega)] at hko
      subst hko
      have hk0 : (kd == 0) = false := by rw [beq_eq_false_iff_ne]; omega
      go_wp2_with fail
      go_loop [7, 29, 30, 31, 32, 33, 34, 35, 36, 37, 38, 39, 40] (fun i _ _ _ _ _ _ _ _ _ _ _ _ => ∃ q : Int, 0 ≤ q ∧ q ≤ z ∧ i = .int .i64 q) (fun i _ _ _ _ _ _ _ _ _ _ _ _ => z.toNat - (intOf i).toNat)
      case atStart => exact ⟨0, by omega, hz0, rfl⟩
      case round =>
        obtain ⟨q, hq0, hq1, rfl⟩ := hrel
        have hbq := bt_at rest q
        by_cases hqz : q < z
        · have hqs : q < (rest.size : Int) := by omega
          have hqd := decide_eq_true hqs
          have hqn : (bt rest q != 0) = true := bne_iff_ne.2 (hz2 q hq0 hqz)
          have hwr : wrap64 (q + 1) = q + 1 := w64 (by omega) (by omega)
          go_wp2_with fail
          go_round
          case rel => exact ⟨q + 1, by omega, by omega, rfl⟩
          case measure => simp [intOf]; omega
        · obtain rfl : q = z := by omega
          rcases hz3 with hqe | ⟨hqs, hqe⟩
          · have hqd : decide (q < (rest.size : Int)) = false := decide_eq_false (by omega)
            exfalso
            omega
          · have hqd := decide_eq_true hqs
            have hqn : (bt rest q != 0) = false := bne_eq_false_iff_eq.2 hqe
            have hqe2 : (q == (rest.size : Int)) = false := by rw [beq_eq_false_iff_ne]; omega
            have hql : q ≤ (rest.size : Int) := by omega
            have hwr : wrap64 (q + 1) = q + 1 := w64 (by omega) (by omega)
            have hq1l : q + 1 ≤ (rest.size : Int) := by omega
            have hq10 : 0 ≤ q + 1 := by omega
            cases m
            · go_wp2_with (first | (go_at_call 14; refine (hm _).mono ?_; rintro e W3 ⟨rfl, hB3⟩; have T3 : Two W3 w.heap.size #[.int .i64 0, .string ⟨#[]⟩, .string ⟨#[]⟩, .int .i64 0, .int .i64 0] #[.int .i64 (kd), .string ca, .string cb, .int .i64 (0), .int .i64 (0)] := ((HT.setK 1 (.string ca)).setK 2 (.string cb)).below hB3; have B3 := (setK1 (setK1 HB 1 (.string ca)) 2 (.string cb)).trans (hB3.mono ((HT.setK 1 (.string ca)).setK 2 (.string cb)).lt); clear m0 m1 m2 m3 m4 l0 l1 l2 l3 l4 gk gr; obtain ⟨m0, m1, m2, m3, m4, l0, l1, l2, l3, l4, gk, gr⟩ := T3.seen))
              refine bodyPost_ret (results_ct rfl _ _ w.heap.size 23 #[.int .i64 0, .string ⟨#[]⟩, .string ⟨#[]⟩, .int .i64 0, .int .i64 0] (0, 0) _ rfl (((((T3.setR 0 _).setR 1 _).setR 2 _).setR 3 _).setR 4 _).r Try.underlying23 rfl (by kernel_rfl)) rfl ?_
              refine ⟨?_, setR5 B3 _ _ _ _ _⟩
              unfold refParsed
              rw [if_neg (by simp)]
              rfl
            · cases hbs : (b.toList == s.toList)
              · go_wp2_with (first | (go_at_call 14; refine (hm _).mono ?_; rintro e W3 ⟨rfl, hB3⟩; have T3 : Two W3 w.heap.size #[.int .i64 0, .string ⟨#[]⟩, .string ⟨#[]⟩, .int .i64 0, .int .i64 0] #[.int .i64 (kd), .string ca, .string cb, .int .i64 (0), .int .i64 (0)] := ((HT.setK 1 (.string ca)).setK 2 (.string cb)).below hB3; have B3 := (setK1 (setK1 HB 1 (.string ca)) 2 (.string cb)).trans (hB3.mono ((HT.setK 1 (.string ca)).setK 2 (.string cb)).lt); clear m0 m1 m2 m3 m4 l0 l1 l2 l3 l4 gk gr; obtain ⟨m0, m1, m2, m3, m4, l0, l1, l2, l3, l4, gk, gr⟩ := T3.seen) | (go_at_call 16; refine (hb (by simp) _).mono ?_; rintro e W4 ⟨rfl, hB4⟩; have T4 := T3.below hB4; have B4 := B3.trans (hB4.mono T3.lt); clear m0 m1 m2 m3 m4 l0 l1 l2 l3 l4 gk gr; obtain ⟨m0, m1, m2, m3, m4, l0, l1, l2, l3, l4, gk, gr⟩ := T4.seen))
                refine bodyPost_ret (results_ct rfl _ _ w.heap.size 23 #[.int .i64 0, .string ⟨#[]⟩, .string ⟨#[]⟩, .int .i64 0, .int .i64 0] (0, 0) _ rfl (((((T4.setR 0 _).setR 1 _).setR 2 _).setR 3 _).setR 4 _).r Try.underlying23 rfl (by kernel_rfl)) rfl ?_
                refine ⟨?_, setR5 B4 _ _ _ _ _⟩
                unfold refParsed
                rw [if_neg (fun h => by rw [h.2] at hbs; simp at hbs)]
                rfl
              · go_wp2_with (first | (go_at_call 14; refine (hm _).mono ?_; rintro e W3 ⟨rfl, hB3⟩; have T3 : Two W3 w.heap.size #[.int .i64 0, .string ⟨#[]⟩, .string ⟨#[]⟩, .int .i64 0, .int .i64 0] #[.int .i64 (kd), .string ca, .string cb, .int .i64 (0), .int .i64 (0)] := ((HT.setK 1 (.string ca)).setK 2 (.string cb)).below hB3; have B3 := (setK1 (setK1 HB 1 (.string ca)) 2 (.string cb)).trans (hB3.mono ((HT.setK 1 (.string ca)).setK 2 (.string cb)).lt); clear m0 m1 m2 m3 m4 l0 l1 l2 l3 l4 gk gr; obtain ⟨m0, m1, m2, m3, m4, l0, l1, l2, l3, l4, gk, gr⟩ := T3.seen) | (go_at_call 16; refine (hb (by simp) _).mono ?_; rintro e W4 ⟨rfl, hB4⟩; have T4 := T3.below hB4; have B4 := B3.trans (hB4.mono T3.lt); clear m0 m1 m2 m3 m4 l0 l1 l2 l3 l4 gk gr; obtain ⟨m0, m1, m2, m3, m4, l0, l1, l2, l3, l4, gk, gr⟩ := T4.seen))
                refine bodyPost_ret (results_ct rfl _ _ w.heap.size 23 #[.int .i64 (kd), .string ca, .string cb, .int .i64 (0), .int .i64 (0)] (0, 0) _ rfl (((((T4.setR 0 _).setR 1 _).setR 2 _).setR 3 _).setR 4 _).r Try.underlying23 rfl (by kernel_rfl)) rfl ?_
                refine ⟨?_, setR5 B4 _ _ _ _ _⟩
                unfold refParsed
                rw [if_pos ⟨rfl, by simpa using hbs⟩]
                rfl
set_option maxHeartbeats 4000000 in
set_option maxRecDepth 100000 in
theorem refParse_7 (s : ByteArray) (w : World) (hs0 : 0 < s.size) (hs : s.size ≤ 1000000) (x : UInt8) (hx : s[0]'hs0 = x) (kd : Int) (hk : kindR x = kd) (hk1 : 1 ≤ kd)
    (rest : ByteArray) (hr : s.extract 1 s.size = rest) (hrs : rest.size ≤ 1000000) (z : Int) (hz0 : 0 ≤ z) (hz1 : z ≤ rest.size) (hz2 : ∀ i, 0 ≤ i → i < z → bt rest i ≠ 0) (hz3 : z = rest.size ∨ z < rest.size ∧ bt rest z = 0)
    (c2 : (kd == 2) = false) (c3 : (kd == 3) = false) (c4 : (kd == 4) = false) (c6 : (kd == 6) = false) (c7 : (kd == 7) = true) (c9 : (kd == 9) = false) (hzl : z < rest.size) (ca : ByteArray) (hca : rest.extract 0 z.toNat = ca) (cb : ByteArray) (hcb : rest.extract (z + 1).toNat rest.size = cb)
    (m : Bool) (hm : MayIs kd ca cb 0 0 m) (b : ByteArray) (hb : m = true → RefBytesIs kd ca cb 0 0 b) :
    Calls Try.prog 18 #[.string s] w fun e w' => e = .returned (refParsed s kd ca cb 0 0 m b) ∧ Below w.heap.size w w' := by
  have hemp := bytes_ne hs0
  go_enter Try.func18, Try.ntmps18
  go_wp2_with fail
  go_loopw [5, 8, 9, 10, 11, 12, 13, 14, 15, 16, 17, 18, 19, 20, 21, 22] (fun i _ _ _ _ _ _ _ _ _ _ _ _ _ _ _ wx => ∃ n : Int, 1 ≤ n ∧ n ≤ 11 ∧ i = .int .i64 n ∧ Two wx w.heap.size #[.int .i64 0, .string ⟨#[]⟩, .string ⟨#[]⟩, .int .i64 0, .int .i64 0] #[.int .i64 (if kd < n then kd else 0), .string ⟨#[]⟩, .string ⟨#[]⟩, .int .i64 0, .int .i64 0] ∧ Below w.heap.size w wx) (fun i _ _ _ _ _ _ _ _ _ _ _ _ _ _ _ wx => 11 - (intOf i).toNat)
  case atStart =>
    have := kindR_range x
    have e : (if kd < 1 then kd else 0) = 0 := by split <;> omega
    exact ⟨1, by omega, by omega, rfl, by rw [e]; exact two0 w _ _, alloc2_below w _ _⟩
  case round =>
    obtain ⟨n, hn1, hn2, rfl, HT, HB⟩ := hrel
    have hkr := kindR_range x
    rw [hk] at hkr
    generalize hko : (if kd < n then kd else 0) = ko at HT
    obtain ⟨m0, m1, m2, m3, m4, l0, l1, l2, l3, l4, gk, gr⟩ := HT.seen
    by_cases hlt : n ≤ 10
    · have hd1 : decide (n ≤ 10) = true := decide_eq_true hlt
      have h0 : 0 ≤ n := by omega
      have h11 : n < 11 := by omega
      have hbt := bt_at ⟨#[32, 110, 105, 99, 100, 112, 114, 117, 102, 103, 116]⟩ n
      have hy := kindR_at n hn1 hlt x
      rw [hk] at hy
      have HK : Aside ((if kd < n then kd else 0) = ko) := hko
      clear hko
      go_wp2_with fail
      by_cases hkn : kd = n
      · have hd2 := decide_eq_true hkn
        rw [hd2] at hy
        have hk2 : (if kd < n + 1 then kd else 0) = n := by rw [if_pos (by omega), hkn]
        go_quiet (fail)
        have T2 : Two (wr.drewN nq) w.heap.size #[.int .i64 0, .string ⟨#[]⟩, .string ⟨#[]⟩, .int .i64 0, .int .i64 0] #[.int .i64 ko, .string ⟨#[]⟩, .string ⟨#[]⟩, .int .i64 0, .int .i64 0] := ⟨HT.r, HT.k⟩
        have B2 : Below w.heap.size w (wr.drewN nq) := below_drawn HB nq
        clear m0 m1 m2 m3 m4 l0 l1 l2 l3 l4 gk gr HT HB
        generalize wr.drewN nq = W2 at T2 B2 ⊢
        obtain ⟨m0, m1, m2, m3, m4, l0, l1, l2, l3, l4, gk, gr⟩ := T2.seen
        go_wp2_with fail
        go_roundw
        case rel => exact ⟨n + 1, by omega, by omega, rfl, by rw [hk2]; exact T2.setK 0 _, setK1 B2 0 _⟩
        case measure => simp [intOf]; omega
      · have hd2 := decide_eq_false hkn
        rw [hd2] at hy
        have hk2 : (if kd < n + 1 then kd else 0) = ko := by rw [← HK]; by_cases c : kd < n; rw [if_pos c, if_pos (by omega)]; rw [if_neg c, if_neg (by omega)]
        go_quiet (fail)
        go_wp2_with fail
        go_roundw
        case rel => exact ⟨n + 1, by omega, by omega, rfl, by rw [hk2]; exact ⟨HT.r, HT.k⟩, below_drawn HB nq⟩
        case measure => simp [intOf]; omega
    · have hd1 : decide (n ≤ 10) = false := decide_eq_false hlt
      rw [if_pos (by omega)] at hko
      subst hko
      have hk0 : (kd == 0) = false := by rw [beq_eq_false_iff_ne]; omega
      go_wp2_with fail
      go_loop [7, 29, 30, 31, 32, 33, 34, 35, 36, 37, 38, 39, 40] (fun i _ _ _ _ _ _ _ _ _ _ _ _ => ∃ q : Int, 0 ≤ q ∧ q ≤ z ∧ i = .int .i64 q) (fun i _ _ _ _ _ _ _ _ _ _ _ _ => z.toNat - (intOf i).toNat)
      case atStart => exact ⟨0, by omega, hz0, rfl⟩
      case round =>
        obtain ⟨q, hq0, hq1, rfl⟩ := hrel
        have hbq := bt_at rest q
        by_cases hqz : q < z
        · have hqs : q < (rest.size : Int) := by omega
          have hqd := decide_eq_true hqs
          have hqn : (bt rest q != 0) = true := bne_iff_ne.2 (hz2 q hq0 hqz)
          have hwr : wrap64 (q + 1) = q + 1 := w64 (by omega) (by omega)
          go_wp2_with fail
          go_round
          case rel => exact ⟨q + 1, by omega, by omega, rfl⟩
          case measure => simp [intOf]; omega
        · obtain rfl : q = z := by omega
          rcases hz3 with hqe | ⟨hqs, hqe⟩
          · have hqd : decide (q < (rest.size : Int)) = false := decide_eq_false (by omega)
            exfalso
            omega
          · have hqd := decide_eq_true hqs
            have hqn : (bt rest q != 0) = false := bne_eq_false_iff_eq.2 hqe
            have hqe2 : (q == (rest.size : Int)) = false := by rw [beq_eq_false_iff_ne]; omega
            have hql : q ≤ (rest.size : Int) := by omega
            have hwr : wrap64 (q + 1) = q + 1 := w64 (by omega) (by omega)
            have hq1l : q + 1 ≤ (rest.size : Int) := by omega
            have hq10 : 0 ≤ q + 1 := by omega
            cases m
            · go_wp2_with (first | (go_at_call 14; refine (hm _).mono ?_; rintro e W3 ⟨rfl, hB3⟩; have T3 : Two W3 w.heap.size #[.int .i64 0, .string ⟨#[]⟩, .string ⟨#[]⟩, .int .i64 0, .int .i64 0] #[.int .i64 (kd), .string ca, .string cb, .int .i64 (0), .int .i64 (0)] := ((HT.setK 1 (.string ca)).setK 2 (.string cb)).below hB3; have B3 := (setK1 (setK1 HB 1 (.string ca)) 2 (.string cb)).trans (hB3.mono ((HT.setK 1 (.string ca)).setK 2 (.string cb)).lt); clear m0 m1 m2 m3 m4 l0 l1 l2 l3 l4 gk gr; obtain ⟨m0, m1, m2, m3, m4, l0, l1, l2, l3, l4, gk, gr⟩ := T3.seen))
              refine bodyPost_ret (results_ct rfl _ _ w.heap.size 23 #[.int .i64 0, .string ⟨#[]⟩, .string ⟨#[]⟩, .int .i64 0, .int .i64 0] (0, 0) _ rfl (((((T3.setR 0 _).setR 1 _).setR 2 _).setR 3 _).setR 4 _).r Try.underlying23 rfl (by kernel_rfl)) rfl ?_
              refine ⟨?_, setR5 B3 _ _ _ _ _⟩
              unfold refParsed
              rw [if_neg (by simp)]
              rfl
            · cases hbs : (b.toList == s.toList)
              · go_wp2_with (first | (go_at_call 14; refine (hm _).mono ?_; rintro e W3 ⟨rfl, hB3⟩; have T3 : Two W3 w.heap.size #[.int .i64 0, .string ⟨#[]⟩, .string ⟨#[]⟩, .int .i64 0, .int .i64 0] #[.int .i64 (kd), .string ca, .string cb, .int .i64 (0), .int .i64 (0)] := ((HT.setK 1 (.string ca)).setK 2 (.string cb)).below hB3; have B3 := (setK1 (setK1 HB 1 (.string ca)) 2 (.string cb)).trans (hB3.mono ((HT.setK 1 (.string ca)).setK 2 (.string cb)).lt); clear m0 m1 m2 m3 m4 l0 l1 l2 l3 l4 gk gr; obtain ⟨m0, m1, m2, m3, m4, l0, l1, l2, l3, l4, gk, gr⟩ := T3.seen) | (go_at_call 16; refine (hb (by simp) _).mono ?_; rintro e W4 ⟨rfl, hB4⟩; have T4 := T3.below hB4; have B4 := B3.trans (hB4.mono T3.lt); clear m0 m1 m2 m3 m4 l0 l1 l2 l3 l4 gk gr; obtain ⟨m0, m1, m2, m3, m4, l0, l1, l2, l3, l4, gk, gr⟩ := T4.seen))
                refine bodyPost_ret (results_ct rfl _ _ w.heap.size 23 #[.int .i64 0, .string ⟨#[]⟩, .string ⟨#[]⟩, .int .i64 0, .int .i64 0] (0, 0) _ rfl (((((T4.setR 0 _).setR 1 _).setR 2 _).setR 3 _).setR 4 _).r Try.underlying23 rfl (by kernel_rfl)) rfl ?_
                refine ⟨?_, setR5 B4 _ _ _ _ _⟩
                unfold refParsed
                rw [if_neg (fun h => by rw [h.2] at hbs; simp at hbs)]
                rfl
              · go_wp2_with (first | (go_at_call 14; refine (hm _).mono ?_; rintro e W3 ⟨rfl, hB3⟩; have T3 : Two W3 w.heap.size #[.int .i64 0, .string ⟨#[]⟩, .string ⟨#[]⟩, .int .i64 0, .int .i64 0] #[.int .i64 (kd), .string ca, .string cb, .int .i64 (0), .int .i64 (0)] := ((HT.setK 1 (.string ca)).setK 2 (.string cb)).below hB3; have B3 := (setK1 (setK1 HB 1 (.string ca)) 2 (.string cb)).trans (hB3.mono ((HT.setK 1 (.string ca)).setK 2 (.string cb)).lt); clear m0 m1 m2 m3 m4 l0 l1 l2 l3 l4 gk gr; obtain ⟨m0, m1, m2, m3, m4, l0, l1, l2, l3, l4, gk, gr⟩ := T3.seen) | (go_at_call 16; refine (hb (by simp) _).mono ?_; rintro e W4 ⟨rfl, hB4⟩; have T4 := T3.below hB4; have B4 := B3.trans (hB4.mono T3.lt); clear m0 m1 m2 m3 m4 l0 l1 l2 l3 l4 gk gr; obtain ⟨m0, m1, m2, m3, m4, l0, l1, l2, l3, l4, gk, gr⟩ := T4.seen))
                refine bodyPost_ret (results_ct rfl _ _ w.heap.size 23 #[.int .i64 (kd), .string ca, .string cb, .int .i64 (0), .int .i64 (0)] (0, 0) _ rfl (((((T4.setR 0 _).setR 1 _).setR 2 _).setR 3 _).setR 4 _).r Try.underlying23 rfl (by kernel_rfl)) rfl ?_
                refine ⟨?_, setR5 B4 _ _ _ _ _⟩
                unfold refParsed
                rw [if_pos ⟨rfl, by simpa using hbs⟩]
                rfl
set_option maxHeartbeats 4000000 in
set_option maxRecDepth 100000 in
theorem refParse_9 (s : ByteArray) (w : World) (hs0 : 0 < s.size) (hs : s.size ≤ 1000000) (x : UInt8) (hx : s[0]'hs0 = x) (kd : Int) (hk : kindR x = kd) (hk1 : 1 ≤ kd)
    (rest : ByteArray) (hr : s.extract 1 s.size = rest) (hrs : rest.size ≤ 1000000) (z : Int) (hz0 : 0 ≤ z) (hz1 : z ≤ rest.size) (hz2 : ∀ i, 0 ≤ i → i < z → bt rest i ≠ 0) (hz3 : z = rest.size ∨ z < rest.size ∧ bt rest z = 0)
    (c2 : (kd == 2) = false) (c3 : (kd == 3) = false) (c4 : (kd == 4) = false) (c6 : (kd == 6) = false) (c7 : (kd == 7) = false) (c9 : (kd == 9) = true) (hzl : z < rest.size) (ca : ByteArray) (hca : rest.extract 0 z.toNat = ca) (cb : ByteArray) (hcb : rest.extract (z + 1).toNat rest.size = cb) (hsh : ¬ (rest.size : Int) - z < 4) (v : Int) (hrd : ReadIs cb v)
    (m : Bool) (hm : MayIs kd ca ⟨#[]⟩ v 0 m) (b : ByteArray) (hb : m = true → RefBytesIs kd ca ⟨#[]⟩ v 0 b) :
    Calls Try.prog 18 #[.string s] w fun e w' => e = .returned (refParsed s kd ca ⟨#[]⟩ v 0 m b) ∧ Below w.heap.size w w' := by
  have hemp := bytes_ne hs0
  go_enter Try.func18, Try.ntmps18
  go_wp2_with fail
  go_loopw [5, 8, 9, 10, 11, 12, 13, 14, 15, 16, 17, 18, 19, 20, 21, 22] (fun i _ _ _ _ _ _ _ _ _ _ _ _ _ _ _ wx => ∃ n : Int, 1 ≤ n ∧ n ≤ 11 ∧ i = .int .i64 n ∧ Two wx w.heap.size #[.int .i64 0, .string ⟨#[]⟩, .string ⟨#[]⟩, .int .i64 0, .int .i64 0] #[.int .i64 (if kd < n then kd else 0), .string ⟨#[]⟩, .string ⟨#[]⟩, .int .i64 0, .int .i64 0] ∧ Below w.heap.size w wx) (fun i _ _ _ _ _ _ _ _ _ _ _ _ _ _ _ wx => 11 - (intOf i).toNat)
  case atStart =>
    have := kindR_range x
    have e : (if kd < 1 then kd else 0) = 0 := by split <;> omega
    exact ⟨1, by omega, by omega, rfl, by rw [e]; exact two0 w _ _, alloc2_below w _ _⟩
  case round =>
    obtain ⟨n, hn1, hn2, rfl, HT, HB⟩ := hrel
    have hkr := kindR_range x
    rw [hk] at hkr
    generalize hko : (if kd < n then kd else 0) = ko at HT
    obtain ⟨m0, m1, m2, m3, m4, l0, l1, l2, l3, l4, gk, gr⟩ := HT.seen
    by_cases hlt : n ≤ 10
    · have hd1 : decide (n ≤ 10) = true := decide_eq_true hlt
      have h0 : 0 ≤ n := by omega
      have h11 : n < 11 := by omega
      have hbt := bt_at ⟨#[32, 110, 105, 99, 100, 112, 114, 117, 102, 103, 116]⟩ n
      have hy := kindR_at n hn1 hlt x
      rw [hk] at hy
      have HK : Aside ((if kd < n then kd else 0) = ko) := hko
      clear hko
      go_wp2_with fail
      by_cases hkn : kd = n
      · have hd2 := decide_eq_true hkn
        rw [hd2] at hy
        have hk2 : (if kd < n + 1 then kd else 0) = n := by rw [if_pos (by omega), hkn]
        go_quiet (fail)
        have T2 : Two (wr.drewN nq) w.heap.size #[.int .i64 0, .string ⟨#[]⟩, .string ⟨#[]⟩, .int .i64 0, .int .i64 0] #[.int .i64 ko, .string ⟨#[]⟩, .string ⟨#[]⟩, .int .i64 0, .int .i64 0] := ⟨HT.r, HT.k⟩
        have B2 : Below w.heap.size w (wr.drewN nq) := below_drawn HB nq
        clear m0 m1 m2 m3 m4 l0 l1 l2 l3 l4 gk gr HT HB
        generalize wr.drewN nq = W2 at T2 B2 ⊢
        obtain ⟨m0, m1, m2, m3, m4, l0, l1, l2, l3, l4, gk, gr⟩ := T2.seen
        go_wp2_with fail
        go_roundw
        case rel => exact ⟨n + 1, by omega, by omega, rfl, by rw [hk2]; exact T2.setK 0 _, setK1 B2 0 _⟩
        case measure => simp [intOf]; omega
      · have hd2 := decide_eq_false hkn
        rw [hd2] at hy
        have hk2 : (if kd < n + 1 then kd else 0) = ko := by rw [← HK]; by_cases c : kd < n; rw [if_pos c, if_pos (by omega)]; rw [if_neg c, if_neg (by omega)]
        go_quiet (fail)
        go_wp2_with fail
        go_roundw
        case rel => exact ⟨n + 1, by omega, by omega, rfl, by rw [hk2]; exact ⟨HT.r, HT.k⟩, below_drawn HB nq⟩
        case measure => simp [intOf]; omega
    · have hd1 : decide (n ≤ 10) = false := decide_eq_false hlt
      rw [if_pos (by omega)] at hko
      subst hko
      have hk0 : (kd == 0) = false := by rw [beq_eq_false_iff_ne]; omega
      go_wp2_with fail
      go_loop [7, 29, 30, 31, 32, 33, 34, 35, 36, 37, 38, 39, 40] (fun i _ _ _ _ _ _ _ _ _ _ _ _ => ∃ q : Int, 0 ≤ q ∧ q ≤ z ∧ i = .int .i64 q) (fun i _ _ _ _ _ _ _ _ _ _ _ _ => z.toNat - (intOf i).toNat)
      case atStart => exact ⟨0, by omega, hz0, rfl⟩
      case round =>
        obtain ⟨q, hq0, hq1, rfl⟩ := hrel
        have hbq := bt_at rest q
        by_cases hqz : q < z
        · have hqs : q < (rest.size : Int) := by omega
          have hqd := decide_eq_true hqs
          have hqn : (bt rest q != 0) = true := bne_iff_ne.2 (hz2 q hq0 hqz)
          have hwr : wrap64 (q + 1) = q + 1 := w64 (by omega) (by omega)
          go_wp2_with fail
          go_round
          case rel => exact ⟨q + 1, by omega, by omega, rfl⟩
          case measure => simp [intOf]; omega
        · obtain rfl : q = z := by omega
          rcases hz3 with hqe | ⟨hqs, hqe⟩
          · have hqd : decide (q < (rest.size : Int)) = false := decide_eq_false (by omega)
            exfalso
            omega
          · have hqd := decide_eq_true hqs
            have hqn : (bt rest q != 0) = false := bne_eq_false_iff_eq.2 hqe
            have hqe2 : (q == (rest.size : Int)) = false := by rw [beq_eq_false_iff_ne]; omega
            have hql : q ≤ (rest.size : Int) := by omega
            have hwr : wrap64 (q + 1) = q + 1 := w64 (by omega) (by omega)
            have hq1l : q + 1 ≤ (rest.size : Int) := by omega
            have hq10 : 0 ≤ q + 1 := by omega
            have hws : wrap64 ((rest.size : Int) - q) = (rest.size : Int) - q := w64 (by omega) (by omega)
            have hl4 : decide ((rest.size : Int) - q < 4) = false := decide_eq_false (by omega)
            cases m
            · go_wp2_with (first | (go_at_call 33; refine (hrd _).mono ?_; rintro e W5 ⟨rfl, hB5⟩; have T5 := (HT.setK 1 (.string ca)).below hB5; have B5 := (setK1 HB 1 (.string ca)).trans (hB5.mono (HT.setK 1 (.string ca)).lt); clear m0 m1 m2 m3 m4 l0 l1 l2 l3 l4 gk gr; obtain ⟨m0, m1, m2, m3, m4, l0, l1, l2, l3, l4, gk, gr⟩ := T5.seen) | (go_at_call 14; refine (hm _).mono ?_; rintro e W3 ⟨rfl, hB3⟩; have T3 : Two W3 w.heap.size #[.int .i64 0, .string ⟨#[]⟩, .string ⟨#[]⟩, .int .i64 0, .int .i64 0] #[.int .i64 (kd), .string ca, .string ⟨#[]⟩, .int .i64 (v), .int .i64 (0)] := (T5.setK 3 (.int .i64 v)).below hB3; have B3 := (setK1 B5 3 (.int .i64 v)).trans (hB3.mono (T5.setK 3 (.int .i64 v)).lt); clear m0 m1 m2 m3 m4 l0 l1 l2 l3 l4 gk gr; obtain ⟨m0, m1, m2, m3, m4, l0, l1, l2, l3, l4, gk, gr⟩ := T3.seen))
              refine bodyPost_ret (results_ct rfl _ _ w.heap.size 23 #[.int .i64 0, .string ⟨#[]⟩, .string ⟨#[]⟩, .int .i64 0, .int .i64 0] (0, 0) _ rfl (((((T3.setR 0 _).setR 1 _).setR 2 _).setR 3 _).setR 4 _).r Try.underlying23 rfl (by kernel_rfl)) rfl ?_
              refine ⟨?_, setR5 B3 _ _ _ _ _⟩
              unfold refParsed
              rw [if_neg (by simp)]
              rfl
            · cases hbs : (b.toList == s.toList)
              · go_wp2_with (first | (go_at_call 33; refine (hrd _).mono ?_; rintro e W5 ⟨rfl, hB5⟩; have T5 := (HT.setK 1 (.string ca)).below hB5; have B5 := (setK1 HB 1 (.string ca)).trans (hB5.mono (HT.setK 1 (.string ca)).lt); clear m0 m1 m2 m3 m4 l0 l1 l2 l3 l4 gk gr; obtain ⟨m0, m1, m2, m3, m4, l0, l1, l2, l3, l4, gk, gr⟩ := T5.seen) | (go_at_call 14; refine (hm _).mono ?_; rintro e W3 ⟨rfl, hB3⟩; have T3 : Two W3 w.heap.size #[.int .i64 0, .string ⟨#[]⟩, .string ⟨#[]⟩, .int .i64 0, .int .i64 0] #[.int .i64 (kd), .string ca, .string ⟨#[]⟩, .int .i64 (v), .int .i64 (0)] := (T5.setK 3 (.int .i64 v)).below hB3; have B3 := (setK1 B5 3 (.int .i64 v)).trans (hB3.mono (T5.setK 3 (.int .i64 v)).lt); clear m0 m1 m2 m3 m4 l0 l1 l2 l3 l4 gk gr; obtain ⟨m0, m1, m2, m3, m4, l0, l1, l2, l3, l4, gk, gr⟩ := T3.seen) | (go_at_call 16; refine (hb (by simp) _).mono ?_; rintro e W4 ⟨rfl, hB4⟩; have T4 := T3.below hB4; have B4 := B3.trans (hB4.mono T3.lt); clear m0 m1 m2 m3 m4 l0 l1 l2 l3 l4 gk gr; obtain ⟨m0, m1, m2, m3, m4, l0, l1, l2, l3, l4, gk, gr⟩ := T4.seen))
                refine bodyPost_ret (results_ct rfl _ _ w.heap.size 23 #[.int .i64 0, .string ⟨#[]⟩, .string ⟨#[]⟩, .int .i64 0, .int .i64 0] (0, 0) _ rfl (((((T4.setR 0 _).setR 1 _).setR 2 _).setR 3 _).setR 4 _).r Try.underlying23 rfl (by kernel_rfl)) rfl ?_
                refine ⟨?_, setR5 B4 _ _ _ _ _⟩
                unfold refParsed
                rw [if_neg (fun h => by rw [h.2] at hbs; simp at hbs)]
                rfl
              · go_wp2_with (first | (go_at_call 33; refine (hrd _).mono ?_; rintro e W5 ⟨rfl, hB5⟩; have T5 := (HT.setK 1 (.string ca)).below hB5; have B5 := (setK1 HB 1 (.string ca)).trans (hB5.mono (HT.setK 1 (.string ca)).lt); clear m0 m1 m2 m3 m4 l0 l1 l2 l3 l4 gk gr; obtain ⟨m0, m1, m2, m3, m4, l0, l1, l2, l3, l4, gk, gr⟩ := T5.seen) | (go_at_call 14; refine (hm _).mono ?_; rintro e W3 ⟨rfl, hB3⟩; have T3 : Two W3 w.heap.size #[.int .i64 0, .string ⟨#[]⟩, .string ⟨#[]⟩, .int .i64 0, .int .i64 0] #[.int .i64 (kd), .string ca, .string ⟨#[]⟩, .int .i64 (v), .int .i64 (0)] := (T5.setK 3 (.int .i64 v)).below hB3; have B3 := (setK1 B5 3 (.int .i64 v)).trans (hB3.mono (T5.setK 3 (.int .i64 v)).lt); clear m0 m1 m2 m3 m4 l0 l1 l2 l3 l4 gk gr; obtain ⟨m0, m1, m2, m3, m4, l0, l1, l2, l3, l4, gk, gr⟩ := T3.seen) | (go_at_call 16; refine (hb (by simp) _).mono ?_; rintro e W4 ⟨rfl, hB4⟩; have T4 := T3.below hB4; have B4 := B3.trans (hB4.mono T3.lt); clear m0 m1 m2 m3 m4 l0 l1 l2 l3 l4 gk gr; obtain ⟨m0, m1, m2, m3, m4, l0, l1, l2, l3, l4, gk, gr⟩ := T4.seen))
                refine bodyPost_ret (results_ct rfl _ _ w.heap.size 23 #[.int .i64 (kd), .string ca, .string ⟨#[]⟩, .int .i64 (v), .int .i64 (0)] (0, 0) _ rfl (((((T4.setR 0 _).setR 1 _).setR 2 _).setR 3 _).setR 4 _).r Try.underlying23 rfl (by kernel_rfl)) rfl ?_
                refine ⟨?_, setR5 B4 _ _ _ _ _⟩
                unfold refParsed
                rw [if_pos ⟨rfl, by simpa using hbs⟩]
                rfl
end Go.Proofs.YtcohfhclcoiigaaX
