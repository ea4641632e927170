/- slices.ContainsFunc at the two functions that node.Check hands it. -/
import Derived.Test.YtjhenmegcgnkgaaProg
import Derived.Test.YtjhenmegcgnkgaaWWords
import Derived.Test.YtjhenmegcgnkgaaWMore
import Derived.Test.YtjhenmegcgnkgaaPlain
set_option linter.unusedVariables false
set_option linter.unusedSimpArgs false
namespace Go.Proofs.YtjhenmegcgnkgaaX
open Go.RowKit Go.Proofs.YtjhenmegcgnkgaaW.PrintWords Go.Proofs.YtjhenmegcgnkgaaW.PrintMore

def inB (n low high : Int) : Bool := decide (low ≤ n) && decide (n ≤ high)
theorem within_calls (n low high : Int) (w : World) : Calls Try.prog 29 #[.int .i64 n, .int .i64 low, .int .i64 high] w fun e w' => e = .returned (.bool (inB n low high)) ∧ w' = w := by
  unfold inB
  go_enter Try.func29, Try.ntmps29
  cases h1 : decide (low ≤ n)
  · go_wp2
    go_ret
    exact ⟨by simp, rfl⟩
  · go_wp2
    go_ret
    exact ⟨by simp, rfl⟩
theorem check2_calls (n : Int) (w : World) : Calls Try.prog 28 #[.int .i64 n] w fun e w' => e = .returned (.bool (!inB n 1 16777215)) ∧ w' = w := by
  go_enter Try.func28, Try.ntmps28
  go_wp2_with (go_at_call 29; refine (within_calls _ _ _ _).mono ?_; rintro e w' ⟨rfl, rfl⟩)
  go_ret
  exact ⟨rfl, rfl⟩
theorem any_stop {α : Type} (l : List α) (p : α → Bool) (n : Nat) (h : n < l.length) (hp : p l[n] = true) : l.any p = true := List.any_eq_true.2 ⟨l[n], List.getElem_mem h, hp⟩
theorem any_none {α : Type} (l : List α) (p : α → Bool) (n : Nat) (h : l.length ≤ n) (hp : ∀ x ∈ l.take n, p x = false) : l.any p = false := by
  rw [List.take_of_length_le h] at hp
  rw [List.any_eq_false]
  intro x hx
  rw [hp x hx]
  decide
theorem take_step {α : Type} (l : List α) (p : α → Bool) (n : Nat) (h : n < l.length) (hp : ∀ x ∈ l.take n, p x = false) (hn : p l[n] = false) : ∀ x ∈ l.take (n + 1), p x = false := by
  intro x hx
  rw [List.take_add_one, List.getElem?_eq_getElem h] at hx
  rcases List.mem_append.1 hx with hx | hx
  · exact hp x hx
  · obtain rfl : x = l[n] := by simpa using hx
    exact hn

def longB (s : ByteArray) (room : Int) : Bool := decide ((s.size : Int) > room)
theorem check1_calls (s : ByteArray) (b : Nat) (room : Int) (w : World) (hb : w.cell? ⟨b, 0, none⟩ = some (.int .i64 room)) :
    Calls Try.prog 26 #[.string s, .pointer (some ⟨b, 0, none⟩)] w fun e w' => e = .returned (.bool (longB s room)) ∧ w' = w := by
  go_enter Try.func26, Try.ntmps26
  go_wp2
  go_ret
  exact ⟨rfl, rfl⟩

set_option maxHeartbeats 1000000 in
theorem indexInt_calls (A : Option Addr) (c : Nat) (l : List Int) (w : World) (hc : Kd.C (Kd.int .i64) w A l.length l) (hcap : l.length ≤ c) (hbig : l.length ≤ 4611686018427387904) :
    Calls Try.prog 42 #[.slice A l.length c, .func (.func 28) #[] #[]] w fun e w' => (∃ r, e = .returned (.int .i64 r) ∧ decide (r ≥ 0) = l.any fun n => !inB n 1 16777215) ∧ w' = w := by
  go_enter Try.func42, Try.ntmps42
  go_wp2
  go_loop [5, 8, 9, 10, 11, 12, 13, 14, 15, 16, 17, 18] (fun _ i _ _ _ _ _ _ _ _ _ _ => ∃ n : Int, 0 ≤ n ∧ n ≤ l.length ∧ i = .int .i64 n ∧ ∀ x ∈ l.take n.toNat, (!inB x 1 16777215) = false) (fun _ i _ _ _ _ _ _ _ _ _ _ => l.length - (intOf i).toNat)
  case atStart => exact ⟨0, by omega, by omega, rfl, by simp⟩
  case round =>
    obtain ⟨n, hn0, hn1, rfl, hno⟩ := hrel
    have HN := Aside0.mk hno
    clear hno
    by_cases hlt : n < (l.length : Int)
    · have hd := decide_eq_true hlt
      obtain ⟨ad, e, hcell⟩ := Kd.at_int hc n hn0 hlt
      subst e
      have hnn : n.toNat < l.length := by omega
      have hrd : rd l n = l[n.toNat] := by
        unfold rd
        rw [List.getD_eq_getElem?_getD, List.getElem?_eq_getElem hnn]
        rfl
      have hw : wrap64 (n + 1) = n + 1 := w64 (by omega) (by omega)
      have HR := Aside0.mk hrd
      clear hrd
      cases hin : inB (rd l n) 1 16777215
      · go_wp2_with (go_at_call 28; refine (check2_calls _ _).mono ?_; rintro e w' ⟨rfl, rfl⟩)
        go_ret
        refine ⟨⟨n, rfl, ?_⟩, rfl⟩
        rw [decide_eq_true hn0]
        exact (any_stop l (fun n => !inB n 1 16777215) n.toNat hnn (by rw [← HR.out, hin]; rfl)).symm
      · go_wp2_with (go_at_call 28; refine (check2_calls _ _).mono ?_; rintro e w' ⟨rfl, rfl⟩)
        go_round
        case rel =>
          refine ⟨n + 1, by omega, by omega, by first | rfl | rw [hw], ?_⟩
          rw [show (n + 1).toNat = n.toNat + 1 by omega]
          exact take_step l _ n.toNat hnn HN.out (by rw [← HR.out, hin]; rfl)
        case measure => simp [intOf]; omega
    · have hd := decide_eq_false hlt
      go_wp2
      go_ret
      refine ⟨⟨-1, rfl, ?_⟩, rfl⟩
      exact (any_none l (fun n => !inB n 1 16777215) n.toNat (by omega) HN.out).symm
theorem containsInt_calls (A : Option Addr) (c : Nat) (l : List Int) (w : World) (hc : Kd.C (Kd.int .i64) w A l.length l) (hcap : l.length ≤ c) (hbig : l.length ≤ 4611686018427387904) :
    Calls Try.prog 27 #[.slice A l.length c, .func (.func 28) #[] #[]] w fun e w' => e = .returned (.bool (l.any fun n => !inB n 1 16777215)) ∧ w' = w := by
  go_enter Try.func27, Try.ntmps27
  go_wp2_with (go_at_call 42; refine (indexInt_calls A c l _ hc hcap hbig).mono ?_; rintro e w' ⟨⟨r, rfl, hr⟩, rfl⟩)
  go_ret
  exact ⟨by rw [← hr]; rfl, rfl⟩
set_option maxHeartbeats 1000000 in
theorem indexStr_calls (A : Option Addr) (c : Nat) (l : List ByteArray) (b : Nat) (room : Int) (w : World) (hb : w.cell? ⟨b, 0, none⟩ = some (.int .i64 room)) (hc : Kd.C Kd.string w A l.length l) (hcap : l.length ≤ c) (hbig : l.length ≤ 4611686018427387904) :
    Calls Try.prog 41 #[.slice A l.length c, .func (.func 26) #[] #[.pointer (some ⟨b, 0, none⟩)]] w fun e w' => (∃ r, e = .returned (.int .i64 r) ∧ decide (r ≥ 0) = l.any fun x => longB x room) ∧ w' = w := by
  go_enter Try.func41, Try.ntmps41
  have HB := Aside0.mk hb
  go_wp2
  go_loop [5, 8, 9, 10, 11, 12, 13, 14, 15, 16, 17, 18] (fun _ i _ _ _ _ _ _ _ _ _ _ => ∃ n : Int, 0 ≤ n ∧ n ≤ l.length ∧ i = .int .i64 n ∧ ∀ x ∈ l.take n.toNat, longB x room = false) (fun _ i _ _ _ _ _ _ _ _ _ _ => l.length - (intOf i).toNat)
  case atStart => exact ⟨0, by omega, by omega, rfl, by simp⟩
  case round =>
    obtain ⟨n, hn0, hn1, rfl, hno⟩ := hrel
    have HN := Aside0.mk hno
    clear hno
    by_cases hlt : n < (l.length : Int)
    · have hd := decide_eq_true hlt
      obtain ⟨ad, e, hcell⟩ := Kd.at_string hc n hn0 hlt
      subst e
      have hnn : n.toNat < l.length := by omega
      have hrd : rdOf ByteArray.empty l n = l[n.toNat] := by
        unfold rdOf
        rw [List.getD_eq_getElem?_getD, List.getElem?_eq_getElem hnn]
        rfl
      have hw : wrap64 (n + 1) = n + 1 := w64 (by omega) (by omega)
      have HR := Aside0.mk hrd
      clear hrd
      cases hin : longB (rdOf ByteArray.empty l n) room
      · go_wp2_with (go_at_call 26; refine (check1_calls _ b room w HB.out).mono ?_; rintro e w' ⟨rfl, rfl⟩)
        go_round
        case rel =>
          refine ⟨n + 1, by omega, by omega, by first | rfl | rw [hw], ?_⟩
          rw [show (n + 1).toNat = n.toNat + 1 by omega]
          exact take_step l _ n.toNat hnn HN.out (by rw [← HR.out]; exact hin)
        case measure => simp [intOf]; omega
      · go_wp2_with (go_at_call 26; refine (check1_calls _ b room w HB.out).mono ?_; rintro e w' ⟨rfl, rfl⟩)
        go_ret
        refine ⟨⟨n, rfl, ?_⟩, rfl⟩
        rw [decide_eq_true hn0]
        exact (any_stop l (fun x => longB x room) n.toNat hnn (by rw [← HR.out]; exact hin)).symm
    · have hd := decide_eq_false hlt
      go_wp2
      go_ret
      refine ⟨⟨-1, rfl, ?_⟩, rfl⟩
      exact (any_none l (fun x => longB x room) n.toNat (by omega) HN.out).symm
theorem containsStr_calls (A : Option Addr) (c : Nat) (l : List ByteArray) (b : Nat) (room : Int) (w : World) (hb : w.cell? ⟨b, 0, none⟩ = some (.int .i64 room)) (hc : Kd.C Kd.string w A l.length l) (hcap : l.length ≤ c) (hbig : l.length ≤ 4611686018427387904) :
    Calls Try.prog 25 #[.slice A l.length c, .func (.func 26) #[] #[.pointer (some ⟨b, 0, none⟩)]] w fun e w' => e = .returned (.bool (l.any fun x => longB x room)) ∧ w' = w := by
  go_enter Try.func25, Try.ntmps25
  go_wp2_with (go_at_call 41; refine (indexStr_calls A c l b room _ hb hc hcap hbig).mono ?_; rintro e w' ⟨⟨r, rfl, hr⟩, rfl⟩)
  go_ret
  exact ⟨by rw [← hr]; rfl, rfl⟩
end Go.Proofs.YtjhenmegcgnkgaaX
