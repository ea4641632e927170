/- The reference's text. -/
import Derived.Test.YtjhenmegcgnkgaaNodeFind
import Derived.Test.YtjhenmegcgnkgaaPlain
import Derived.Test.YtjhenmegcgnkgaaWLast
set_option linter.unusedVariables false
set_option linter.unusedSimpArgs false
namespace Go.Proofs.YtjhenmegcgnkgaaX
open Go.RowKit Go.Proofs.YtjhenmegcgnkgaaW.PrintWords Go.Proofs.YtjhenmegcgnkgaaW.PrintLast Go.Proofs.YtjhenmegcgnkgaaW.PrintMore

theorem info_u8r : (Try.prog.info? 5).map (fun i => (i.zero, i.size, i.bytes)) = some (some (.int .u8 0), 1, 1) := by kernel_rfl
def refText (l : List Int) (a : Int) : ByteArray × Int := if a < 0 then (⟨#[]⟩, -1) else if a ≥ (l.length : Int) then (⟨#[]⟩, -1) else if a + 1 + rd l a > (l.length : Int) then (⟨#[]⟩, -1) else (strOfNums ((l.take (a + 1 + rd l a).toNat).drop (a + 1).toNat), a + 1 + rd l a)
set_option maxHeartbeats 2000000 in
theorem refText_calls (A : Option Addr) (c : Nat) (l : List Int) (a : Int) (w : World) (hr : Kd.C (Kd.int .u8) w A l.length l) (hc : l.length ≤ c) (hl : l.length ≤ 1000000) (ho : ∀ i, 0 ≤ rd l i ∧ rd l i ≤ 255) :
    Calls Try.prog 37 #[.slice A l.length c, .int .i64 a] w fun e w' => e = .returned (.tuple #[.string (refText l a).1, .int .i64 (refText l a).2]) ∧ w' = w := by
  unfold refText
  by_cases h1 : a < 0
  · rw [if_pos h1]
    have d1 := decide_eq_true h1
    clear h1
    go_enter Try.func37, Try.ntmps37
    go_wp2
    go_ret2
    exact ⟨rfl, rfl⟩
  rw [if_neg h1]
  have d1 := decide_eq_false h1
  by_cases h2 : a ≥ (l.length : Int)
  · rw [if_pos h2]
    have d2 := decide_eq_true h2
    clear h1 h2
    go_enter Try.func37, Try.ntmps37
    go_wp2
    go_ret2
    exact ⟨rfl, rfl⟩
  rw [if_neg h2]
  have d2 := decide_eq_false h2
  have ha0 : 0 ≤ a := by omega
  have ha1 : a < (l.length : Int) := by omega
  obtain ⟨ad, hA, hcell⟩ := Kd.at_int hr a ha0 ha1
  obtain ⟨n, hn⟩ : ∃ n, rd l a = n := ⟨_, rfl⟩
  have hno := ho a
  rw [hn] at hno hcell
  rw [hn]
  have e1 : wrap64 (a + 1) = a + 1 := w64 (by omega) (by omega)
  have e2 : IntKind.i64.wrap n = n := wraps_i64 n hno.1 (by omega)
  have e2' : wrap64 n = n := w64 (by omega) (by omega)
  have e3 : wrap64 (a + 1 + n) = a + 1 + n := w64 (by omega) (by omega)
  have HE3 := Aside0.mk e3
  have pa := eq_true ha0
  have pb := eq_true ha1
  by_cases h3 : a + 1 + n > (l.length : Int)
  · rw [if_pos h3]
    have d3 := decide_eq_true h3
    subst hA
    clear h1 h2 h3 hn hno ha0 ha1 ho
    go_enter Try.func37, Try.ntmps37
    go_wp2
    go_ret2
    exact ⟨rfl, rfl⟩
  · rw [if_neg h3]
    have d3 := decide_eq_false h3
    obtain ⟨i0, hi0, _, hsz, _⟩ := info_parts info_u8r
    obtain ⟨A2, hcut, hA2, hC2⟩ := print_mid_int (P := Try.prog) (k := .u8) 30 5 Try.underlying30 hi0 hsz A c l (a + 1) (a + 1 + n) (by omega) (by omega) (by omega) hc
    have hcv := Kd.C_string (P := Try.prog) (A := A2) (c := c - (a + 1).toNat) Try.underlying30 Try.underlying5 Try.underlying9 (Kd.C_of_reads (h1 := fun _ => rfl) (d := (0 : Int)) (enc := Value.int .u8) (hA2 w (Kd.reads_of_C (d := (0 : Int)) hr)))
    obtain ⟨m, hm⟩ : ∃ m, ((l.take (a + 1 + n).toNat).drop (a + 1).toNat).length = m := ⟨_, rfl⟩
    rw [hm] at hcut hcv
    subst hA
    clear h1 h2 h3 hn hno ha0 ha1 ho hA2 hC2 hm
    go_enter Try.func37, Try.ntmps37
    go_wp2
    go_ret2
    exact ⟨congrArg (fun z => Ending.returned (.tuple #[.string (strOfNums ((l.take (a + 1 + n).toNat).drop (a + 1).toNat)), .int .i64 z])) HE3.out, rfl⟩
def octB (l : List Int) : Bool := l.all fun x => decide (0 ≤ x) && decide (x ≤ 255)
theorem octB_rd {l : List Int} (h : octB l = true) (i : Int) : 0 ≤ rd l i ∧ rd l i ≤ 255 := by
  unfold rd
  rw [List.getD_eq_getElem?_getD]
  rcases Nat.lt_or_ge i.toNat l.length with hl | hl
  · rw [List.getElem?_eq_getElem hl]
    have := List.all_eq_true.1 h _ (List.getElem_mem hl)
    rw [Bool.and_eq_true] at this
    exact ⟨of_decide_eq_true this.1, of_decide_eq_true this.2⟩
  · rw [List.getElem?_eq_none hl]
    exact ⟨Int.le_refl _, by decide⟩
end Go.Proofs.YtjhenmegcgnkgaaX
