/- ScanParts: the law's walk. -/
import Derived.Test.YtkmnjekbacdfoaaScanPartsRel
set_option linter.unusedVariables false
set_option linter.unusedSimpArgs false
namespace Go.Proofs.YtkmnjekbacdfoaaX
open Go.RowKit Go.Maps Go.Proofs.Ytkmnjekbacdfoaa.PScanL Go.Proofs.YtkmnjekbacdfoaaW.PrintWords Go.Proofs.YtkmnjekbacdfoaaW.PrintLast Go.Proofs.YtkmnjekbacdfoaaW.PrintMore
set_option maxHeartbeats 4000000 in
set_option maxRecDepth 100000 in
theorem parts_long (A0 : Option Addr) (c0 : Nat) (ps : List (List Int)) (V : Value) (w : World) (h : 60 < ps.length) (hm : ps.length ≤ 9223372036854775807) :
    Calls Try.prog 4 #[.slice A0 ps.length c0, V] w fun e w' => e = .returned (.bool true) ∧ Below w.heap.size w w' := by
  have d1 : (60 : Int) < (ps.length : Int) := by omega
  clear h
  go_enter Try.func4, Try.ntmps4
  go_wp2
  go_ret
  exact ⟨rfl, Below.refl _ _⟩
theorem few_calls (A1 : Option Addr) (c1 : Nat) (names : List ByteArray) (w : World) (hC1 : Kd.C Kd.string w A1 names.length names) (hc1 : names.length ≤ c1) : ∃ r : Bool, (r = true → names.length ≤ 40 ∧ ∀ s ∈ names, s.size ≤ 200) ∧
    Calls Try.prog 8 #[.slice none 0 0, .slice A1 names.length c1] w fun e w' => e = .returned (.bool r) ∧ Drawn0 w w' := by
  obtain ⟨r, hr, hr2⟩ := few_ev [] names
  obtain ⟨k, hk⟩ := hr.rounds
  exact ⟨r, fun h => (hr2 h).2, chandlerylaw20_few.calls k none 0 [] A1 c1 names r w (Kd.C_nil _ _) (Nat.le_refl _) hC1 hc1 hk⟩
set_option maxHeartbeats 4000000 in
set_option maxRecDepth 100000 in
theorem parts_many (A0 A1 : Option Addr) (c0 c1 : Nat) (ps : List (List Int)) (names : List ByteArray) (w : World) (h : ps.length ≤ 60)
    (cW : Calls Try.prog 8 #[.slice none 0 0, .slice A1 names.length c1] w fun e w' => e = .returned (.bool false) ∧ Drawn0 w w') :
    Calls Try.prog 4 #[.slice A0 ps.length c0, .slice A1 names.length c1] w fun e w' => e = .returned (.bool true) ∧ Below w.heap.size w w' := by
  have d1 : ¬ (60 : Int) < (ps.length : Int) := by omega
  clear h
  go_enter Try.func4, Try.ntmps4
  go_wp2_with (go_at_call 8; refine cW.mono ?_; rintro e w1 ⟨rfl, ⟨n1, rfl⟩⟩)
  go_ret
  exact ⟨rfl, pw_below_drewN (Below.refl _ _) n1⟩
set_option maxHeartbeats 4000000 in
set_option maxRecDepth 100000 in
theorem parts_none (A0 A1 : Option Addr) (c0 c1 : Nat) (ps : List (List Int)) (names : List ByteArray) (w : World) (h : ps.length ≤ 60) (hl : names.length ≤ 1000) (hs : ∀ s ∈ names, s.size ≤ 1000) (hc1 : names.length ≤ c1) (hC1 : Kd.C Kd.string w A1 names.length names) (hall : names.all nameB = false)
    (cW : Calls Try.prog 8 #[.slice none 0 0, .slice A1 names.length c1] w fun e w' => e = .returned (.bool true) ∧ Drawn0 w w') :
    Calls Try.prog 4 #[.slice A0 ps.length c0, .slice A1 names.length c1] w fun e w' => e = .returned (.bool true) ∧ Below w.heap.size w w' := by
  have d1 : ¬ (60 : Int) < (ps.length : Int) := by omega
  clear h
  have cN : ∀ W, Kd.C Kd.string W A1 names.length names → Calls Try.prog 13 #[.slice A1 names.length c1] W fun e w' => e = .returned (.tuple #[.pointer none, .int .i64 190]) ∧ Below W.heap.size W w' := fun W hC => (new_calls A1 c1 names W hl hs hc1 hC).mono fun e w' h => by
    obtain ⟨hb, ⟨h1, _⟩ | ⟨_, h2⟩⟩ := h
    · rw [hall] at h1; cases h1
    · exact ⟨h2, hb⟩
  have cF : ∀ W, Kd.C Kd.string W A1 names.length names → Calls Try.prog 9 #[.slice none 0 0, .slice A1 names.length c1] W fun e w' => e = .returned (.tuple #[.slice none 0 0, .int .i64 190]) ∧ Below W.heap.size W w' := fun W hC => find_no none A1 0 c1 [] names W hl hs hc1 hC hall
  have HN := Aside0.mk cN
  have HF := Aside0.mk cF
  have HC := Aside0.mk hC1
  clear hall hs hC1 cN cF
  go_enter Try.func4, Try.ntmps4
  go_wp2_with (first
    | (go_at_call 8; refine cW.mono ?_; rintro e w1 ⟨rfl, ⟨n1, rfl⟩⟩; clear cW; have cN := HN.out (w.drewN n1) (Kd.C_drewN HC.out n1))
    | (go_at_call 13; refine cN.mono ?_; rintro e w2 ⟨rfl, hb2⟩; have HB2 := Aside0.mk hb2; clear hb2 cN; have cF := HF.out w2 (Kd.C_below (Kd.C_drewN HC.out n1) HB2.out))
    | (go_at_call 9; refine cF.mono ?_; rintro e w3 ⟨rfl, hb3⟩; have HB3 := Aside0.mk hb3; clear hb3 cF; have cA := awake_calls w3)
    | (go_at_call 11; refine cA.mono ?_; rintro e w4 ⟨rfl, hb4⟩; have HB4 := Aside0.mk hb4; clear hb4 cA))
  go_ret
  refine ⟨rfl, ?_⟩
  have h2 : Below w.heap.size w w2 := (pw_below_drewN (Below.refl _ _) n1).trans HB2.out
  have h3 := h2.trans (HB3.out.mono h2.size)
  exact h3.trans (HB4.out.mono h3.size)
/-- The rounds. -/
structure PRel (w0 : World) (B top : Nat) (names : List ByteArray) (fl : List Int) (v : Value) (W : World) : Prop where
  below : Below w0.heap.size w0 W
  sc : ∃ rlo, Sc W B top rlo names (fl.drop (fl.length - 31)) (findB fl names)
  row : Kd.R (Kd.int .u8) 5 W top (fun _ => True) v fl
theorem PRel.drewN {w0 : World} {B top : Nat} {names : List ByteArray} {fl : List Int} {v : Value} {W : World} (h : PRel w0 B top names fl v W) (n : Nat) : PRel w0 B top names fl v (W.drewN n) := by
  obtain ⟨h1, ⟨rlo, h2⟩, h3⟩ := h
  exact ⟨pw_below_drewN h1 n, ⟨rlo, h2.below (pw_below_drewN (Below.refl _ _) n)⟩, Kd.R_drewN h3 n⟩
theorem own_empty (W : World) : Kd.R (Kd.int .u8) 5 (W.alloc (.cells #[] 5)) W.heap.size (fun _ => True) (.slice (some ⟨W.heap.size, 0, none⟩) ([] : List Int).length 0) [] :=
  Kd.R_of_own ⟨by simp [encs], .inr ⟨W.heap.size, 0, #[], rfl, Nat.le_refl _, heap_alloc_new W _, Nat.le_refl _, by simp [maxLen], by simp, by simp [encs]⟩⟩ (fun _ _ => trivial)
/-- While the row is written over. -/
def InRel (W4 : World) (base : Nat) (A2 : Option Addr) (n c2 : Nat) (wi : World) : Prop := ∃ xs : List Int, xs.length = n ∧ Kd.R (Kd.int .u8) 5 wi base (fun _ => True) (.slice A2 n c2) xs ∧ W4.grownBy wi (Value.slice A2 n c2).ownBlock
/-- Behind Write. -/
structure PWrote (w0 : World) (B top base : Nat) (names : List ByteArray) (fl p : List Int) (v u : Value) (rlo : Nat) (W : World) : Prop where
  below : Below w0.heap.size w0 W
  fs : ∃ fs, Sc W B top rlo names ((fl ++ p).drop ((fl ++ p).length - 31)) fs ∧ foundB fs = findB (fl ++ p) names ∧ fs.length ≤ 1000000
  row : Kd.R (Kd.int .u8) 5 W top (fun _ => True) v fl
  own : Kd.R (Kd.int .u8) 5 W base (fun _ => True) u p
  tle : top ≤ W.heap.size
  lo : ∀ g, v.ownBlock = some g → g < base
  hi : ∀ g, u.ownBlock = some g → g < rlo
  mid : base ≤ rlo
  tb : top ≤ base
  rle : rlo ≤ W.heap.size
theorem parts_write {w0 wo W2 : World} {B top : Nat} {names : List ByteArray} {fl p : List Int} {v : Value} {A2 : Option Addr} {c2 : Nat} (h : PRel w0 B top names fl v wo) (hb : Below wo.heap.size wo W2) (ho : Kd.R (Kd.int .u8) 5 W2 wo.heap.size (fun _ => True) (.slice A2 p.length c2) p) (hfl : fl.length ≤ 2000) (hpl : p.length ≤ 200) (hn : names.length ≤ 40) (hB0 : w0.heap.size ≤ B := by omega) :
    Calls Try.prog 14 #[.pointer (some ⟨B + 1, 0, none⟩), .slice A2 p.length c2] W2 fun e w' => e = .returned (.int .i64 0) ∧ PWrote w0 B top wo.heap.size names fl p v (.slice A2 p.length c2) W2.heap.size w' := by
  obtain ⟨hbel, ⟨rlo, hS⟩, hrow⟩ := h
  have hS2 := hS.below hb
  have hlen : (fl.drop (fl.length - 31)).length ≤ 31 := by rw [List.length_drop]; omega
  have h1 := hits_len names (fl.drop (fl.length - 31) ++ p) ((fl.drop (fl.length - 31)).length + p.length - 31)
  have h2 : ((fl.drop (fl.length - 31)).length + p.length - 31) * names.length ≤ 300 * 40 := Nat.mul_le_mul (by omega) hn
  have h3 := find_len fl names
  have h4 : fl.length * names.length ≤ 2000 * 40 := Nat.mul_le_mul hfl hn
  have hc := (Kd.R_reads' ho).2
  refine (write_calls B top rlo names _ _ A2 c2 p W2 hS2 hc.2 hc.1 (by omega) (by omega) (by omega)).mono fun e w' hh => ?_
  obtain ⟨he, hk, hs⟩ := hh
  rw [rest_next] at hs
  have hlt := hS.tab.lt
  have htop : top ≤ wo.heap.size := hS.le
  refine ⟨he, ?_, ⟨_, hs, parts_found names fl p, by rw [List.length_append]; omega⟩, ?_, ?_, ?_, fun g hg => Kd.R_lt hrow g hg, fun g hg => Kd.R_lt ho g hg, hb.size, htop, hk.size⟩
  · exact (hbel.trans (hb.mono hbel.size)).trans (hk.below hB0 (by omega))
  · exact keep5 (Kd.R_below hrow hb) hk hlt
  · exact keep5 ho hk (by omega)
  · exact Nat.le_trans htop (Nat.le_trans hb.size hk.size)
/-- Behind the bytes' append. -/
theorem parts_gather {w0 W3 W4 : World} {B top base rlo : Nat} {names : List ByteArray} {fl p : List Int} {v u v4 : Value} (h : PWrote w0 B top base names fl p v u rlo W3) (hrel : w0.heap.size ≤ top) (ho : Kd.R (Kd.int .u8) 5 W4 top (fun _ => True) v4 (fl ++ p)) (hg : W3.grownBy W4 v.ownBlock)
    (hat : v4.ownBlock = v.ownBlock ∨ ∃ b, v4.ownBlock = some b ∧ W3.heap.size ≤ b) :
    Below w0.heap.size w0 W4 ∧ (∃ fs, Sc W4 B top rlo names ((fl ++ p).drop ((fl ++ p).length - 31)) fs ∧ foundB fs = findB (fl ++ p) names ∧ fs.length ≤ 1000000) ∧ Kd.R (Kd.int .u8) 5 W4 top (fun _ => True) v4 (fl ++ p) ∧ Kd.R (Kd.int .u8) 5 W4 base (fun _ => True) u p ∧ (∀ g, u.ownBlock = some g → v4.ownBlock ≠ some g) := by
  obtain ⟨fs, hS, hf, hl⟩ := h.fs
  refine ⟨h.below.trans (grown_below hg h.below.size fun g hgg => Nat.le_trans hrel (Kd.R_base h.row g hgg)), ⟨fs, sc_grown hS h.row (Nat.le_refl _) (fun g hgg => Nat.lt_of_lt_of_le (h.lo g hgg) h.mid) hg, hf, hl⟩, ho, keepRow h.own hg fun g hgg he => ?_, fun g hgu he => ?_⟩
  · have := h.lo g hgg
    have := Kd.R_base h.own g he
    omega
  · have h1 := h.hi g hgu
    have h2 := Kd.R_base h.own g hgu
    rcases hat with h3 | ⟨b, h3, h4⟩
    · rw [he] at h3
      have := h.lo g h3.symm
      omega
    · rw [he] at h3
      injection h3 with h3
      have := h.rle
      omega
set_option maxHeartbeats 4000000 in
set_option maxRecDepth 100000 in
theorem parts_main (A0 A1 : Option Addr) (c0 c1 : Nat) (ps : List (List Int)) (names : List ByteArray) (w : World) (h : ps.length ≤ 60) (hl : names.length ≤ 40) (hs : ∀ s ∈ names, s.size ≤ 1000) (hc1 : names.length ≤ c1) (hC1 : Kd.C Kd.string w A1 names.length names) (hall : names.all nameB = true)
    (hC0 : Kd.C (Kd.slice 5 (Kd.int .u8)) w A0 ps.length ps)
    (cW : Calls Try.prog 8 #[.slice none 0 0, .slice A1 names.length c1] w fun e w' => e = .returned (.bool true) ∧ Drawn0 w w') :
    Calls Try.prog 4 #[.slice A0 ps.length c0, .slice A1 names.length c1] w fun e w' => e = .returned (.bool true) ∧ Below w.heap.size w w' := by
  have d1 : ¬ (60 : Int) < (ps.length : Int) := by omega
  have cN : ∀ W, Kd.C Kd.string W A1 names.length names → Calls Try.prog 13 #[.slice A1 names.length c1] W fun e w' => e = .returned (.tuple #[.pointer (some ⟨W.heap.size + 1, 0, none⟩), .int .i64 0]) ∧ Below W.heap.size W w' ∧ Scn w' W.heap.size names.length names (.slice none 0 0) (.slice none 0 0) := fun W hC => (new_calls A1 c1 names W (by omega) hs hc1 hC).mono fun e w' h => by
    obtain ⟨hb, ⟨_, h2, h3⟩ | ⟨h1, _⟩⟩ := h
    · exact ⟨h2, hb, h3⟩
    · rw [hall] at h1; cases h1
  have cF : ∀ (W : World) (A : Option Addr) (c : Nat) (b : List Int), Kd.C Kd.string W A1 names.length names → Kd.C (Kd.int .u8) W A b.length b → b.length ≤ c → b.length ≤ 3000 → Calls Try.prog 9 #[.slice A b.length c, .slice A1 names.length c1] W fun e w' => ∃ v, e = .returned (.tuple #[v, .int .i64 0]) ∧ Kd.R Kd.string 9 w' W.heap.size (fun _ => True) v (findB b names) ∧ Below W.heap.size W w' := fun W A c b hC hb hc hbl => by
    refine find_yes A A1 c c1 b names W (by omega) hs hc1 hC hb hc (by omega) ?_ hall
    have h1 := hits_len names b (b.length - 31)
    have h2 : (b.length - 31) * names.length ≤ 3000 * 40 := Nat.mul_le_mul (by omega) hl
    omega
  have HN := Aside0.mk cN
  have HF := Aside0.mk cF
  have HC := Aside0.mk hC1
  have HP := Aside0.mk hC0
  have HL := Aside0.mk h
  have HL2 := Aside0.mk hl
  clear hall hs hC1 cN cF hC0 h
  go_enter Try.func4, Try.ntmps4
  go_wp2_with (first
    | (go_at_call 8; refine cW.mono ?_; rintro e w1 ⟨rfl, ⟨n1, rfl⟩⟩; clear cW; have cN := HN.out (w.drewN n1) (Kd.C_drewN HC.out n1))
    | (go_at_call 13; refine cN.mono ?_; rintro e w2 ⟨rfl, hb2, hs2⟩; have HB2 := Aside0.mk (show Below w.heap.size w w2 from (pw_below_drewN (Below.refl _ _) n1).trans hb2); have HS2 := Aside0.mk (show Sc w2 w.heap.size w2.heap.size w2.heap.size names [] [] from hs2.sc (by omega) _); clear hb2 hs2 cN; have cF : Calls Try.prog 9 #[.slice none 0 0, .slice A1 names.length c1] w2 _ := HF.out w2 none 0 [] (Kd.C_below HC.out HB2.out) (Kd.C_nil _ _) (Nat.le_refl _) (by decide))
    | (go_at_call 9; refine cF.mono ?_; rintro e w3 ⟨v3, rfl, hr3, hb3⟩; have HB3 := Aside0.mk hb3; clear hb3 hr3 cF))
  have HT := Aside0.mk (show w2.heap.size ≤ w3.heap.size from HB3.out.size)
  have HT1 := Aside0.mk (show w.heap.size ≤ w2.heap.size from HB2.out.size)
  have HT0 := Aside0.mk (show w.heap.size + 1 < w2.heap.size from HS2.out.tab.lt)
  go_loopw [9, 10] (fun v i wr => ∃ k : Nat, i = .int .i64 k ∧ k ≤ ps.length ∧ (flat ps k).length ≤ 2000 + 200 ∧ PRel w w.heap.size w2.heap.size names (flat ps k) v wr)
    (fun _ i _ => ps.length - (intOf i).toNat)
  case atStart => exact ⟨0, rfl, Nat.zero_le _, by simp [flat], ⟨HB2.out.trans (HB3.out.mono HB2.out.size), ⟨w2.heap.size, by have := HS2.out.below HB3.out; simpa [flat, find_nil] using this⟩, by simpa [flat] using Kd.R_nil _ _ _ _ _⟩⟩
  case round =>
    obtain ⟨k, rfl, hk, hfl, hrel⟩ := hrel
    obtain ⟨wo, rfl⟩ : ∃ wo : World, wo = wr := ⟨_, rfl⟩
    have HR := Aside0.mk hrel
    clear hrel
    by_cases hlt : k < ps.length
    case neg =>
      obtain rfl : k = ps.length := by omega
      have hd : decide ((ps.length : Int) < (ps.length : Int)) = false := decide_eq_false (by omega)
      have cA := awake_calls wo
      clear hlt hk hfl
      go_wp2_with (go_at_call 11; refine cA.mono ?_; rintro e w4 ⟨rfl, hb4⟩; have HB4 := Aside0.mk hb4; clear hb4 cA)
      go_ret
      have h1 := HR.out.below
      exact ⟨rfl, h1.trans (HB4.out.mono h1.size)⟩
    case pos =>
      have hd : decide ((k : Int) < (ps.length : Int)) = true := decide_eq_true (by omega)
      have p0 : 0 ≤ (k : Int) := by omega
      have q0 : (k : Int) < (ps.length : Int) := by omega
      obtain ⟨ad, Ap, cp, eA, hx, hlp, hCp⟩ := at_rows HP.out k hlt
      subst eA
      have HNX := Aside0.mk (flat_next ps k hlt)
      obtain ⟨p, hp⟩ : ∃ p, ps[k] = p := ⟨_, rfl⟩
      rw [hp] at hx hlp hCp HNX
      have HX := Aside0.mk (fun (W : World) (hB : Below w.heap.size w W) => (hB.cell (World.block_lt_of_cell? w _ hx)).trans hx)
      have hx0 := HX.out wo HR.out.below
      have hx1 := HX.out (wo.alloc (.cells #[] 5)) (HR.out.below.alloc HR.out.below.size _)
      have HCP := Aside0.mk hCp
      have HLP := Aside0.mk hlp
      clear hp hx hCp
      obtain ⟨fl, hfle⟩ : ∃ fl, flat ps k = fl := ⟨_, rfl⟩
      rw [hfle] at HR HNX hfl
      clear hfle
      obtain ⟨Av, cv, ev⟩ := Kd.R_slice HR.out.row
      subst ev
      have HWI := Aside0.mk (show wrap64 ((k : Int) + 1) = ((k + 1 : Nat) : Int) by rw [w64 (by omega) (by omega)]; omega)
      have hk60 : k ≤ 60 := by omega
      by_cases h200 : p.length ≤ 200
      case neg =>
        have d2 : (200 : Int) < (p.length : Int) := by omega
        clear h200
        go_wp2
        go_ret
        exact ⟨rfl, HR.out.below⟩
      case pos =>
        have d2 : ¬ (200 : Int) < (p.length : Int) := by omega
        by_cases h2000 : fl.length ≤ 2000
        case neg =>
          have d3 : (2000 : Int) < (fl.length : Int) := by omega
          clear h2000
          go_wp2
          go_ret
          exact ⟨rfl, HR.out.below⟩
        case pos =>
          have d3 : ¬ (2000 : Int) < (fl.length : Int) := by omega
          have HFL := Aside0.mk (show fl.length ≤ 2000 from h2000)
          have HPL := Aside0.mk (show p.length ≤ 200 from h200)
          clear h200 h2000 hfl hk hlt
          go_wp2_with (first
            | ((with_reducible refine gate_builtin (b := .append) (xs := #[.tmp 66, .tmp 70]) rfl ?_); at_builtin; refine Kd.R_append_rows (Kd.int .u8) (w0 := wo) wo.heap.size rfl (.tmp 66) (.tmp 70) 22 5 (.int .u8 0) 1 rfl Try.underlying22 (by kernel_rfl) rfl (by decide) (by omega) (.slice (some ⟨wo.heap.size, 0, none⟩) ([] : List Int).length 0) ([] : List Int) p Ap p.length cp (fun _ => True) (fun _ => False) rfl rfl ?aO ?aR (fun _ _ h => h) (fun _ h => h.elim) ?aF ?aB ?aS ?aL ?_; (case aO => exact own_empty wo); (case aR => exact Kd.C_below HCP.out (HR.out.below.alloc HR.out.below.size _)); (case aF => exact fun _ _ => trivial); (case aB => exact below_alloc (Below.refl _ _) _); (case aS => simp); (case aL => have := HPL.out; simp; omega); intro v2 W2 ho2 hb2 hg2 hat2; clear hat2 hg2; rw [List.nil_append] at ho2; obtain ⟨A2, c2, e2⟩ := Kd.R_slice ho2; subst e2; have HO2 := Aside0.mk ho2; have HB2' := Aside0.mk hb2; clear ho2 hb2; have cX := parts_write HR.out HB2'.out HO2.out HFL.out HPL.out HL2.out (Nat.le_refl _))
            | (go_at_call 14; refine cX.mono ?_; rintro e W3 ⟨rfl, h3⟩; have H3 := Aside0.mk h3; clear h3 cX; have hx3 := HX.out W3 H3.out.below)
            | ((with_reducible refine gate_builtin (b := .append) (xs := #[.tmp 76, .tmp 80]) rfl ?_); at_builtin; refine Kd.R_append_rows (Kd.int .u8) (w0 := W3) w2.heap.size rfl (.tmp 76) (.tmp 80) 22 5 (.int .u8 0) 1 rfl Try.underlying22 (by kernel_rfl) rfl (by decide) (by omega) (.slice Av fl.length cv) fl p Ap p.length cp (fun _ => True) (fun _ => False) rfl rfl ?bO ?bR (fun _ _ h => h) (fun _ h => h.elim) ?bF ?bB ?bS ?bL ?_; (case bO => exact H3.out.row); (case bR => exact Kd.C_below HCP.out H3.out.below); (case bF => exact fun _ _ => trivial); (case bB => exact Below.refl _ _); (case bS => exact H3.out.tle); (case bL => have h1 := HPL.out; have h2 := HFL.out; omega); intro v4 W4 ho4 hb4 hg4 hat4; have H4 := Aside0.mk (parts_gather H3.out HT1.out ho4 hg4 hat4); clear ho4 hb4 hg4 hat4; clear hx3 hx0 hx1; obtain ⟨A4, c4, e4⟩ := Kd.R_slice H4.out.2.2.1; subst e4; obtain ⟨al, hal⟩ : ∃ al, fl ++ p = al := ⟨_, rfl⟩; rw [hal] at H4 HNX ⊢; have HAL := Aside0.mk hal; clear hal))
          have HLE := Aside0.mk (show w2.heap.size ≤ wo.heap.size from H3.out.tb)
          go_loopw [12] (fun i wi => ∃ (j : Nat), i = .int .i64 j ∧ j ≤ p.length ∧ InRel W4 wo.heap.size A2 p.length c2 wi) (fun i _ => p.length - (intOf i).toNat)
          case atStart => exact ⟨0, rfl, Nat.zero_le _, ⟨p, rfl, H4.out.2.2.2.1, World.grownBy.refl _ _⟩⟩
          case round =>
            obtain ⟨j, rfl, hj, xs, hxl, hxr, hxg⟩ := hrel
            by_cases hjl : j < p.length
            case pos =>
              obtain ⟨g, cap, e5, _⟩ := Kd.R_form hxr (by omega)
              injection e5 with e6 e7 e8
              subst e6
              clear e7 e8
              have HXR := Aside0.mk hxr
              have HXG := Aside0.mk hxg
              have HXL := Aside0.mk hxl
              obtain ⟨hcell, hfroz⟩ := Kd.R_celln (0 : Int) hxr (j : Int) (by omega) (by omega)
              rw [Int.toNat_natCast] at hcell hfroz
              have hd5 : decide ((j : Int) < (p.length : Int)) = true := decide_eq_true (by omega)
              have p5 : 0 ≤ (j : Int) := by omega
              have q5 : (j : Int) < (p.length : Int) := by omega
              have hpl := HPL.out
              clear hxr hxg hxl
              go_wp2
              go_roundw
              case rel =>
                have h7 := Kd.R_putg HXR.out (j : Int) (120 : Int)
                rw [Int.toNat_natCast] at h7
                exact ⟨j + 1, by first | go_num | simp, by omega, ⟨xs.set j 120, by rw [List.length_set]; exact HXL.out, h7.1, grown_trans HXG.out h7.2⟩⟩
              case measure => simp [intOf]; omega
            case neg =>
              obtain rfl : j = p.length := by omega
              have hd5 : decide ((p.length : Int) < (p.length : Int)) = false := decide_eq_false (by omega)
              obtain ⟨h41, ⟨fs, h42, hfs, hfl⟩, h43, h44, h45⟩ := H4.out
              have H51 := Aside0.mk (show Below w.heap.size w wr from h41.trans (grown_below hxg h41.size (fun g hg => Nat.le_trans (Nat.le_trans HT1.out HLE.out) (Kd.R_base h44 g hg))))
              have H52 := Aside0.mk (sc_grown h42 h44 HLE.out H3.out.hi hxg)
              have H53 := Aside0.mk (keepRow h43 hxg h45)
              have HFS := Aside0.mk hfs
              have HTX := Aside0.mk (same_texts (findB al names) (by have h1 := find_len al names; have h2 : al.length * names.length ≤ 2200 * 40 := Nat.mul_le_mul (by rw [← HAL.out, List.length_append]; have := HFL.out; have := HPL.out; omega) HL2.out; omega))
              have cY := found_calls _ _ _ _ _ _ wr H52.out hfl
              rw [HFS.out] at cY
              have HLN := Aside0.mk (show al.length ≤ 2200 by rw [← HAL.out, List.length_append]; have := HFL.out; have := HPL.out; omega)
              have HAC := Aside0.mk (show al.length ≤ c4 from (Kd.R_reads' h43).2.1)
              clear h41 h42 hfs hfl h43 h44 h45 hj hxl hxr hxg hjl
              go_wp2_with (first
                | (go_at_call 15; refine cY.mono ?_; rintro e W6 ⟨v13, rfl, hk6, hs6, hr6⟩; obtain ⟨A13, c13, e13⟩ := Kd.R_slice hr6; subst e13; have HK6 := Aside0.mk hk6; have HS6 := Aside0.mk hs6; have HR6 := Aside0.mk hr6; clear hk6 hs6 hr6 cY; have H61 := Aside0.mk (show Below w.heap.size w W6 from H51.out.trans (HK6.out.below (Nat.le_refl _) HT1.out)); have H63 := Aside0.mk (keep5 H53.out HK6.out HT0.out); have cZ := HF.out W6 A4 c4 al (Kd.C_below HC.out H61.out) (Kd.R_reads' H63.out).2.2 HAC.out (Nat.le_trans HLN.out (by decide)))
                | (go_at_call 9; refine cZ.mono ?_; rintro e W7 ⟨v15, rfl, hr7, hb7⟩; obtain ⟨A15, c15, e15⟩ := Kd.R_slice hr7; subst e15; have HR7 := Aside0.mk hr7; have HB7 := Aside0.mk hb7; clear hr7 hb7 cZ; obtain ⟨kt, hkt⟩ := HTX.out.rounds; have cT := chandleryref01_Texts.calls kt A13 c13 (findB al names) A15 c15 (findB al names) true W7 (Kd.C_below (Kd.R_reads' HR6.out).2.2 HB7.out) (Kd.R_reads' HR6.out).2.1 (Kd.R_reads' HR7.out).2.2 (Kd.R_reads' HR7.out).2.1 hkt; clear hkt)
                | (go_at_call 12; refine cT.mono ?_; rintro e W8 ⟨rfl, ⟨n8, rfl⟩⟩; clear cT))
              go_roundw
              case rel =>
                refine ⟨k + 1, by first | go_num | (rw [HWI.out]) | simp, by omega, by rw [HNX.out]; exact HLN.out, ?_⟩
                rw [HNX.out]
                refine PRel.drewN ⟨H61.out.trans (HB7.out.mono H61.out.size), ⟨_, HS6.out.below HB7.out⟩, Kd.R_below H63.out HB7.out⟩ n8
              case measure => simp [intOf]; omega
theorem parts_walk (A0 : Option Addr) (c0 : Nat) (ps : List (List Int)) (A1 : Option Addr) (c1 : Nat) (names : List ByteArray) (w : World) (hC0 : Kd.C (Kd.slice 5 (Kd.int .u8)) w A0 ps.length ps) (hc0 : ps.length ≤ c0) (hC1 : Kd.C Kd.string w A1 names.length names) (hc1 : names.length ≤ c1) (_ : True) :
    Calls Try.prog 4 #[.slice A0 ps.length c0, .slice A1 names.length c1] w fun e w' => e = .returned (.bool true) ∧ Below w.heap.size w w' := by
  by_cases h : ps.length ≤ 60
  case neg => exact parts_long A0 c0 ps _ w (by omega) hC0.2.1
  obtain ⟨r, hr, hw⟩ := few_calls A1 c1 names w hC1 hc1
  cases r
  · exact parts_many A0 A1 c0 c1 ps names w h hw
  obtain ⟨hl, hs⟩ := hr rfl
  have hs' : ∀ s ∈ names, s.size ≤ 1000 := fun s h => by have := hs s h; omega
  cases hall : names.all nameB
  · exact parts_none A0 A1 c0 c1 ps names w h (by omega) hs' hc1 hC1 hall hw
  · exact parts_main A0 A1 c0 c1 ps names w h hl hs' hc1 hC1 hall hC0 hw
end Go.Proofs.YtkmnjekbacdfoaaX
