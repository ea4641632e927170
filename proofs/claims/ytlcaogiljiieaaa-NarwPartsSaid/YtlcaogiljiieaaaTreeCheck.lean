import Derived.Test.YtlcaogiljiieaaaPathD
import Derived.Test.YtlcaogiljiieaaaWLast
import Derived.Test.YtlcaogiljiieaaaWMore
import Derived.Lib.LastIndexByte
import Derived.Test.YtlcaogiljiieaaaProg
import Derived.WalkKit
import Derived.Laws.Strings
import Derived.Maps.Own
import Derived.Maps.Keyed
import Derived.Maps.Views
import Derived.StringKeys
import Derived.StillTailTactics
import Derived.Deep.QuietTactic
import Derived.BigQuiet
set_option linter.unusedVariables false
set_option linter.unusedSimpArgs false
/- tree.above: the walk. -/
namespace Go.Proofs.YtlcaogiljiieaaaX
open Go.RowKit Go.Proofs.YtlcaogiljiieaaaW.PrintWords Go.Proofs.YtlcaogiljiieaaaW.PrintLast Go.Proofs.YtlcaogiljiieaaaW.PrintMore
theorem lastIdx_le (s : ByteArray) (c : Int) : ∀ n, n ≤ s.size → -1 ≤ Lib.lastIdx s c n ∧ Lib.lastIdx s c n < n
  | 0, _ => by simp [Lib.lastIdx]
  | n + 1, h => by
    have ih := lastIdx_le s c n (by omega)
    unfold Lib.lastIdx
    split <;> omega
/-- The place of the last slash, or -1. -/
def lastB (s : ByteArray) : Int := Lib.lastIndexByte s 47
theorem lastB_le (s : ByteArray) : -1 ≤ lastB s ∧ lastB s < s.size := lastIdx_le s 47 s.size (Nat.le_refl _)
theorem last_calls (s : ByteArray) (hs : s.size ≤ 1000000) (w : World) : Calls Try.prog 65 #[.string s, .string ⟨#[47]⟩] w fun e w' => e = .returned (.int .i64 (lastB s)) ∧ w' = w :=
  Try.strings_LastIndex_one s ⟨#[47]⟩ rfl (by omega) w
/-- A path's directory. -/
def aboveB (s : ByteArray) : ByteArray := s.extract 0 (max (lastB s) 0).toNat
attribute [local go_sem] max2_int min2_int max_two min_two
set_option maxHeartbeats 1000000 in
set_option maxRecDepth 100000 in
theorem above_calls (s : ByteArray) (hs : s.size ≤ 1000000) (w : World) : Calls Try.prog 54 #[.string s] w fun e w' => e = .returned (.string (aboveB s)) ∧ w' = w := by
  obtain ⟨h1, h2⟩ := lastB_le s
  unfold aboveB
  generalize hi : lastB s = i at *
  by_cases h5 : 0 ≤ i
  · have hm : max i 0 = i := by omega
    have hle : i ≤ (s.size : Int) := by omega
    rw [hm]
    clear hm
    go_enter Try.func54, Try.ntmps54
    go_wp2_with (go_at_call 65; refine (last_calls _ hs _).mono ?_; rintro e w' ⟨rfl, rfl⟩; rw [hi])
    all_goals (go_ret; refine ⟨?_, rfl⟩)
    all_goals first
      | rfl
      | (have h0 : i = 0 := by omega
         subst h0
         have e0 : s.extract 0 (0 : Int).toNat = ByteArray.empty := by ext1; simp
         rw [e0]; rfl)
  · have hm : i = -1 := by omega
    subst hm
    go_enter Try.func54, Try.ntmps54
    go_wp2_with (go_at_call 65; refine (last_calls _ hs _).mono ?_; rintro e w' ⟨rfl, rfl⟩; rw [hi])
    go_ret
    have e0 : s.extract 0 (max (-1 : Int) 0).toNat = ByteArray.empty := by ext1; simp; exact .inl (by omega)
    exact ⟨by rw [e0]; rfl, rfl⟩
end Go.Proofs.YtlcaogiljiieaaaX
/- chandleryref16.below: the walk. -/
namespace Go.Proofs.YtlcaogiljiieaaaX
open Go.RowKit Go.Proofs.YtlcaogiljiieaaaW.PrintWords Go.Proofs.YtlcaogiljiieaaaW.PrintLast Go.Proofs.YtlcaogiljiieaaaW.PrintMore
/-- A path's rest behind a directory's, and does it lie below it? -/
def belowB (p d : ByteArray) : ByteArray × Bool :=
  if d.toList = [] then (p, !p.toList.isEmpty) else
  if h : d.size < p.size then (if (p.extract 0 d.size).toList = d.toList ∧ p[d.size] = 47 then (p.extract (d.size + 1) p.size, true) else (⟨#[]⟩, false)) else (⟨#[]⟩, false)
set_option maxHeartbeats 1000000 in
set_option maxRecDepth 100000 in
theorem rbelow_calls (p d : ByteArray) (hp : p.size ≤ 1000000) (hd : d.size ≤ 1000000) (w : World) : Calls Try.prog 42 #[.string p, .string d] w fun e w' => e = .returned (.tuple #[.string (belowB p d).1, .bool (belowB p d).2]) ∧ w' = w := by
  unfold belowB
  by_cases h1 : d.toList = []
  · have hb : (d.toList == []) = true := beq_iff_eq.2 h1
    rw [if_pos h1]
    clear h1
    go_enter Try.func42, Try.ntmps42
    go_wp2
    go_ret2
    exact ⟨rfl, rfl⟩
  · have hb : (d.toList == []) = false := beq_eq_false_iff_ne.2 h1
    rw [if_neg h1]
    clear h1
    by_cases h2 : d.size < p.size
    · rw [dif_pos h2]
      have hz : (d.size : Int) < (p.size : Int) := by omega
      have hz2 : (d.size : Int) ≤ (p.size : Int) := by omega
      have hz3 : (0 : Int) ≤ (d.size : Int) := by omega
      have hw : wrap64 ((d.size : Int) + 1) = ((d.size + 1 : Nat) : Int) := by unfold wrap64; omega
      have hz4 : ((d.size + 1 : Nat) : Int) ≤ (p.size : Int) := by omega
      by_cases h3 : (p.extract 0 d.size).toList = d.toList
      · have hb3 : ((p.extract 0 d.size).toList == d.toList) = true := beq_iff_eq.2 h3
        by_cases h4 : p[d.size] = 47
        · have h4i : ((p[d.size].toNat : Int) == 47) = true := by rw [h4]; rfl
          rw [if_pos ⟨h3, h4⟩]
          clear h3 h4
          go_enter Try.func42, Try.ntmps42
          go_wp2
          go_ret2
          exact ⟨rfl, rfl⟩
        · have h4i : ((p[d.size].toNat : Int) == 47) = false := beq_eq_false_iff_ne.2 (fun e => h4 (UInt8.toNat_inj.1 (by have h9 : ((p[d.size]).toNat : Int) = 47 := e; show (p[d.size]).toNat = 47; omega)))
          rw [if_neg (fun h => h4 h.2)]
          clear h3 h4
          go_enter Try.func42, Try.ntmps42
          go_wp2
          go_ret2
          exact ⟨rfl, rfl⟩
      · have hb3 : ((p.extract 0 d.size).toList == d.toList) = false := beq_eq_false_iff_ne.2 h3
        rw [if_neg (fun h => h3 h.1)]
        clear h3
        go_enter Try.func42, Try.ntmps42
        go_wp2
        go_ret2
        exact ⟨rfl, rfl⟩
    · rw [dif_neg h2]
      have hz : ¬ (d.size : Int) < (p.size : Int) := by omega
      have hz2 : (p.size : Int) ≤ (d.size : Int) := by omega
      have hz5 : decide ((d.size : Int) < (p.size : Int)) = false := decide_eq_false hz
      go_enter Try.func42, Try.ntmps42
      go_wp2
      go_ret2
      exact ⟨rfl, rfl⟩
end Go.Proofs.YtlcaogiljiieaaaX
/- Texts held against each other by >=, <= and >. -/
namespace Go.Proofs.YtlcaogiljiieaaaX
theorem less_tri : ∀ a b : List UInt8, Op.bytesLess b a = !(Op.bytesLess a b || a == b)
  | [], [] => rfl
  | [], _ :: _ => rfl
  | _ :: _, [] => rfl
  | x :: a, y :: b => by
    have ih := less_tri a b
    have e1 : Op.bytesLess (y :: b) (x :: a) = (decide (y < x) || (y == x && Op.bytesLess b a)) := rfl
    have e2 : Op.bytesLess (x :: a) (y :: b) = (decide (x < y) || (x == y && Op.bytesLess a b)) := rfl
    rw [e1, e2, ih, Bool.eq_iff_iff]
    by_cases hlt : x < y
    · have h1 : ¬ y < x := by rw [UInt8.lt_iff_toNat_lt] at *; omega
      have h2 : ¬ y = x := by rintro rfl; exact absurd hlt h1
      simp [hlt, h1, h2]
    · by_cases hgt : y < x
      · have h2 : ¬ x = y := by rintro rfl; exact absurd hgt hlt
        simp [hlt, hgt, h2]
      · have e : x = y := UInt8.toNat_inj.1 (by rw [UInt8.lt_iff_toNat_lt] at hlt hgt; omega)
        subst e
        simp [hlt]
theorem str_geq (a b : ByteArray) (w : World) : (binOp .geq 9 (.string a) (.string b)).run Try.prog w = .ok (.bool (!Op.bytesLess a.toList b.toList)) w := by
  simp [binOp, Op.stringOp]
theorem str_leq (a b : ByteArray) (w : World) : (binOp .leq 9 (.string a) (.string b)).run Try.prog w = .ok (.bool (!Op.bytesLess b.toList a.toList)) w := by
  rw [less_tri a.toList b.toList]
  simp [binOp, Op.stringOp]
theorem str_gtr (a b : ByteArray) (w : World) : (binOp .gtr 9 (.string a) (.string b)).run Try.prog w = .ok (.bool (Op.bytesLess b.toList a.toList)) w := by
  rw [less_tri a.toList b.toList]
  simp [binOp, Op.stringOp]
end Go.Proofs.YtlcaogiljiieaaaX
/- tree.Check: the walk, over what may and compare answer. -/
namespace Go.Proofs.YtlcaogiljiieaaaX
open Go.RowKit Go.Maps Go.Proofs.YtlcaogiljiieaaaW.PrintWords Go.Proofs.YtlcaogiljiieaaaW.PrintLast Go.Proofs.YtlcaogiljiieaaaW.PrintMore
/-- An entry. -/
structure EntB where
  path : ByteArray
  kind : Int
  exec : Bool
  data : ByteArray
abbrev entV (e : EntB) : Value := .agg #[.string e.path, .int .i64 e.kind, .bool e.exec, .string e.data]
def MayIs (e : EntB) (b : Bool) : Prop := ∀ W, Calls Try.prog 48 #[entV e] W fun x w' => x = .returned (.bool b) ∧ Below W.heap.size W w'
def CmpIs (a b : EntB) (c : Int) : Prop := ∀ W, Calls Try.prog 55 #[entV a, entV b] W fun x w' => x = .returned (.int .i64 c) ∧ Below W.heap.size W w'
/-- What Check answers behind some entries: the last of them, the directories among them, what is still to come. -/
def CheckRun : Option EntB → List ByteArray → List EntB → Int → Prop
  | _, _, [], r => r = 0
  | prev, seen, e :: l, r => e.path.size ≤ 1000000 ∧ ∃ b, MayIs e b ∧ (b = false → r = 1) ∧ (b = true → ∃ ok : Bool, (match prev with
      | none => ok = true
      | some d => (aboveB e.path ∉ seen → ok = false) ∧ (aboveB e.path ∈ seen → ∃ c, CmpIs d e c ∧ ok = decide (c < 0))) ∧
    (ok = false → r = 1) ∧ (ok = true → CheckRun (some e) (if e.kind = 2 then e.path :: seen else seen) l r))
/-- A row of entries, as it lies. -/
def EntsAt (w : World) (A : Option Addr) (l : List EntB) : Prop := ∀ (i : Nat) (h : i < l.length), ∃ ad, A = some ad ∧ w.cell? (ad.add (i * 4)) = some (.string l[i].path) ∧ w.cell? (ad.add (i * 4 + 1)) = some (.int .i64 l[i].kind) ∧ w.cell? (ad.add (i * 4 + 2)) = some (.bool l[i].exec) ∧ w.cell? (ad.add (i * 4 + 3)) = some (.string l[i].data)
theorem law9 : Keyed Try.prog 9 := string_keyed Try.underlying9
/-- How often the map has counted each path. -/
def Counts (D : DataW Nat) (seen : List ByteArray) : Prop := ∀ p : ByteArray, D.atKey (.string p.data.toList) (.lit (.int .i64 0)) = .lit (.int .i64 (seen.countP (fun q => q.data.toList == p.data.toList) : Nat))
theorem counts_nil : Counts (.map []) [] := fun p => by simp [DataW.atKey]
theorem isKey_str (l : List UInt8) : WideAt.IsKeyLit (.string l) := by trivial
theorem counts_put {D : DataW Nat} {seen : List ByteArray} (h : Counts D seen) (hm : IsMap D) (q : ByteArray) (c : Int) (hc : D.atKey (.string q.data.toList) (.lit (.int .i64 0)) = .lit (.int .i64 c)) :
    Counts (D.put (.string q.data.toList) (.lit (.int .i64 (c + 1)))) (q :: seen) := by
  intro p
  rw [List.countP_cons]
  by_cases he : q.data.toList = p.data.toList
  · rw [← he, atKey_put_same hm (isKey_str _), if_pos (by simp)]
    have := h q
    rw [hc] at this
    injection this with this
    injection this with _ this
    rw [this]
    simp
  · rw [atKey_put_other (by intro e; injection e with e; exact he e.symm), h p, if_neg (by simpa using he)]
    rfl
theorem mem_count {seen : List ByteArray} {p : ByteArray} : p ∈ seen ↔ seen.countP (fun q => q.data.toList == p.data.toList) ≠ 0 := by
  rw [← Nat.pos_iff_ne_zero, List.countP_pos_iff]
  constructor
  · intro h
    exact ⟨p, h, by simp⟩
  · rintro ⟨q, hq, he⟩
    have e : q = p := by
      cases q; cases p
      simp only [beq_iff_eq] at he
      rw [Array.toList_inj.1 he]
    rwa [← e]
set_option maxHeartbeats 1000000 in
set_option maxRecDepth 100000 in
theorem check_long (A : Option Addr) (c : Nat) (l : List EntB) (w : World) (hl : 256 < l.length) :
    Calls Try.prog 30 #[.slice A l.length c] w fun e w' => e = .returned (.int .i64 2) ∧ Below w.heap.size w w' := by
  have h1 : (256 : Int) < (l.length : Int) := by omega
  generalize l.length = n at *
  go_enter Try.func30, Try.ntmps30
  go_wp2
  go_ret
  exact ⟨rfl, Below.refl _ _⟩
set_option maxHeartbeats 1000000 in
set_option maxRecDepth 100000 in
theorem check_nil (A : Option Addr) (c : Nat) (w : World) :
    Calls Try.prog 30 #[.slice A 0 c] w fun e w' => e = .returned (.int .i64 1) ∧ Below w.heap.size w w' := by
  go_enter Try.func30, Try.ntmps30
  go_wp2
  go_ret
  exact ⟨rfl, Below.refl _ _⟩
set_option maxHeartbeats 1000000 in
set_option maxRecDepth 100000 in
theorem check_root (A : Option Addr) (c : Nat) (l : List EntB) (w : World) (hl : l.length ≤ 256) (hc : l.length ≤ c) (hE : EntsAt w A l) (h0 : 0 < l.length) (hp : l[0].path.toList ≠ []) :
    Calls Try.prog 30 #[.slice A l.length c] w fun e w' => e = .returned (.int .i64 1) ∧ Below w.heap.size w w' := by
  obtain ⟨ad, rfl, q0, -⟩ := hE 0 h0
  clear hE
  generalize l[0].path = p at *
  have hb : p.toList.isEmpty = false := by cases hx : p.toList with | nil => exact absurd hx hp | cons a b => rfl
  clear hp
  have hz : ((l.length : Int) == 0) = false := beq_eq_false_iff_ne.2 (by omega)
  have h1 : (l.length : Int) ≤ 256 := by omega
  have h2 : (0 : Int) < (l.length : Int) := by omega
  simp only [Nat.zero_mul] at q0
  replace q0 : w.cell? ad = some (.string p) := q0
  generalize l.length = n at *
  go_enter Try.func30, Try.ntmps30
  go_wp2
  go_ret
  exact ⟨rfl, Below.refl _ _⟩
theorem addr_next (ad : Addr) (n j : Nat) (hj : j ≠ 0) : ({ block := (ad.add n).block, off := (ad.add n).off + j } : Addr) = ad.add (n + j) := by
  unfold Addr.add
  by_cases h0 : n = 0
  · simp [h0, hj]
  · simp [h0]
    omega
theorem cell_lt {w : World} {p : Addr} {v : Value} (h : w.cell? p = some v) : p.block < w.heap.size := by
  unfold World.cell? at h
  cases hb : w.heap[p.block]? with
  | none => rw [hb] at h; simp at h
  | some o => exact (Array.getElem?_eq_some_iff.1 hb).1
theorem own_below {P : Program} {k : TypeId} {R : Value → Option (DataW Nat × List MemPlace)} {w w' : World} {b n : Nat} {D : DataW Nat} (h : w.ownsMap P k R b n D) (hb : Below w.heap.size w w') : w'.ownsMap P k R b n D :=
  h.kept (row := none) ⟨hb.os, hb.tape, hb.output, hb.size, fun k hk _ => hb.block k hk⟩ (by simp)
theorem zero3 (w : World) : (zeroValue 3).run Try.prog w = .ok (.int .i64 0) w := by kernel_rfl
theorem above_le (s : ByteArray) : (aboveB s).size ≤ s.size := by
  unfold aboveB
  rw [ByteArray.size_extract]
  omega
theorem stored4 {W : World} {p t : Nat} {z0 z1 z2 z3 : Value} (h : W.heap[p]? = some (.cells #[z0, z1, z2, z3] t (0, 0))) (v0 v1 v2 v3 : Value) :
    ((((W.setCell ⟨p, 0, none⟩ v0).setCell ⟨p, 1, none⟩ v1).setCell ⟨p, 2, none⟩ v2).setCell ⟨p, 3, none⟩ v3).heap[p]? = some (.cells #[v0, v1, v2, v3] t (0, 0)) := blk_set (blk_set (blk_set (blk_set h 0 v0) 1 v1) 2 v2) 3 v3
theorem below4 {n : Nat} {w W : World} {p : Nat} (h : Below n w W) (hp : n ≤ p) (v0 v1 v2 v3 : Value) :
    Below n w ((((W.setCell ⟨p, 0, none⟩ v0).setCell ⟨p, 1, none⟩ v1).setCell ⟨p, 2, none⟩ v2).setCell ⟨p, 3, none⟩ v3) :=
  (((h.setCell (p := ⟨p, 0, none⟩) hp v0).setCell (p := ⟨p, 1, none⟩) hp v1).setCell (p := ⟨p, 2, none⟩) hp v2).setCell (p := ⟨p, 3, none⟩) hp v3
set_option maxHeartbeats 4000000 in
set_option maxRecDepth 100000 in
theorem check_run (A : Option Addr) (c : Nat) (l : List EntB) (w : World) (hl : l.length ≤ 256) (hc : l.length ≤ c) (hE : EntsAt w A l) (h0 : 0 < l.length) (hp : l[0].path.toList = []) (r : Int) (hr : CheckRun none [] l r) :
    Calls Try.prog 30 #[.slice A l.length c] w fun e w' => e = .returned (.int .i64 r) ∧ Below w.heap.size w w' := by
  obtain ⟨ad, rfl, q0, -⟩ := hE 0 h0
  have HE := Aside0.mk hE
  have HR := Aside0.mk hr
  clear hE hr
  have hb : l[0].path.toList.isEmpty = true := by rw [hp]; rfl
  generalize l[0].path = pa at *
  clear hp
  have hz : ((l.length : Int) == 0) = false := beq_eq_false_iff_ne.2 (by omega)
  have h1 : (l.length : Int) ≤ 256 := by omega
  have h2 : (0 : Int) < (l.length : Int) := by omega
  simp only [Nat.zero_mul] at q0
  replace q0 : w.cell? ad = some (.string pa) := q0
  have hmm := @run_makeMap Try.prog
  have m0 := Aside0.mk (World.ownsMap_made w Try.prog 9 (plainElem (H := Nat) Try.prog 3))
  go_enter Try.func30, Try.ntmps30
  go_wp2
  go_loopw [24] (fun i wr => ∃ k : Nat, i = .int .i64 k ∧ k ≤ l.length ∧ Below w.heap.size w wr ∧ ∃ (D : DataW Nat) (seen : List ByteArray), wr.ownsMap Try.prog 9 (plainElem Try.prog 3) w.heap.size k D ∧ Counts D seen ∧ IsMap D ∧ seen.length ≤ k ∧ CheckRun (if k = 0 then none else l[k - 1]?) seen (l.drop k) r)
    (fun i wr => l.length - (intOf i).toNat)
  case atStart => exact ⟨0, rfl, Nat.zero_le _, (Below.refl _ _).alloc (Nat.le_refl _) _, .map [], [], m0.out, counts_nil, isMap_empty, Nat.le_refl _, HR.out⟩
  case round =>
    obtain ⟨k, rfl, hk, hB, D, seen, hown, hcnt, him, hsl, hrun⟩ := hrel
    have HB := Aside0.mk hB
    have HO := Aside0.mk hown
    have HC := Aside0.mk hcnt
    have HM := Aside0.mk him
    have HRUN := Aside0.mk hrun
    clear hB hown hcnt him hrun
    by_cases hlt : k < l.length
    · have hd : decide ((k : Int) < (l.length : Int)) = true := decide_eq_true (by omega)
      obtain ⟨ad', hA, q0, q1, q2, q3⟩ := HE.out k hlt
      injection hA with hA
      subst hA
      have hdr : l.drop k = l[k] :: l.drop (k + 1) := List.drop_eq_getElem_cons hlt
      have hrun := HRUN.out
      rw [hdr] at hrun
      obtain ⟨hsz, b, hmay, hbf, hbt⟩ := hrun
      obtain ⟨e, he⟩ : ∃ e, l[k] = e := ⟨_, rfl⟩
      rw [he] at q0 q1 q2 q3 hsz hmay hbt
      have r0 := (HB.out.cell (cell_lt q0)).trans q0
      have r1 := ((congrArg wr.cell? (addr_next ad (k * 4) 1 (by decide))).trans (HB.out.cell (cell_lt q1))).trans q1
      have r2 := ((congrArg wr.cell? (addr_next ad (k * 4) 2 (by decide))).trans (HB.out.cell (cell_lt q2))).trans q2
      have r3 := ((congrArg wr.cell? (addr_next ad (k * 4) 3 (by decide))).trans (HB.out.cell (cell_lt q3))).trans q3
      have HMAY := Aside0.mk hmay
      have HBT := Aside0.mk hbt
      have HEK := Aside0.mk he
      have HDR := Aside0.mk hdr
      clear q0 q1 q2 q3 hmay hbt he hdr
      have hwi : wrap64 ((k : Int) + 1) = ((k + 1 : Nat) : Int) := by unfold wrap64; omega
      have HWI := Aside0.mk hwi
      clear hwi
      obtain ⟨ep, ek, ex, ed⟩ := e
      dsimp only at r0 r1 r2 r3 hsz
      cases b
      · have hre : r = 1 := hbf rfl
        subst hre
        clear hbf
        go_wp2_with (first
          | ((with_reducible refine gate_dst (N := 5) rfl ?_); refine box_event ?hg (N := 5) ?hd (cs := #[.string ⟨#[]⟩, .int .i64 0, .bool false, .string ⟨#[]⟩]) (t := 27) ?hr ?_; (case hd => rfl); (case hg => rfl); (case hr => first | (go_simp; done) | (go_simp; rfl)); intro p hp0 Wp hpx hpb; have HPB := Aside0.mk hpb; have HPX := Aside0.mk hpx; have PW := Aside0.mk (show wr.heap.size ≤ p by rw [hp0]; exact Nat.le_refl _); have f0 := blk_frozen hpx 0; have f1 := blk_frozen hpx 1; have f2 := blk_frozen hpx 2; have f3 := blk_frozen hpx 3; have t0 : Wp.cell? ⟨p, 0, none⟩ = some (.string ⟨#[]⟩) := (blk_cell hpx 0).trans rfl; have t1 : Wp.cell? ⟨p, 1, none⟩ = some (.int .i64 0) := (blk_cell hpx 1).trans rfl; have t2 : Wp.cell? ⟨p, 2, none⟩ = some (.bool false) := (blk_cell hpx 2).trans rfl; have t3 : Wp.cell? ⟨p, 3, none⟩ = some (.string ⟨#[]⟩) := (blk_cell hpx 3).trans rfl; clear hpx hpb hp0)
          | (go_at_call 48; refine (HMAY.out _).mono ?_; rintro x W1 ⟨rfl, h1⟩; have BX := Aside0.mk (blk_below (stored4 HPX.out (.string ep) (.int .i64 ek) (.bool ex) (.string ed)) h1); have BR := Aside0.mk (below_step (below4 HPB.out PW.out (.string ep) (.int .i64 ek) (.bool ex) (.string ed)) h1); clear h1 t0 t1 t2 t3 f0 f1 f2 f3))
        go_ret
        exact ⟨rfl, below_step HB.out BR.out⟩
      · clear hbf
        go_wp2_with (first
          | ((with_reducible refine gate_dst (N := 5) rfl ?_); refine box_event ?hg (N := 5) ?hd (cs := #[.string ⟨#[]⟩, .int .i64 0, .bool false, .string ⟨#[]⟩]) (t := 27) ?hr ?_; (case hd => rfl); (case hg => rfl); (case hr => first | (go_simp; done) | (go_simp; rfl)); intro p hp0 Wp hpx hpb; have HPB := Aside0.mk hpb; have HPX := Aside0.mk hpx; have PW := Aside0.mk (show wr.heap.size ≤ p by rw [hp0]; exact Nat.le_refl _); have f0 := blk_frozen hpx 0; have f1 := blk_frozen hpx 1; have f2 := blk_frozen hpx 2; have f3 := blk_frozen hpx 3; have t0 : Wp.cell? ⟨p, 0, none⟩ = some (.string ⟨#[]⟩) := (blk_cell hpx 0).trans rfl; have t1 : Wp.cell? ⟨p, 1, none⟩ = some (.int .i64 0) := (blk_cell hpx 1).trans rfl; have t2 : Wp.cell? ⟨p, 2, none⟩ = some (.bool false) := (blk_cell hpx 2).trans rfl; have t3 : Wp.cell? ⟨p, 3, none⟩ = some (.string ⟨#[]⟩) := (blk_cell hpx 3).trans rfl; clear hpx hpb hp0)
          | (go_at_call 48; refine (HMAY.out _).mono ?_; rintro x W1 ⟨rfl, h1⟩; have BX := Aside0.mk (blk_below (stored4 HPX.out (.string ep) (.int .i64 ek) (.bool ex) (.string ed)) h1); have BR := Aside0.mk (below_step (below4 HPB.out PW.out (.string ep) (.int .i64 ek) (.bool ex) (.string ed)) h1); clear h1 t0 t1 t2 t3 f0 f1 f2 f3))
        have x0 : W1.cell? ⟨p, 0, none⟩ = some (.string ep) := (blk_cell BX.out 0).trans rfl
        have x1 : W1.cell? ⟨p, 1, none⟩ = some (.int .i64 ek) := (blk_cell BX.out 1).trans rfl
        have x2 : W1.cell? ⟨p, 2, none⟩ = some (.bool ex) := (blk_cell BX.out 2).trans rfl
        have x3 : W1.cell? ⟨p, 3, none⟩ = some (.string ed) := (blk_cell BX.out 3).trans rfl
        have HO1 := Aside0.mk (own_below HO.out BR.out)
        have HB1 := Aside0.mk (below_step HB.out BR.out)
        clear r0 r1 r2 r3 HO HB
        obtain ⟨ok, hok, hok0, hok1⟩ := HBT.out (by simp)
        by_cases hk0 : k = 0
        · have hoke : ok = true := by rw [if_pos hk0] at hok; exact hok
          subst hoke
          have hnx := hok1 rfl
          subst hk0
          clear hok hok0 hok1
          go_wp2
          go_quiet (fail)
          have HB2 := Aside0.mk (show Below w.heap.size w (W1.drewN nq) from HB1.out.trans ⟨rfl, rfl, rfl, Nat.le_refl _, fun _ _ => rfl⟩)
          have HO2 := Aside0.mk (show (W1.drewN nq).ownsMap Try.prog 9 (plainElem Try.prog 3) w.heap.size 0 D from HO1.out)
          have BX2 := Aside0.mk (show (W1.drewN nq).heap[p]? = some (.cells #[.string ep, .int .i64 ek, .bool ex, .string ed] 27 (0, 0)) from BX.out)
          clear x0 x1 x2 x3
          generalize W1.drewN nq = W2 at HB2 HO2 BX2 ⊢
          have HKN := Aside0.mk (show CheckRun (if 0 + 1 = 0 then none else l[0 + 1 - 1]?) (if ek = 2 then ep :: seen else seen) (l.drop (0 + 1)) r by rw [if_neg (by omega), Nat.add_sub_cancel, List.getElem?_eq_getElem hlt, HEK.out]; exact hnx)
          clear hnx
          have hcnt := HC.out ep
          obtain ⟨cnt, hlk, hat, hwc⟩ := HO2.out.lookup_int law9 Try.underlying72 Try.underlying3 (zero3 W2) (WideMaps.keyOf_string_mk Try.underlying9 (show ep.size ≤ maxLen by unfold maxLen; omega))
          have hcn : cnt = (seen.countP (fun q => q.data.toList == ep.data.toList) : Nat) := by
            rw [hat] at hcnt
            injection hcnt with hcnt
            injection hcnt
          have hcle : seen.countP (fun q => q.data.toList == ep.data.toList) ≤ seen.length := List.countP_le_length
          have hcr : 0 ≤ cnt ∧ cnt ≤ 256 := by omega
          have HAT := Aside0.mk hat
          clear hat hcn hcle
          have hwr : wrap64 (cnt + 1) = cnt + 1 := by unfold wrap64; omega
          have y0 : W2.cell? ⟨p, 0, none⟩ = some (.string ep) := (blk_cell BX2.out 0).trans rfl
          have y1 : W2.cell? ⟨p, 1, none⟩ = some (.int .i64 ek) := (blk_cell BX2.out 1).trans rfl
          by_cases hk2 : ek = 2
          · have hkb : (ek == 2) = true := beq_iff_eq.2 hk2
            rw [if_pos hk2] at HKN
            clear hk2
            go_wp2_with (at_mapUpdate; refine wpList_mapUpdate_own _ rfl _ _ _ 72 rfl 9 3 law9 Try.underlying72 (plainElem Try.prog 3) w.heap.size 0 D rfl HO2.out (by unfold maxLen; omega) _ _ (.string ep.data.toList) rfl rfl (WideMaps.keyOf_string_mk Try.underlying9 (show ep.size ≤ maxLen by unfold maxLen; omega)) (.lit (.int .i64 (cnt + 1))) [] (by first | exact plainElem_int Try.underlying3 (by simp [Lit.wf, IntKind.min, IntKind.max, IntKind.signed, IntKind.bits]; omega) | (rw [hwr]; exact plainElem_int Try.underlying3 (by simp [Lit.wf, IntKind.min, IntKind.max, IntKind.signed, IntKind.bits]; omega))) ?_; intro w3 hown3 hg3)
            go_roundw
            case rel => exact ⟨0 + 1, by first | rfl | (rw [HWI.out]; rfl), by omega, HB2.out.grown hg3 HB2.out.size (fun j e => by injection e with e; omega), _, ep :: seen, hown3, counts_put HC.out HM.out ep cnt HAT.out, HM.out.put _ _, by simp only [List.length_cons]; omega, HKN.out⟩
            case measure => simp [intOf]; omega
          · have hkb : (ek == 2) = false := beq_eq_false_iff_ne.2 hk2
            rw [if_neg hk2] at HKN
            clear hk2
            go_wp2
            go_roundw
            case rel => exact ⟨0 + 1, by first | rfl | (rw [HWI.out]; rfl), by omega, HB2.out, _, seen, HO2.out.mono (by omega), HC.out, HM.out, by omega, HKN.out⟩
            case measure => simp [intOf]; omega
        · rw [if_neg hk0, List.getElem?_eq_getElem (show k - 1 < l.length by omega)] at hok
          have hkg : decide ((0 : Int) < (k : Int)) = true := decide_eq_true (by omega)
          have hkz : (0 : Int) < (k : Int) := by omega
          have hkn : 0 < k := by omega
          have hkd : decide (0 < k) = true := decide_eq_true hkn
          obtain ⟨ca, hlk, hat, _⟩ := HO1.out.lookup_int law9 Try.underlying72 Try.underlying3 (zero3 W1) (WideMaps.keyOf_string_mk Try.underlying9 (show (aboveB ep).size ≤ maxLen by unfold maxLen; have := above_le ep; omega))
          have hca : ca = (seen.countP (fun q => q.data.toList == (aboveB ep).data.toList) : Nat) := by
            have := HC.out (aboveB ep)
            rw [hat] at this
            injection this with this
            injection this
          clear hat
          have hlkn : ∀ n, (Instr.lookup 72 (.map (some w.heap.size)) (.string (aboveB ep)) false).run Try.prog (W1.drewN n) = .ok (.int .i64 ca) (W1.drewN n) := fun n => by
            obtain ⟨cb, hb1, hb2, _⟩ := (show (W1.drewN n).ownsMap Try.prog 9 (plainElem Try.prog 3) w.heap.size k D from HO1.out).lookup_int law9 Try.underlying72 Try.underlying3 (zero3 _) (WideMaps.keyOf_string_mk Try.underlying9 (show (aboveB ep).size ≤ maxLen by unfold maxLen; have := above_le ep; omega))
            have : cb = ca := by
              have h9 := HC.out (aboveB ep)
              rw [hb2] at h9
              injection h9 with h9
              injection h9 with _ h9
              rw [h9, hca]
            rw [hb1, this]
          by_cases hmem : aboveB ep ∈ seen
          · have hca0 : (ca == 0) = false := beq_eq_false_iff_ne.2 (by have h9 := mem_count.1 hmem; omega)
            obtain ⟨c0, hcmp, hoke⟩ := hok.2 hmem
            obtain ⟨ad', hA, q0, q1, q2, q3⟩ := HE.out (k - 1) (by omega)
            injection hA with hA
            subst hA
            obtain ⟨d9, hd9⟩ : ∃ d9, l[k - 1]'(by omega) = d9 := ⟨_, rfl⟩
            rw [hd9] at q0 q1 q2 q3 hcmp
            have HCMP := Aside0.mk hcmp
            clear hd9
            obtain ⟨dp, dk, dx, dd⟩ := d9
            dsimp only at q0 q1 q2 q3
            have s0 := (HB1.out.cell (cell_lt q0)).trans q0
            have s1 := ((congrArg W1.cell? (addr_next ad ((k - 1) * 4) 1 (by decide))).trans (HB1.out.cell (cell_lt q1))).trans q1
            have s2 := ((congrArg W1.cell? (addr_next ad ((k - 1) * 4) 2 (by decide))).trans (HB1.out.cell (cell_lt q2))).trans q2
            have s3 := ((congrArg W1.cell? (addr_next ad ((k - 1) * 4) 3 (by decide))).trans (HB1.out.cell (cell_lt q3))).trans q3
            have HOKE := Aside0.mk hoke
            have HOK0 := Aside0.mk hok0
            have HOK1 := Aside0.mk hok1
            have hw8 : wrap64 ((k : Int) - 1) = ((k - 1 : Nat) : Int) := by unfold wrap64; omega
            have hw9 : IntKind.i64.wrap ((k : Int) - 1) = ((k - 1 : Nat) : Int) := by rw [IntKind.wrap_i64]; omega
            have hlt9 : ((k - 1 : Nat) : Int) < (l.length : Int) := by omega
            clear q0 q1 q2 q3 hcmp hoke hok hok0 hok1 hca hlk
            have hlk1 : (Instr.lookup 72 (.map (some w.heap.size)) (.string (aboveB ep)) false).run Try.prog W1.drew = .ok (.int .i64 ca) W1.drew := hlkn 1
            go_wp2
            go_region_with (first
              | (go_at_call 54; refine (above_calls _ hsz _).mono ?_; rintro x w' ⟨rfl, rfl⟩)
              | (go_at_call 55; refine (HCMP.out _).mono ?_; rintro x W2 ⟨rfl, h3⟩))
            all_goals
              have hbw := (Below.refl W1.heap.size W1).drew.trans h3
              have HB2 := Aside0.mk (below_step HB1.out hbw)
              have HO2 := Aside0.mk (own_below HO1.out hbw)
              have BX2 := Aside0.mk (blk_below BX.out hbw)
              clear h3 hbw hlk1 hlkn s0 s1 s2 s3 x0 x1 x2 x3
              by_cases hc0 : c0 < 0
              · have hnx := HOK1.out (by rw [HOKE.out]; simp [hc0])
                have hcd : decide (0 ≤ c0) = false := decide_eq_false (by omega)
                clear HOKE HOK0 HOK1
                have HKN := Aside0.mk (show CheckRun (if k + 1 = 0 then none else l[k + 1 - 1]?) (if ek = 2 then ep :: seen else seen) (l.drop (k + 1)) r by rw [if_neg (by omega), Nat.add_sub_cancel, List.getElem?_eq_getElem hlt, HEK.out]; exact hnx)
                clear hnx
                have hcnt := HC.out ep
                obtain ⟨cnt, hlk, hat, hwc⟩ := HO2.out.lookup_int law9 Try.underlying72 Try.underlying3 (zero3 W2) (WideMaps.keyOf_string_mk Try.underlying9 (show ep.size ≤ maxLen by unfold maxLen; omega))
                have hcn : cnt = (seen.countP (fun q => q.data.toList == ep.data.toList) : Nat) := by
                  rw [hat] at hcnt
                  injection hcnt with hcnt
                  injection hcnt
                have hcle : seen.countP (fun q => q.data.toList == ep.data.toList) ≤ seen.length := List.countP_le_length
                have hcr : 0 ≤ cnt ∧ cnt ≤ 256 := by omega
                have HAT := Aside0.mk hat
                clear hat hcn hcle
                have hwr : wrap64 (cnt + 1) = cnt + 1 := by unfold wrap64; omega
                have y0 : W2.cell? ⟨p, 0, none⟩ = some (.string ep) := (blk_cell BX2.out 0).trans rfl
                have y1 : W2.cell? ⟨p, 1, none⟩ = some (.int .i64 ek) := (blk_cell BX2.out 1).trans rfl
                by_cases hk2 : ek = 2
                · have hkb : (ek == 2) = true := beq_iff_eq.2 hk2
                  rw [if_pos hk2] at HKN
                  clear hk2
                  go_wp2_with (at_mapUpdate; refine wpList_mapUpdate_own _ rfl _ _ _ 72 rfl 9 3 law9 Try.underlying72 (plainElem Try.prog 3) w.heap.size k D rfl HO2.out (by unfold maxLen; omega) _ _ (.string ep.data.toList) rfl rfl (WideMaps.keyOf_string_mk Try.underlying9 (show ep.size ≤ maxLen by unfold maxLen; omega)) (.lit (.int .i64 (cnt + 1))) [] (by first | exact plainElem_int Try.underlying3 (by simp [Lit.wf, IntKind.min, IntKind.max, IntKind.signed, IntKind.bits]; omega) | (rw [hwr]; exact plainElem_int Try.underlying3 (by simp [Lit.wf, IntKind.min, IntKind.max, IntKind.signed, IntKind.bits]; omega))) ?_; intro w3 hown3 hg3)
                  go_roundw
                  case rel => exact ⟨k + 1, by first | rfl | (rw [HWI.out]; rfl), by omega, HB2.out.grown hg3 HB2.out.size (fun j e => by injection e with e; omega), _, ep :: seen, hown3, counts_put HC.out HM.out ep cnt HAT.out, HM.out.put _ _, by simp only [List.length_cons]; omega, HKN.out⟩
                  case measure => simp [intOf]; omega
                · have hkb : (ek == 2) = false := beq_eq_false_iff_ne.2 hk2
                  rw [if_neg hk2] at HKN
                  clear hk2
                  go_wp2
                  go_roundw
                  case rel => exact ⟨k + 1, by first | rfl | (rw [HWI.out]; rfl), by omega, HB2.out, _, seen, HO2.out.mono (by omega), HC.out, HM.out, by omega, HKN.out⟩
                  case measure => simp [intOf]; omega
              · have hre := HOK0.out (by rw [HOKE.out]; simp [hc0])
                have hcd : decide (0 ≤ c0) = true := decide_eq_true (by omega)
                have hcd2 : 0 ≤ c0 := by omega
                subst hre
                go_wp2
                go_ret
                exact ⟨rfl, HB2.out⟩
          · have hca0 : ca = 0 := by
              have h9 := mt mem_count.2 hmem
              rw [hca]
              simpa using h9
            subst hca0
            have hoke := hok.1 hmem
            have hre := hok0 hoke
            subst hre
            clear hok hok0 hok1 hca hlk
            go_wp2
            go_quiet (first | (go_at_call 54; exact Calls.quiet_of_same (above_calls _ hsz _)))
            go_wp2
            go_ret
            exact ⟨rfl, HB1.out.trans ⟨rfl, rfl, rfl, Nat.le_refl _, fun _ _ => rfl⟩⟩
    · have hke : k = l.length := by omega
      have hd : decide ((k : Int) < (l.length : Int)) = false := decide_eq_false (by omega)
      have hre : r = 0 := by have := HRUN.out; rw [hke, List.drop_length] at this; exact this
      subst hre
      clear hke
      go_wp2
      go_ret
      exact ⟨rfl, HB.out⟩
end Go.Proofs.YtlcaogiljiieaaaX
