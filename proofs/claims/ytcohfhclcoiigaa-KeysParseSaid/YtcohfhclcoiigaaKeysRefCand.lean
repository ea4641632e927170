/- The reference's Parse: what it answers, told by the key that it holds the bytes for. -/
import Derived.Test.YtcohfhclcoiigaaKeysRefParse3
set_option linter.unusedVariables false
set_option linter.unusedSimpArgs false
namespace Go.Proofs.YtcohfhclcoiigaaX
open Go.RowKit Go.Proofs.YtcohfhclcoiigaaW.PrintWords Go.Proofs.YtcohfhclcoiigaaW.PrintLast Go.Proofs.YtcohfhclcoiigaaW.PrintMore

set_option maxHeartbeats 4000000 in
set_option maxRecDepth 100000 in
theorem refParse_empty (s : ByteArray) (w : World) (hs0 : s.toList.isEmpty = true) :
    Calls Try.prog 18 #[.string s] w fun e w' => e = .returned (.tuple #[.agg #[.int .i64 0, .string ⟨#[]⟩, .string ⟨#[]⟩, .int .i64 0, .int .i64 0], .bool false]) ∧ Below w.heap.size w w' := by
  go_enter Try.func18, Try.ntmps18
  go_wp2_with fail
  go_loopw [5, 8, 9, 10, 11, 12, 13, 14, 15, 16, 17, 18, 19, 20, 21, 22] (fun i _ _ _ _ _ _ _ _ _ _ _ _ _ _ _ wx => i = .int .i64 1 ∧ Two wx w.heap.size #[.int .i64 0, .string ⟨#[]⟩, .string ⟨#[]⟩, .int .i64 0, .int .i64 0] #[.int .i64 0, .string ⟨#[]⟩, .string ⟨#[]⟩, .int .i64 0, .int .i64 0] ∧ Below w.heap.size w wx) (fun i _ _ _ _ _ _ _ _ _ _ _ _ _ _ _ wx => 11 - (intOf i).toNat)
  case atStart => exact ⟨rfl, two0 w _ _, alloc2_below w _ _⟩
  case round =>
    obtain ⟨rfl, HT, HB⟩ := hrel
    obtain ⟨m0, m1, m2, m3, m4, l0, l1, l2, l3, l4, gk, gr⟩ := HT.seen
    go_wp2_with fail
    refine bodyPost_ret (results_ct rfl _ _ w.heap.size 23 #[.int .i64 0, .string ⟨#[]⟩, .string ⟨#[]⟩, .int .i64 0, .int .i64 0] (0, 0) _ rfl (((((HT.setR 0 _).setR 1 _).setR 2 _).setR 3 _).setR 4 _).r Try.underlying23 rfl (by kernel_rfl)) rfl ?_
    exact ⟨rfl, setR5 HB _ _ _ _ _⟩

def zeroAt (l : List UInt8) : Nat := (l.takeWhile (fun x => x != 0)).length
theorem zeroAt_le (l : List UInt8) : zeroAt l ≤ l.length := by
  unfold zeroAt
  exact (List.takeWhile_prefix _).length_le
theorem zeroAt_split (a b : List UInt8) (h : (0 : UInt8) ∉ a) : zeroAt (a ++ 0 :: b) = a.length := by
  unfold zeroAt
  induction a with
  | nil => simp
  | cons x a ih =>
    have hx : x ≠ 0 := fun e => h (e ▸ List.mem_cons_self)
    have := ih (fun hm => h (List.mem_cons_of_mem _ hm))
    rw [List.cons_append, List.takeWhile_cons]
    simp [hx, this]
theorem zeroAt_none (a : List UInt8) (h : (0 : UInt8) ∉ a) : zeroAt a = a.length := by
  unfold zeroAt
  induction a with
  | nil => rfl
  | cons x a ih =>
    have hx : x ≠ 0 := fun e => h (e ▸ List.mem_cons_self)
    have := ih (fun hm => h (List.mem_cons_of_mem _ hm))
    rw [List.takeWhile_cons]
    simp [hx, this]
theorem zeroAt_before (l : List UInt8) (i : Nat) (hi : i < zeroAt l) (hl : i < l.length) : l[i] ≠ 0 := by
  induction l generalizing i with
  | nil => simp at hl
  | cons x l ih =>
    unfold zeroAt at hi
    rw [List.takeWhile_cons] at hi
    by_cases hx : x = 0
    · subst hx; simp at hi
    · cases i with
      | zero => exact hx
      | succ i =>
        have : (x != 0) = true := by simp [hx]
        rw [if_pos this, List.length_cons] at hi
        exact ih i (by unfold zeroAt; omega) (by simpa using hl)
theorem zeroAt_here (l : List UInt8) (h : zeroAt l < l.length) : l[zeroAt l] = 0 := by
  induction l with
  | nil => simp at h
  | cons x l ih =>
    by_cases hx : x = 0
    · subst hx
      have : zeroAt ((0 : UInt8) :: l) = 0 := by unfold zeroAt; simp
      simp [this]
    · have e : zeroAt (x :: l) = zeroAt l + 1 := by unfold zeroAt; simp [hx]
      have h2 : zeroAt l < l.length := by rw [e] at h; simpa using h
      have := ih h2
      simp only [e, List.getElem_cons_succ]
      exact this

def readV (r : ByteArray) : Int := wrap64 ((wrap64 ((wrap64 (65536 * (wrap64 (bt r 0)))) + (wrap64 (256 * (wrap64 (bt r 1)))))) + (wrap64 (bt r 2)))
/-- The key that bytes are first held for, if they are long enough. -/
def refCand (s : ByteArray) : Option (Int × ByteArray × ByteArray × Int × Int) :=
  if s.size = 0 then none
  else if kindR (s.data.toList.headD 0) = 0 then none
  else if kindR (s.data.toList.headD 0) = 2 then (if (s.extract 1 s.size).size < 3 then none else some (2, ⟨#[]⟩, ⟨#[]⟩, readV (s.extract 1 s.size), 0))
  else if kindR (s.data.toList.headD 0) = 3 then (if (s.extract 1 s.size).size < 5 then none else some (3, ⟨#[]⟩, ⟨#[]⟩, readV (s.extract 1 s.size), 256 * bt (s.extract 1 s.size) 3 + bt (s.extract 1 s.size) 4))
  else if kindR (s.data.toList.headD 0) = 4 then (if (s.extract 1 s.size).size < 3 then none else some (4, (s.extract 1 s.size).extract 3 (s.extract 1 s.size).size, ⟨#[]⟩, readV (s.extract 1 s.size), 0))
  else if kindR (s.data.toList.headD 0) = 6 then (if zeroAt (s.extract 1 s.size).data.toList = (s.extract 1 s.size).size then none else some (6, (s.extract 1 s.size).extract 0 (zeroAt (s.extract 1 s.size).data.toList), (s.extract 1 s.size).extract (zeroAt (s.extract 1 s.size).data.toList + 1) (s.extract 1 s.size).size, 0, 0))
  else if kindR (s.data.toList.headD 0) = 7 then (if zeroAt (s.extract 1 s.size).data.toList = (s.extract 1 s.size).size then none else some (7, (s.extract 1 s.size).extract 0 (zeroAt (s.extract 1 s.size).data.toList), (s.extract 1 s.size).extract (zeroAt (s.extract 1 s.size).data.toList + 1) (s.extract 1 s.size).size, 0, 0))
  else if kindR (s.data.toList.headD 0) = 9 then (if (s.extract 1 s.size).size < zeroAt (s.extract 1 s.size).data.toList + 4 then none else some (9, (s.extract 1 s.size).extract 0 (zeroAt (s.extract 1 s.size).data.toList), ⟨#[]⟩, readV ((s.extract 1 s.size).extract (zeroAt (s.extract 1 s.size).data.toList + 1) (s.extract 1 s.size).size), 0))
  else some (kindR (s.data.toList.headD 0), s.extract 1 s.size, ⟨#[]⟩, 0, 0)

theorem zero_facts (rest : ByteArray) : (0 : Int) ≤ (zeroAt rest.data.toList : Int) ∧ (zeroAt rest.data.toList : Int) ≤ rest.size ∧ (∀ i : Int, 0 ≤ i → i < (zeroAt rest.data.toList : Int) → bt rest i ≠ 0) ∧
    ((zeroAt rest.data.toList : Int) = rest.size ∨ (zeroAt rest.data.toList : Int) < rest.size ∧ bt rest (zeroAt rest.data.toList : Int) = 0) := by
  have hle := zeroAt_le rest.data.toList
  have hsz := ba_size rest
  refine ⟨by omega, by omega, fun i h0 h1 => ?_, ?_⟩
  · obtain ⟨n, rfl⟩ := Int.eq_ofNat_of_zero_le h0
    have hn : n < rest.data.toList.length := by omega
    rw [bt_list rest n hn]
    have := zeroAt_before rest.data.toList n (by omega) hn
    intro e
    exact this (UInt8.toNat_inj.1 (by show (rest.data.toList[n]).toNat = 0; omega))
  · by_cases h : zeroAt rest.data.toList < rest.data.toList.length
    · refine .inr ⟨by omega, ?_⟩
      rw [bt_list rest _ h, zeroAt_here _ h]
      rfl
    · exact .inl (by omega)

theorem refParse_all (s : ByteArray) (w : World) (hs : s.size ≤ 1000000) (hread : ∀ r : ByteArray, 3 ≤ r.size → ReadIs r (readV r)) :
    (refCand s = none → Calls Try.prog 18 #[.string s] w fun e w' => e = .returned (.tuple #[.agg #[.int .i64 0, .string ⟨#[]⟩, .string ⟨#[]⟩, .int .i64 0, .int .i64 0], .bool false]) ∧ Below w.heap.size w w') ∧
    (∀ k A B N M, refCand s = some (k, A, B, N, M) → ∀ m b, MayIs k A B N M m → (m = true → RefBytesIs k A B N M b) →
      Calls Try.prog 18 #[.string s] w fun e w' => e = .returned (refParsed s k A B N M m b) ∧ Below w.heap.size w w') := by
  unfold refCand
  by_cases h0 : s.size = 0
  · rw [if_pos h0]
    refine ⟨fun _ => refParse_empty s w ?_, fun k A B N M h => by cases h⟩
    rw [ByteArray.toList_eq]
    have := ba_size s
    rw [h0] at this
    rw [List.length_eq_zero_iff.1 this.symm]
    rfl
  rw [if_neg h0]
  have hs0 : 0 < s.size := by omega
  have hx := (head_at s hs0).symm
  generalize hxx : s.data.toList.headD 0 = x at hx ⊢
  generalize hk : kindR x = kd
  have hkr := kindR_range x
  rw [hk] at hkr
  by_cases hk0 : kd = 0
  · rw [if_pos hk0]
    exact ⟨fun _ => refParse_none s w hs0 hs x hx kd hk hk0, fun k A B N M h => by cases h⟩
  rw [if_neg hk0]
  have hrs : (s.extract 1 s.size).size ≤ 1000000 := Nat.le_trans (ext_le _ _ _) hs
  generalize hr : s.extract 1 s.size = rest at hrs ⊢
  obtain ⟨z0, z1, z2, z3⟩ := zero_facts rest
  have hsz := ba_size rest
  have ne : ∀ j : Int, kd ≠ j → (kd == j) = false := fun j h => by rw [beq_eq_false_iff_ne]; exact h
  by_cases h2 : kd = 2
  · rw [if_pos h2]
    have e : (kd == 2) = true := beq_iff_eq.2 h2
    have e3 := ne 3 (by omega); have e4 := ne 4 (by omega); have e6 := ne 6 (by omega); have e7 := ne 7 (by omega); have e9 := ne 9 (by omega)
    by_cases hl : rest.size < 3
    · rw [if_pos hl]
      exact ⟨fun _ => refParse_2s s w hs0 hs x hx kd hk (by omega) rest hr hrs _ z0 z1 z2 z3 e e3 e4 e6 e7 e9 (by omega), fun k A B N M h => by cases h⟩
    · rw [if_neg hl]
      refine ⟨fun h => (by cases h), fun k A B N M h m b hm hb => ?_⟩
      cases h
      subst h2
      exact refParse_2 s w hs0 hs x hx 2 hk (by omega) rest hr hrs _ z0 z1 z2 z3 e e3 e4 e6 e7 e9 (by omega) _ (hread _ (by omega)) m hm b hb
  rw [if_neg h2]
  by_cases h3 : kd = 3
  · rw [if_pos h3]
    have e : (kd == 3) = true := beq_iff_eq.2 h3
    have e2 := ne 2 (by omega); have e4 := ne 4 (by omega); have e6 := ne 6 (by omega); have e7 := ne 7 (by omega); have e9 := ne 9 (by omega)
    by_cases hl : rest.size < 5
    · rw [if_pos hl]
      refine ⟨fun _ => ?_, fun k A B N M h => by cases h⟩
      by_cases hl3 : rest.size < 3
      · exact refParse_3s s w hs0 hs x hx kd hk (by omega) rest hr hrs _ z0 z1 z2 z3 e2 e e4 e6 e7 e9 (by omega)
      · exact refParse_3t s w hs0 hs x hx kd hk (by omega) rest hr hrs _ z0 z1 z2 z3 e2 e e4 e6 e7 e9 (by omega) (by omega)
    · rw [if_neg hl]
      refine ⟨fun h => (by cases h), fun k A B N M h m b hm hb => ?_⟩
      have hs3 : 3 < rest.size := by omega
      have hs4 : 4 < rest.size := by omega
      have b3 : bt rest 3 = ((rest[3]'hs3).toNat : Int) := (bt_at rest 3 hs3).symm
      have b4 : bt rest 4 = ((rest[4]'hs4).toNat : Int) := (bt_at rest 4 hs4).symm
      cases h
      subst h3
      exact refParse_3 s w hs0 hs x hx 3 hk (by omega) rest hr hrs _ z0 z1 z2 z3 e2 e e4 e6 e7 e9 (by omega) (by omega) _ (hread _ (by omega)) _ _ hs3 hs4 rfl rfl _ (by rw [b3, b4]) m hm b hb
  rw [if_neg h3]
  by_cases h4 : kd = 4
  · rw [if_pos h4]
    have e : (kd == 4) = true := beq_iff_eq.2 h4
    have e2 := ne 2 (by omega); have e3 := ne 3 (by omega); have e6 := ne 6 (by omega); have e7 := ne 7 (by omega); have e9 := ne 9 (by omega)
    by_cases hl : rest.size < 3
    · rw [if_pos hl]
      exact ⟨fun _ => refParse_4s s w hs0 hs x hx kd hk (by omega) rest hr hrs _ z0 z1 z2 z3 e2 e3 e e6 e7 e9 (by omega), fun k A B N M h => by cases h⟩
    · rw [if_neg hl]
      refine ⟨fun h => (by cases h), fun k A B N M h m b hm hb => ?_⟩
      cases h
      subst h4
      exact refParse_4 s w hs0 hs x hx 4 hk (by omega) rest hr hrs _ z0 z1 z2 z3 e2 e3 e e6 e7 e9 (by omega) _ (hread _ (by omega)) _ rfl m hm b hb
  rw [if_neg h4]
  have e2 := ne 2 h2; have e3 := ne 3 h3; have e4 := ne 4 h4
  have hzl : zeroAt rest.data.toList ≤ rest.size := by have := zeroAt_le rest.data.toList; omega
  have cut2 : rest.extract ((zeroAt rest.data.toList : Int) + 1).toNat rest.size = rest.extract (zeroAt rest.data.toList + 1) rest.size := by rw [show ((zeroAt rest.data.toList : Int) + 1).toNat = zeroAt rest.data.toList + 1 by omega]
  by_cases h6 : kd = 6
  · rw [if_pos h6]
    have e : (kd == 6) = true := beq_iff_eq.2 h6
    have e7 := ne 7 (by omega); have e9 := ne 9 (by omega)
    by_cases hl : zeroAt rest.data.toList = rest.size
    · rw [if_pos hl]
      exact ⟨fun _ => refParse_6z s w hs0 hs x hx kd hk (by omega) rest hr hrs _ z0 z1 z2 z3 e2 e3 e4 e e7 e9 (by omega), fun k A B N M h => by cases h⟩
    · rw [if_neg hl]
      refine ⟨fun h => (by cases h), fun k A B N M h m b hm hb => ?_⟩
      cases h
      subst h6
      exact refParse_6 s w hs0 hs x hx 6 hk (by omega) rest hr hrs _ z0 z1 z2 z3 e2 e3 e4 e e7 e9 (by omega) _ (by rw [Int.toNat_natCast]) _ cut2 m hm b hb
  rw [if_neg h6]
  have e6 := ne 6 h6
  by_cases h7 : kd = 7
  · rw [if_pos h7]
    have e : (kd == 7) = true := beq_iff_eq.2 h7
    have e9 := ne 9 (by omega)
    by_cases hl : zeroAt rest.data.toList = rest.size
    · rw [if_pos hl]
      exact ⟨fun _ => refParse_7z s w hs0 hs x hx kd hk (by omega) rest hr hrs _ z0 z1 z2 z3 e2 e3 e4 e6 e e9 (by omega), fun k A B N M h => by cases h⟩
    · rw [if_neg hl]
      refine ⟨fun h => (by cases h), fun k A B N M h m b hm hb => ?_⟩
      cases h
      subst h7
      exact refParse_7 s w hs0 hs x hx 7 hk (by omega) rest hr hrs _ z0 z1 z2 z3 e2 e3 e4 e6 e e9 (by omega) _ (by rw [Int.toNat_natCast]) _ cut2 m hm b hb
  rw [if_neg h7]
  have e7 := ne 7 h7
  by_cases h9 : kd = 9
  · rw [if_pos h9]
    have e : (kd == 9) = true := beq_iff_eq.2 h9
    by_cases hl : rest.size < zeroAt rest.data.toList + 4
    · rw [if_pos hl]
      refine ⟨fun _ => ?_, fun k A B N M h => by cases h⟩
      by_cases hlz : zeroAt rest.data.toList = rest.size
      · exact refParse_9z s w hs0 hs x hx kd hk (by omega) rest hr hrs _ z0 z1 z2 z3 e2 e3 e4 e6 e7 e (by omega)
      · exact refParse_9t s w hs0 hs x hx kd hk (by omega) rest hr hrs _ z0 z1 z2 z3 e2 e3 e4 e6 e7 e (by omega) (by omega)
    · rw [if_neg hl]
      refine ⟨fun h => (by cases h), fun k A B N M h m b hm hb => ?_⟩
      cases h
      subst h9
      exact refParse_9 s w hs0 hs x hx 9 hk (by omega) rest hr hrs _ z0 z1 z2 z3 e2 e3 e4 e6 e7 e (by omega) _ (by rw [Int.toNat_natCast]) _ cut2 (by omega) _ (hread _ (by rw [ByteArray.size_extract]; omega)) m hm b hb
  rw [if_neg h9]
  refine ⟨fun h => (by cases h), fun k A B N M h m b hm hb => ?_⟩
  cases h
  exact refParse_1 s w hs0 hs x hx _ hk (by omega) rest hr hrs _ z0 z1 z2 z3 e2 e3 e4 e6 e7 (ne 9 h9) m hm b hb
end Go.Proofs.YtcohfhclcoiigaaX
