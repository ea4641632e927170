/- Plain laws on keys: bytes that a key has are read as it; what Parse answers. -/
import Derived.Test.YtcohfhclcoiigaaQKeysx
import Derived.Test.YtcohfhclcoiigaaKeysLaws
set_option linter.unusedVariables false
set_option linter.unusedSimpArgs false
namespace Go.Proofs.YtcohfhclcoiigaaX
open Go.RowKit Go.Proofs.Ytcohfhclcoiigaa.PKeys Go.Proofs.YtcohfhclcoiigaaW.PrintWords Go.Proofs.YtcohfhclcoiigaaW.PrintLast Go.Proofs.YtcohfhclcoiigaaW.PrintMore

theorem u8_nat {x : Int} (h0 : 0 ≤ x) (h1 : x < 256) : ((u8 x).toNat : Int) = x := by
  obtain ⟨n, rfl⟩ := Int.eq_ofNat_of_zero_le h0
  unfold u8
  rw [Int.toNat_natCast, UInt8.toNat_ofNat']
  omega
theorem val_step {v : Int} (h0 : 0 ≤ v) (h1 : v < 1099511627776) (x : UInt8) : Go.bits .or .i64 (wrap64 (v * 256)) (x.toNat : Int) = v * 256 + (x.toNat : Int) := by
  have hx : x.toNat < 256 := x.toNat_lt
  rw [w64 (by omega) (by omega)]
  exact or64 8 (by omega) (by show v * 256 % 256 = 0; omega) (by omega) (by omega) (by show (x.toNat : Int) < 256; omega) (by omega)
theorem val_nil : valB [] = 0 := rfl
theorem val1 (a : UInt8) : valB [a] = (a.toNat : Int) := by
  have ha : a.toNat < 256 := a.toNat_lt
  rw [show [a] = [] ++ [a] from rfl, valB_snoc, val_nil, val_step (v := 0) (by omega) (by omega)]
  omega
theorem val2 (a b : UInt8) : valB [a, b] = (a.toNat : Int) * 256 + b.toNat := by
  have ha : a.toNat < 256 := a.toNat_lt
  have hb : b.toNat < 256 := b.toNat_lt
  rw [show [a, b] = [a] ++ [b] from rfl, valB_snoc, val1, val_step (by omega) (by omega)]
theorem val3 (a b c : UInt8) : valB [a, b, c] = (a.toNat : Int) * 65536 + b.toNat * 256 + c.toNat := by
  have ha : a.toNat < 256 := a.toNat_lt
  have hb : b.toNat < 256 := b.toNat_lt
  rw [show [a, b, c] = [a, b] ++ [c] from rfl, valB_snoc, val2, val_step (by omega) (by omega)]
  omega
theorem val_n3 {n : Int} (h0 : 0 ≤ n) (h1 : n ≤ 16777215) : valB (n3 n) = n := by
  unfold n3
  rw [val3, u8_nat (by omega) (by omega), u8_nat (by omega) (by omega), u8_nat (by omega) (by omega)]
  omega
theorem val_n2 {n : Int} (h0 : 0 ≤ n) (h1 : n ≤ 65535) : valB (n2 n) = n := by
  unfold n2
  rw [val2, u8_nat (by omega) (by omega), u8_nat (by omega) (by omega)]
  omega

theorem index_no {c : UInt8} : ∀ {t : List UInt8}, c ∉ t → Lib.indexByte t c = -1
  | [], _ => rfl
  | b :: t, h => by
    have hb : (b == c) = false := by
      rw [beq_eq_false_iff_ne]
      exact fun e => h (e ▸ List.mem_cons_self)
    have ih := index_no (t := t) (c := c) (fun hm => h (List.mem_cons_of_mem _ hm))
    unfold Lib.indexByte
    rw [hb, ih]
    rfl
theorem index_at {c : UInt8} (b : List UInt8) : ∀ {a : List UInt8}, c ∉ a → Lib.indexByte (a ++ c :: b) c = (a.length : Int)
  | [], _ => by
    rw [List.nil_append]
    unfold Lib.indexByte
    simp
  | x :: a, h => by
    have hx : (x == c) = false := by
      rw [beq_eq_false_iff_ne]
      exact fun e => h (e ▸ List.mem_cons_self)
    have ih := index_at b (a := a) (fun hm => h (List.mem_cons_of_mem _ hm))
    rw [List.cons_append]
    unfold Lib.indexByte
    rw [hx, ih]
    have : ((a.length : Int) == -1) = false := by rw [beq_eq_false_iff_ne]; omega
    rw [this]
    simp
theorem split_at (c : UInt8) (t : List UInt8) (h : c ∈ t) : ∃ a b, t = a ++ c :: b ∧ c ∉ a := by
  induction t with
  | nil => cases h
  | cons x t ih =>
    by_cases e : x = c
    · exact ⟨[], t, by rw [e]; rfl, by simp⟩
    · have h1 : c ∈ t := by
        rcases List.mem_cons.1 h with h | h
        · exact absurd h.symm e
        · exact h
      obtain ⟨a, b, rfl, h2⟩ := ih h1
      refine ⟨x :: a, b, rfl, ?_⟩
      intro hm
      rcases List.mem_cons.1 hm with hm | hm
      · exact e hm.symm
      · exact h2 hm

theorem cut_no {t : List UInt8} (h : (0 : UInt8) ∉ t) : strings_Cut.f (ba t) ⟨#[0]⟩ = some (ba t, ba [], false) := by
  have h1 : stringslite_Index.f (ba t) ⟨#[0]⟩ = some (Lib.indexByte t 0) := dif_pos rfl
  unfold strings_Cut.f stringslite_Cut.f
  rw [h1, index_no h]
  rfl
theorem cut_at {a b : List UInt8} (h : (0 : UInt8) ∉ a) (hl : a.length + b.length ≤ 1000000) : strings_Cut.f (ba (a ++ 0 :: b)) ⟨#[0]⟩ = some (ba a, ba b, true) := by
  have h1 : stringslite_Index.f (ba (a ++ 0 :: b)) ⟨#[0]⟩ = some (Lib.indexByte (a ++ 0 :: b) 0) := dif_pos rfl
  have hz : ((⟨#[0]⟩ : ByteArray).size : Int) = 1 := rfl
  unfold strings_Cut.f stringslite_Cut.f
  rw [h1, index_at b h, hz]
  simp only [Option.bind_some, ba_sz, List.length_append, List.length_cons]
  rw [w64 (by omega) (by omega)]
  rw [if_pos (by omega), if_pos (by omega), if_pos (by omega), if_pos (by omega), if_pos (by omega)]
  simp only [ba_ex, Int.toNat_natCast]
  rw [show ((a.length : Int) + 1).toNat = a.length + 1 by omega]
  simp
  rw [show a.length + (b.length + 1) - (a.length + 1) = b.length by omega, List.take_of_length_le (by simp)]

theorem kind_lett {k : Int} (h0 : 1 ≤ k) (h1 : k ≤ 10) (t : List UInt8) : kindOf (ba (lett k :: t)) = k := by
  show wrap64 ((1 : Int) + Lib.indexByte [110, 105, 99, 100, 112, 114, 117, 102, 103, 116] (lett k)) = k
  rcases ten h0 h1 with rfl | rfl | rfl | rfl | rfl | rfl | rfl | rfl | rfl | rfl <;> decide +kernel
theorem tail_ba (x : UInt8) (t : List UInt8) : (ba (x :: t)).extract 1 (ba (x :: t)).size = ba t := by
  rw [ba_ex, ba_sz]
  simp
theorem ahead_n3 (n : Int) (t : List UInt8) : aheadOf (ba (n3 n ++ t)) = ba (n3 n) := by
  unfold aheadOf
  rw [ba_ex, ba_sz]
  have : (min 3 (((n3 n ++ t).length : Nat) : Int)).toNat = 3 := by rw [List.length_append, n3_len]; omega
  rw [this]
  rfl
theorem behind_n3 (n : Int) (t : List UInt8) : behindOf (ba (n3 n ++ t)) = ba t := by
  unfold behindOf
  rw [ahead_n3, ba_sz, n3_len, ba_ex, ba_sz, List.length_append, n3_len]
  show ba (t.take (3 + t.length - 3)) = ba t
  rw [List.take_of_length_le (by omega)]

/-- A key's bytes are read as the key. -/
theorem read_byts {k : Int} {A B : List UInt8} {N M : Int} (h : May k A B N M) (c1 c2 : ByteArray) (hc : ∀ a b : List UInt8, body k A B N M = a ++ 0 :: b → (0 : UInt8) ∉ a → c1 = ba a ∧ c2 = ba b) :
    readKey (ba (byts k A B N M)) c1 c2 = (k, ba A, ba B, N, M) := by
  have hk := kind_lett h.range.1 h.range.2 (body k A B N M)
  have ht := tail_ba (lett k) (body k A B N M)
  unfold readKey byts
  rw [hk, ht]
  clear hk ht
  cases h with
  | count => rfl
  | inode N h1 h2 =>
    simp only [↓reduceIte]
    have hv := val_n3 (n := N) (by omega) (by omega)
    rw [ba_ex, ba_dl, ba_sz]
    show ((2 : Int), (⟨#[]⟩ : ByteArray), (⟨#[]⟩ : ByteArray), valB (n3 N), (0 : Int)) = _
    rw [hv]
    rfl
  | chunk N M h1 h2 h3 h4 =>
    have hv := val_n3 (n := N) (by omega) (by omega)
    have hw := val_n2 (n := M) (by omega) (by omega)
    have hb : body 3 [] [] N M = n3 N ++ n2 M := rfl
    rw [if_neg (by decide), if_pos rfl, hb, ahead_n3, behind_n3, ba_dl, hv, ba_ex, ba_dl, ba_sz]
    show ((3 : Int), (⟨#[]⟩ : ByteArray), (⟨#[]⟩ : ByteArray), N, valB (n2 M)) = _
    rw [hw]
    rfl
  | entry A N hA h1 h2 =>
    have hv := val_n3 (n := N) (by omega) (by omega)
    have hb : body 4 A [] N 0 = n3 N ++ A := rfl
    rw [if_neg (by decide), if_neg (by decide), if_pos rfl, hb, ahead_n3, behind_n3, ba_dl, hv]
    rfl
  | one k A hk hA => rcases hk with rfl | rfl | rfl <;> rfl
  | two k A B hk hA hB =>
    obtain ⟨rfl, rfl⟩ := hc A B (by rcases hk with rfl | rfl <;> rfl) (nm_zero hA)
    rcases hk with rfl | rfl <;> rfl
  | gen A N hA h1 h2 =>
    have hv := val_n3 (n := N) (by omega) (by omega)
    obtain ⟨rfl, rfl⟩ := hc A (n3 N) rfl (nm_zero hA)
    rw [if_neg (by decide), if_neg (by decide), if_neg (by decide), if_neg (by decide), if_neg (by decide), if_pos rfl, ba_ex, ba_dl, ba_sz]
    show ((9 : Int), ba A, (⟨#[]⟩ : ByteArray), valB (n3 N), (0 : Int)) = _
    rw [hv]
    rfl

theorem byts_len {k : Int} {A B : List UInt8} {N M : Int} (h : May k A B N M) : (byts k A B N M).length ≤ 200 := by
  cases h with
  | count => decide
  | inode N => show 1 + 3 ≤ 200; omega
  | chunk N M => show 1 + 5 ≤ 200; omega
  | entry A N hA =>
    have := hA.2.1
    simp [byts, body, n3_len]
    omega
  | one k A hk hA =>
    have := hA.2.1
    rcases hk with rfl | rfl | rfl <;> simp [byts, body] <;> omega
  | two k A B hk hA hB =>
    have := hA.2.1
    have := hB.2.1
    rcases hk with rfl | rfl <;> simp [byts, body] <;> omega
  | gen A N hA =>
    have := hA.2.1
    simp [byts, body, n3_len]
    omega

/-- What Parse answers. -/
theorem parse_f (s : List UInt8) (hs : s.length ≤ 1000000) (f : Nat) :
    (∃ k A B N M, May k A B N M ∧ s = byts k A B N M ∧ keys_Parse.f (f + 1) (ba s) = some (k, ba A, ba B, N, M, 0)) ∨
    ((∀ k A B N M, May k A B N M → s ≠ byts k A B N M) ∧ keys_Parse.f (f + 1) (ba s) = some (0, ba [], ba [], 0, 0, 4)) := by
  cases s with
  | nil =>
    refine .inr ⟨fun k A B N M _ h => (by cases h), ?_⟩
    unfold keys_Parse.f
    rw [ba_tl, if_pos rfl]
    rfl
  | cons x t =>
    have hl : t.length + 1 ≤ 1000000 := hs
    obtain ⟨c1, c2, c3, hcut, hc, hz⟩ : ∃ c1 c2 c3, strings_Cut.f (ba t) ⟨#[0]⟩ = some (c1, c2, c3) ∧ (∀ a b, t = a ++ 0 :: b → (0 : UInt8) ∉ a → c1 = ba a ∧ c2 = ba b) ∧ c2.size ≤ 1000000 := by
      by_cases h0 : (0 : UInt8) ∈ t
      · obtain ⟨a, b, rfl, ha⟩ := split_at 0 t h0
        rw [List.length_append, List.length_cons] at hl
        have e1 := cut_at (b := b) ha (by omega)
        refine ⟨_, _, _, e1, ?_, by rw [ba_sz]; omega⟩
        intro a' b' he ha'
        have l1 := index_at b ha
        rw [he, index_at b' ha'] at l1
        obtain ⟨rfl, h2⟩ := List.append_inj he (by omega)
        cases h2
        exact ⟨rfl, rfl⟩
      · refine ⟨_, _, _, cut_no h0, ?_, by rw [ba_sz]; exact Nat.zero_le _⟩
        intro a b he _
        exact absurd (he ▸ List.mem_append_right a List.mem_cons_self) h0
    have hne : ¬ x :: t = ([] : List UInt8) := by simp
    have hval : keys_Parse.f (f + 1) (ba (x :: t)) = (keys_Bytes.f (f + 1) (readKey (ba (x :: t)) c1 c2).1 (readKey (ba (x :: t)) c1 c2).2.1 (readKey (ba (x :: t)) c1 c2).2.2.1 (readKey (ba (x :: t)) c1 c2).2.2.2.1 (readKey (ba (x :: t)) c1 c2).2.2.2.2).bind fun b =>
      if b.2 = 0 ∧ b.1.toList = x :: t then some ((readKey (ba (x :: t)) c1 c2).1, (readKey (ba (x :: t)) c1 c2).2.1, (readKey (ba (x :: t)) c1 c2).2.2.1, (readKey (ba (x :: t)) c1 c2).2.2.2.1, (readKey (ba (x :: t)) c1 c2).2.2.2.2, 0)
      else some (0, ⟨#[]⟩, ⟨#[]⟩, 0, 0, 4) := by
      unfold keys_Parse.f
      rw [ba_tl, if_neg hne, if_pos (by rw [ba_sz]; exact hs), tail_ba, hcut]
      simp only [Option.bind_some]
      rw [if_pos hz]
    have back : ∀ k A B N M, May k A B N M → x :: t = byts k A B N M → readKey (ba (x :: t)) c1 c2 = (k, ba A, ba B, N, M) := by
      intro k A B N M hm he
      rw [he]
      refine read_byts hm c1 c2 fun a b hab ha => hc a b ?_ ha
      unfold byts at he
      cases he
      exact hab
    rw [hval]
    obtain ⟨k, RA, RB, N, M, hr⟩ : ∃ k RA RB N M, readKey (ba (x :: t)) c1 c2 = (k, RA, RB, N, M) := ⟨_, _, _, _, _, rfl⟩
    obtain ⟨A, rfl⟩ := ba_of RA
    obtain ⟨B, rfl⟩ := ba_of RB
    rw [hr]
    simp only []
    by_cases hm : May k A B N M
    · rw [bytes_f hm]
      simp only [Option.bind_some, ba_tl]
      by_cases he : byts k A B N M = x :: t
      · refine .inl ⟨k, A, B, N, M, hm, he.symm, ?_⟩
        rw [if_pos ⟨trivial, he⟩]
      · refine .inr ⟨?_, by rw [if_neg (fun h => he h.2)]; rfl⟩
        intro k' A' B' N' M' hm' he'
        have hb := back k' A' B' N' M' hm' he'
        rw [hr] at hb
        simp only [Prod.mk.injEq] at hb
        obtain ⟨rfl, e1, e2, rfl, rfl⟩ := hb
        cases ba_inj e1
        cases ba_inj e2
        exact he he'.symm
    · rw [bytes_no hm]
      refine .inr ⟨?_, by simp only [Option.bind_some]; rw [if_neg (by simp)]; rfl⟩
      intro k' A' B' N' M' hm' he'
      have hb := back k' A' B' N' M' hm' he'
      rw [hr] at hb
      simp only [Prod.mk.injEq] at hb
      obtain ⟨rfl, e1, e2, rfl, rfl⟩ := hb
      cases ba_inj e1
      cases ba_inj e2
      exact hm hm'

/-- Unlike keys have unlike bytes. -/
theorem byts_inj {k : Int} {A B : List UInt8} {N M : Int} {k' : Int} {A' B' : List UInt8} {N' M' : Int} (h : May k A B N M) (h' : May k' A' B' N' M') (e : byts k A B N M = byts k' A' B' N' M') :
    k = k' ∧ A = A' ∧ B = B' ∧ N = N' ∧ M = M' := by
  obtain ⟨c1, c2, hc⟩ : ∃ c1 c2 : ByteArray, ∀ a b, body k A B N M = a ++ 0 :: b → (0 : UInt8) ∉ a → c1 = ba a ∧ c2 = ba b := by
    by_cases h0 : (0 : UInt8) ∈ body k A B N M
    · obtain ⟨a, b, hab, ha⟩ := split_at 0 _ h0
      refine ⟨ba a, ba b, fun a' b' he ha' => ?_⟩
      have l1 := index_at b ha
      rw [← hab, he, index_at b' ha'] at l1
      rw [hab] at he
      obtain ⟨rfl, h2⟩ := List.append_inj he (by omega)
      cases h2
      exact ⟨rfl, rfl⟩
    · exact ⟨ba [], ba [], fun a b he _ => absurd (by rw [he]; exact List.mem_append_right a List.mem_cons_self) h0⟩
  have r1 := read_byts h c1 c2 hc
  have e2 : body k A B N M = body k' A' B' N' M' := (List.cons.inj e).2
  have r2 := read_byts h' c1 c2 (fun a b he ha => hc a b (e2.trans he) ha)
  rw [e, r2] at r1
  simp only [Prod.mk.injEq] at r1
  obtain ⟨rfl, e3, e4, rfl, rfl⟩ := r1
  exact ⟨rfl, (ba_inj e3).symm, (ba_inj e4).symm, rfl, rfl⟩
theorem parse_byts {k : Int} {A B : List UInt8} {N M : Int} (h : May k A B N M) (f : Nat) : keys_Parse.f (f + 1) (ba (byts k A B N M)) = some (k, ba A, ba B, N, M, 0) := by
  rcases parse_f (byts k A B N M) (by have := byts_len h; omega) f with ⟨k', A', B', N', M', h', he, hp⟩ | ⟨h', _⟩
  · obtain ⟨rfl, rfl, rfl, rfl, rfl⟩ := byts_inj h h' he
    exact hp
  · exact absurd rfl (h' _ _ _ _ _ h)
end Go.Proofs.YtcohfhclcoiigaaX
