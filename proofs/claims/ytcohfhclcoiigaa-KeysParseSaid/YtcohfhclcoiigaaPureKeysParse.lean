/- KeysParse: any bytes are read as the key that the document says, or refused: the plain statement. Conditions: none. -/
import Derived.Test.YtcohfhclcoiigaaQKeysx
import Derived.Test.YtcohfhclcoiigaaKeysRead
import Derived.Test.YtcohfhclcoiigaaKeysAwake
import Derived.Test.YtcohfhclcoiigaaKeysRefB
set_option linter.unusedVariables false
set_option linter.unusedSimpArgs false
namespace Go.Proofs.Ytcohfhclcoiigaa.Pure
open Go.RowKit Go.Proofs.Ytcohfhclcoiigaa.PKeys Go.Proofs.YtcohfhclcoiigaaW.PrintWords Go.Proofs.YtcohfhclcoiigaaW.PrintLast Go.Proofs.YtcohfhclcoiigaaW.PrintMore Go.Proofs.YtcohfhclcoiigaaX

theorem kindR_lett {k : Int} (h0 : 1 ≤ k) (h1 : k ≤ 10) : kindR (lett k) = k := by
  rcases ten h0 h1 with rfl | rfl | rfl | rfl | rfl | rfl | rfl | rfl | rfl | rfl <;> decide +kernel
theorem readV_n3 {n : Int} (h0 : 0 ≤ n) (h1 : n ≤ 16777215) (t : List UInt8) : readV (ba (n3 n ++ t)) = n := by
  have b0 : bt (ba (n3 n ++ t)) 0 = n / 65536 % 256 := (bt_ba (n3 n ++ t) 0 (by simp [n3])).trans (u8_nat (by omega) (by omega))
  have b1 : bt (ba (n3 n ++ t)) 1 = n / 256 % 256 := (bt_ba (n3 n ++ t) 1 (by simp [n3])).trans (u8_nat (by omega) (by omega))
  have b2 : bt (ba (n3 n ++ t)) 2 = n % 256 := (bt_ba (n3 n ++ t) 2 (by simp [n3])).trans (u8_nat (by omega) (by omega))
  unfold readV
  rw [b0, b1, b2]
  have e0 : wrap64 (n / 65536 % 256) = n / 65536 % 256 := w64 (by omega) (by omega)
  have e1 : wrap64 (n / 256 % 256) = n / 256 % 256 := w64 (by omega) (by omega)
  have e2 : wrap64 (n % 256) = n % 256 := w64 (by omega) (by omega)
  rw [e0, e1, e2]
  have e3 : wrap64 (65536 * (n / 65536 % 256)) = 65536 * (n / 65536 % 256) := w64 (by omega) (by omega)
  have e4 : wrap64 (256 * (n / 256 % 256)) = 256 * (n / 256 % 256) := w64 (by omega) (by omega)
  rw [e3, e4, w64 (x := 65536 * (n / 65536 % 256) + 256 * (n / 256 % 256)) (by omega) (by omega), w64 (by omega) (by omega)]
  omega
theorem cand_byts {k : Int} {A B : List UInt8} {N M : Int} (h : May k A B N M) : refCand (ba (byts k A B N M)) = some (k, ba A, ba B, N, M) := by
  have hk := kindR_lett h.range.1 h.range.2
  have ht := tail_ba (lett k) (body k A B N M)
  have hz : ¬ (ba (byts k A B N M)).size = 0 := by rw [ba_sz]; simp [byts]
  have hh : (ba (byts k A B N M)).data.toList.headD 0 = lett k := rfl
  unfold refCand
  rw [if_neg hz, hh, hk]
  unfold byts
  rw [ht]
  clear hk ht hz hh
  cases h with
  | count => rfl
  | inode N h1 h2 =>
    have hb : body 2 [] [] N 0 = n3 N ++ [] := rfl
    rw [hb, readV_n3 (by omega) (by omega)]
    rfl
  | chunk N M h1 h2 h3 h4 =>
    have hb : body 3 [] [] N M = n3 N ++ n2 M := rfl
    have b3 : bt (ba (n3 N ++ n2 M)) 3 = M / 256 % 256 := (bt_ba (n3 N ++ n2 M) 3 (by simp [n3, n2])).trans (u8_nat (by omega) (by omega))
    have b4 : bt (ba (n3 N ++ n2 M)) 4 = M % 256 := (bt_ba (n3 N ++ n2 M) 4 (by simp [n3, n2])).trans (u8_nat (by omega) (by omega))
    rw [hb, readV_n3 (by omega) (by omega), b3, b4, show 256 * (M / 256 % 256) + M % 256 = M by omega]
    rfl
  | entry A N hA h1 h2 =>
    have hb : body 4 A [] N 0 = n3 N ++ A := rfl
    have hs : ¬ (ba (n3 N ++ A)).size < 3 := by rw [ba_sz, List.length_append, n3_len]; omega
    rw [hb, readV_n3 (by omega) (by omega), if_neg (by decide), if_neg (by decide), if_neg (by decide), if_pos rfl, if_neg hs, ba_ex, ba_sz]
    have : ((n3 N ++ A).drop 3).take ((n3 N ++ A).length - 3) = A := by
      rw [List.length_append, n3_len]
      show A.take (3 + A.length - 3) = A
      rw [List.take_of_length_le (by omega)]
    rw [this]
    rfl
  | one k A hk hA => rcases hk with rfl | rfl | rfl <;> rfl
  | two k A B hk hA hB =>
    have hb : body k A B 0 0 = A ++ 0 :: B := by rcases hk with rfl | rfl <;> rfl
    have hz := zeroAt_split A B (nm_zero hA)
    have hn : ¬ zeroAt (ba (A ++ 0 :: B)).data.toList = (ba (A ++ 0 :: B)).size := by
      rw [ba_dl, hz, ba_sz, List.length_append, List.length_cons]; omega
    have x1 : (ba (A ++ 0 :: B)).extract 0 (zeroAt (ba (A ++ 0 :: B)).data.toList) = ba A := by rw [ba_dl, hz, ba_ex]; simp
    have x2 : (ba (A ++ 0 :: B)).extract (zeroAt (ba (A ++ 0 :: B)).data.toList + 1) (ba (A ++ 0 :: B)).size = ba B := by
      rw [ba_dl, hz, ba_ex, ba_sz, List.length_append, List.length_cons, show A.length + (B.length + 1) - (A.length + 1) = B.length by omega]
      simp
    rw [hb, x1, x2]
    rcases hk with rfl | rfl
    · rw [if_neg (by decide), if_neg (by decide), if_neg (by decide), if_neg (by decide), if_pos rfl, if_neg hn]
    · rw [if_neg (by decide), if_neg (by decide), if_neg (by decide), if_neg (by decide), if_neg (by decide), if_pos rfl, if_neg hn]
  | gen A N hA h1 h2 =>
    have hb : body 9 A [] N 0 = A ++ 0 :: n3 N := rfl
    have hz := zeroAt_split A (n3 N) (nm_zero hA)
    have hn : ¬ (ba (A ++ 0 :: n3 N)).size < zeroAt (ba (A ++ 0 :: n3 N)).data.toList + 4 := by
      rw [ba_dl, hz, ba_sz, List.length_append, List.length_cons, n3_len]; omega
    have x1 : (ba (A ++ 0 :: n3 N)).extract 0 (zeroAt (ba (A ++ 0 :: n3 N)).data.toList) = ba A := by rw [ba_dl, hz, ba_ex]; simp
    have x2 : (ba (A ++ 0 :: n3 N)).extract (zeroAt (ba (A ++ 0 :: n3 N)).data.toList + 1) (ba (A ++ 0 :: n3 N)).size = ba (n3 N ++ []) := by
      rw [ba_dl, hz, ba_ex, ba_sz, List.length_append, List.length_cons, n3_len, show A.length + (3 + 1) - (A.length + 1) = 3 by omega, List.append_nil]
      simp
      rfl
    rw [hb, x1, x2, readV_n3 (by omega) (by omega), if_neg (by decide), if_neg (by decide), if_neg (by decide), if_neg (by decide), if_neg (by decide), if_neg (by decide), if_pos rfl, if_neg hn]
    rfl
theorem cand_size {s : ByteArray} {c : Int × ByteArray × ByteArray × Int × Int} (h : refCand s = some c) : c.2.1.size ≤ s.size ∧ c.2.2.1.size ≤ s.size := by
  have e : ∀ (a : ByteArray) (i j : Nat), (a.extract i j).size ≤ a.size := ext_le
  have e1 := e s 1 s.size
  have z : (⟨#[]⟩ : ByteArray).size ≤ s.size := Nat.zero_le _
  unfold refCand at h
  generalize s.extract 1 s.size = rest at e1 h
  repeat' split at h
  all_goals first | (cases h; done) | skip
  all_goals cases h
  all_goals dsimp only
  all_goals refine ⟨?_, ?_⟩
  all_goals first | with_reducible exact z | with_reducible exact e1 | with_reducible exact Nat.le_trans (e _ _ _) e1

theorem KeysParse : chandlerylaw11_KeysParse.Pure := by
  intro a0 _
  obtain ⟨s, rfl⟩ := ba_of a0
  obtain ⟨K, hK⟩ := awake_ev
  simp only [] at hK
  refine ⟨K + s.length + s.length + 20, ?_⟩
  unfold chandlerylaw11_KeysParse.f
  by_cases hl : ((ba s).size : Int) > 1000
  · rw [if_pos hl]
  rw [if_neg hl]
  have hsz : s.length ≤ 1000 := by rw [ba_sz] at hl; omega
  have aw := hK (K + s.length + s.length + 20) (by omega)
  rcases parse_f s (by omega) (K + s.length + s.length + 19) with ⟨k, A, B, N, M, hm, hs, hp⟩ | ⟨hno, hp⟩
  · have hA : A.length ≤ 1000000 := by
      have e := cand_size (cand_byts hm)
      rw [← hs] at e
      simp only [ba_sz] at e
      omega
    have hB : B.length ≤ 1000000 := by
      have e := cand_size (cand_byts hm)
      rw [← hs] at e
      simp only [ba_sz] at e
      omega
    have hAB : A.length + B.length ≤ s.length + s.length := by
      have e := cand_size (cand_byts hm)
      rw [← hs] at e
      simp only [ba_sz] at e
      omega
    have hr : chandleryref11_Parse.f (K + s.length + s.length + 20) (ba s) = some (k, ba A, ba B, N, M, true) := by
      unfold chandleryref11_Parse.f
      rw [if_pos (by rw [ba_sz]; omega), hs, cand_byts hm, ← hs]
      simp only []
      rw [May_f hA hB _ (by omega), (mayB_iff _ _ _ _ _).2 hm]
      simp only [Option.bind_some, ↓reduceIte]
      rw [refBytes_f hm, ← hs]
      simp
    rw [show K + s.length + s.length + 19 + 1 = K + s.length + s.length + 20 by omega] at hp
    rw [hp, hr]
    simp only [Option.bind_some, ↓reduceIte, aw]
    simp
  · have hr : chandleryref11_Parse.f (K + s.length + s.length + 20) (ba s) = some (0, ba [], ba [], 0, 0, false) := by
      unfold chandleryref11_Parse.f
      rw [if_pos (by rw [ba_sz]; omega)]
      cases hc : refCand (ba s) with
      | none => rfl
      | some c =>
        have hz := cand_size hc
        obtain ⟨k, A, B, N, M⟩ := c
        obtain ⟨A, rfl⟩ := ba_of A
        obtain ⟨B, rfl⟩ := ba_of B
        simp only [ba_sz] at hz
        simp only []
        rw [May_f (by omega) (by omega) _ (by omega)]
        simp only [Option.bind_some]
        by_cases hm : mayB k A B N M = true
        · have hm2 := (mayB_iff _ _ _ _ _).1 hm
          rw [if_pos hm, show K + s.length + s.length + 20 = (K + s.length + s.length + 19) + 1 by omega, refBytes_f hm2]
          simp only [Option.bind_some, ba_tl]
          rw [if_neg fun e => hno _ _ _ _ _ hm2 e.symm]
          rfl
        · rw [if_neg hm]
          rfl
    rw [show K + s.length + s.length + 19 + 1 = K + s.length + s.length + 20 by omega] at hp
    rw [hp, hr]
    simp [aw, ba_tl]
end Go.Proofs.Ytcohfhclcoiigaa.Pure
