/- Plain laws on keys: what the reference's Bytes and Prefix answer. -/
import Derived.Test.YtcohfhclcoiigaaKeysRef
set_option linter.unusedVariables false
set_option linter.unusedSimpArgs false
namespace Go.Proofs.YtcohfhclcoiigaaX
open Go.RowKit Go.Proofs.Ytcohfhclcoiigaa.PKeys Go.Proofs.YtcohfhclcoiigaaW.PrintWords Go.Proofs.YtcohfhclcoiigaaW.PrintLast Go.Proofs.YtcohfhclcoiigaaW.PrintMore

theorem ref_letter {k : Int} (h0 : 1 ≤ k) (h1 : k ≤ 10) : (⟨#[32, 110, 105, 99, 100, 112, 114, 117, 102, 103, 116]⟩ : ByteArray).extract (k : Int).toNat ((wrap64 (k + 1)) : Int).toNat = ba [lett k] := by
  rcases ten h0 h1 with rfl | rfl | rfl | rfl | rfl | rfl | rfl | rfl | rfl | rfl <;> decide +kernel

theorem refBytes_f {k : Int} {A B : List UInt8} {N M : Int} (h : May k A B N M) (f : Nat) : chandleryref11_Bytes.f (f + 1) k (ba A) (ba B) N M = some (ba (byts k A B N M)) := by
  have hr := h.range
  have hl := ref_letter hr.1 hr.2
  have w1 : wrap64 (k + 1) = k + 1 := w64 (by omega) (by omega)
  unfold chandleryref11_Bytes.f
  rw [hl, if_pos (by omega), if_pos (by omega), if_pos (by omega)]
  have hm : ∀ M : Int, 0 ≤ M → M ≤ 65535 → strOfNums [(wrap64 (Int.tdiv M 256)) % 256, (Int.tmod M 256) % 256] = ba (n2 M) := fun M h0 h1 => by
    rw [Int.tdiv_eq_ediv_of_nonneg h0, w64 (by omega) (by omega), Int.tmod_eq_emod_of_nonneg h0, nums_ba]
    simp [n2]
  cases h with
  | count => simp [chandleryref11_Bytes.j0, ba_app, ba_sz, ba_nil, byts, body]
  | inode N h1 h2 =>
    have h3 := three_f N (by omega) (by omega)
    simp [h3, ba_app, ba_sz, n3_len, byts, body]
  | chunk N M h1 h2 h4 h5 =>
    have h3 := three_f N (by omega) (by omega)
    simp [h3, ba_app, ba_sz, n3_len, n2_len, byts, body, hm M h4 h5]
  | entry A N hA h1 h2 =>
    have := hA.2.1
    have h3 := three_f N (by omega) (by omega)
    simp (disch := omega) [h3, ba_app, ba_sz, n3_len, if_pos, byts, body]
  | one k A hk hA =>
    have := hA.2.1
    rcases hk with rfl | rfl | rfl <;> simp (disch := omega) [chandleryref11_Bytes.j0, ba_app, ba_sz, if_pos, byts, body]
  | two k A B hk hA hB =>
    have := hA.2.1
    have := hB.2.1
    rcases hk with rfl | rfl <;> simp (disch := omega) [chandleryref11_Bytes.j0, ba_zero, ba_app, ba_sz, if_pos, byts, body]
  | gen A N hA h1 h2 =>
    have := hA.2.1
    have h3 := three_f N (by omega) (by omega)
    simp (disch := omega) [chandleryref11_Bytes.j0, h3, ba_zero, ba_app, ba_sz, n3_len, if_pos, byts, body]

end Go.Proofs.YtcohfhclcoiigaaX
