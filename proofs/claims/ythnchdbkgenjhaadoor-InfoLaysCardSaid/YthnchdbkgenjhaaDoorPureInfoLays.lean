/- InfoLays: the pure statement. -/
import Derived.Test.YthnchdbkgenjhaaDoorInfoAwake
import Derived.Test.YthnchdbkgenjhaaDoorQInfoLx3
set_option linter.unusedVariables false
set_option linter.unusedSimpArgs false
namespace Go.Proofs.YthnchdbkgenjhaaDoorX
open Go.RowKit Go.Proofs.YthnchdbkgenjhaaDoor.PInfoL Go.Proofs.YthnchdbkgenjhaaDoorW.PrintWords Go.Proofs.YthnchdbkgenjhaaDoorW.PrintLast Go.Proofs.YthnchdbkgenjhaaDoorW.PrintMore
theorem ev_some {α : Type} {g : Nat → Option α} {r : α} (h : Ev g r) : ∃ k, g k = some r := by
  obtain ⟨k, hk⟩ := h
  exact ⟨k, hk k (Nat.le_refl _)⟩
theorem rplain_l (h : ByteArray) (n : Int) (refs : List ByteArray) : chandleryref22_Plain.f h n refs = some (plainB h n) := by
  unfold chandleryref22_Plain.f plainB
  by_cases h1 : h.size = 32
  · rw [if_pos (by omega), decide_eq_true h1, Bool.true_and]
    by_cases h2 : 0 ≤ n
    · rw [if_pos h2, decide_eq_true h2, Bool.true_and]
    · rw [if_neg h2, decide_eq_false h2, Bool.false_and]
  · rw [if_neg (by omega), decide_eq_false h1, Bool.false_and]
theorem rvalue_f (h : ByteArray) (n : Int) (refs : List ByteArray) (hp : plainB h n = true) : chandleryref22_Value.f h n refs = some (h ++ strOfNums (val4 n)) := by
  obtain ⟨h1, h2, h3⟩ := plain_is.1 hp
  have e : [(wrap64 (Int.tdiv n 16777216)) % 256, (Int.tmod (wrap64 (Int.tdiv n 65536)) 256) % 256, (Int.tmod (wrap64 (Int.tdiv n 256)) 256) % 256, (Int.tmod n 256) % 256] = val4 n := by
    have t1 : Int.tdiv n 16777216 = n / 16777216 := Int.tdiv_eq_ediv_of_nonneg h2
    have t2 : Int.tdiv n 65536 = n / 65536 := Int.tdiv_eq_ediv_of_nonneg h2
    have t3 : Int.tdiv n 256 = n / 256 := Int.tdiv_eq_ediv_of_nonneg h2
    rw [t1, t2, t3, w64 (x := n / 16777216) (by omega) (by omega), w64 (x := n / 65536) (by omega) (by omega), w64 (x := n / 256) (by omega) (by omega), Int.tmod_eq_emod_of_nonneg (show 0 ≤ n / 65536 by omega), Int.tmod_eq_emod_of_nonneg (show 0 ≤ n / 256 by omega), Int.tmod_eq_emod_of_nonneg h2]
    unfold val4
    simp only [Int.emod_emod_of_dvd _ (Int.dvd_refl 256)]
  unfold chandleryref22_Value.f
  rw [e, Option.bind_some]
  exact if_pos (by rw [str_size, h1]; show 32 + 4 ≤ 9223372036854775807; decide)
theorem rbytes_l (name h : ByteArray) (n : Int) (refs : List ByteArray) (hf : Fine name h n refs) : chandleryref22_Bytes.f name h n refs = some (layI name (hexT h) n.toNat refs) := by
  unfold chandleryref22_Bytes.f
  have h1 := name_le hf.name_
  have h2 := hf.few
  have h3 := hf.len
  have h4 := hf.hash
  rw [if_pos ⟨⟨hf.n0, hf.n1⟩, by omega, by omega, fun s hs => by have := name_le (h2.2 s hs); omega, by omega, by omega⟩]
theorem rcheck_l (name h : ByteArray) (n : Int) (refs : List ByteArray) (h1 : name.size ≤ 1000000) (h2 : refs.length ≤ 1000000) (h3 : ∀ s ∈ refs, s.size ≤ 1000000) : chandleryref22_Check.f name h n refs = some (checkE name h n refs) := by
  unfold chandleryref22_Check.f
  rw [if_pos ⟨h1, h2, h3⟩]
theorem lays_j1 (name h : ByteArray) (n : Int) (refs : List ByteArray) : Ev (fun k => chandlerylaw22_InfoLays.j1 k name (bytesE name h n refs).1 (checkE name h n refs) false h n refs) true := by
  unfold bytesE
  by_cases hc : checkE name h n refs = 0
  · have hF := check_fine.1 hc
    have hrl := rbytes_l name h n refs hF
    rw [if_pos hc]
    refine Ev.step (f := fun k => (chandlerylaw22_awake.f k).bind fun t165 => (if t165 = true then some true else some false)) (fun k => ?_) (Ev.bind (f := fun k t => _) awake_ev (Ev.congr (fun k => if_pos rfl) (Ev.now _)))
    rw [chandlerylaw22_InfoLays.j1, if_neg Bool.false_ne_true, if_pos hc]
    congr 1
    funext t
    by_cases ht : t = true
    · rw [if_pos ht, if_pos ht, hrl, Option.bind_some, beq_self_eq_true]
    · rw [if_neg ht, if_neg ht]
  · rw [if_neg hc]
    refine Ev.step (f := fun k => (chandlerylaw22_awake.f k).bind fun t169 => (if t169 = true then some true else some false)) (fun k => ?_) (Ev.bind (f := fun k t => _) awake_ev (Ev.congr (fun k => if_pos rfl) (Ev.now _)))
    rw [chandlerylaw22_InfoLays.j1, if_neg Bool.false_ne_true, if_neg hc]
    rfl
theorem lays_ev (name h : ByteArray) (n : Int) (refs : List ByteArray) (hn : name.size ≤ 140737488355328) (hh : h.size ≤ 140737488355328) : Ev (fun k => chandlerylaw22_InfoLays.f k name h n refs) true := by
  obtain ⟨r, hr, hr2⟩ := few_ev name h n refs hn hh
  refine Ev.bind (f := fun k t => _) hr ?_
  cases r
  · exact Ev.congr (fun k => if_neg Bool.false_ne_true) (Ev.now _)
  have hf := hr2 rfl
  have h1 := hf.refs_
  have hs : ∀ s ∈ refs, s.size ≤ 1000000 := fun s hs => by have := hf.each s hs; omega
  have h2 := hf.name_
  have hbl := bytes_l name h n refs (by omega) (by omega) hs
  have hcl := check_l name h n refs (by omega) (by omega) hs
  have hrc := rcheck_l name h n refs (by omega) (by omega) hs
  refine Ev.congr (f := fun k => (chandleryref22_Same.f k h n refs h n refs).bind fun t162 => (if t162 = true then chandlerylaw22_InfoLays.j0 k name (valueE h n).1 (valueE h n).2 (bytesE name h n refs).1 (checkE name h n refs) ((bytesE name h n refs).2 != checkE name h n refs) h n refs else chandlerylaw22_InfoLays.j0 k name (valueE h n).1 (valueE h n).2 (bytesE name h n refs).1 (checkE name h n refs) true h n refs)) (fun k => ?_) ?_
  · rw [if_pos rfl, Option.bind_some, if_pos (by simp only [List.length_nil]; omega), Option.bind_some, List.nil_append, hcl, Option.bind_some, value_f, Option.bind_some, hbl, Option.bind_some, hrc, Option.bind_some]
    congr 1
    funext t
    by_cases ht : t = true
    · rw [if_pos ht, if_pos ht, if_pos rfl]
    · rw [if_neg ht, if_neg ht]
  · refine Ev.bind (f := fun k t => _) (same_yes h n refs (by omega)) (Ev.congr (fun k => if_pos rfl) ?_)
    have e : ((bytesE name h n refs).2 != checkE name h n refs) = false := by
      rw [bne_eq_false_iff_eq]
      unfold bytesE
      by_cases hc : checkE name h n refs = 0
      · rw [if_pos hc, hc]
      · rw [if_neg hc]
    rw [e]
    refine Ev.step (fun k => ?_) (lays_j1 name h n refs)
    rw [chandlerylaw22_InfoLays.j0, if_neg Bool.false_ne_true, rplain_l, Option.bind_some]
    unfold valueE
    by_cases hp : plainB h n = true
    · rw [if_pos hp, hp, if_neg (show ¬ (true != ((0 : Int) == 0)) = true by decide), if_pos rfl, rvalue_f h n refs hp, Option.bind_some, if_pos rfl]
    · have e0 : ((⟨#[]⟩ : ByteArray).toList != ([] : List UInt8)) = false := by rw [ba_toList]; rfl
      rw [if_neg hp, Bool.eq_false_iff.2 hp, if_neg (show ¬ (false != ((1 : Int) == 0)) = true by decide), if_neg (show ¬ (1 : Int) = 0 by decide), if_pos rfl]
      exact congrArg (fun b => chandlerylaw22_InfoLays.j1 k name (bytesE name h n refs).1 (checkE name h n refs) b h n refs) e0
end Go.Proofs.YthnchdbkgenjhaaDoorX
