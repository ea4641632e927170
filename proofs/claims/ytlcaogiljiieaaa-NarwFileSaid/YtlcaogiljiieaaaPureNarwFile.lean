/- NarwFile: the plain statement. Conditions: none but what the row tells of sizes. -/
import Derived.Test.YtlcaogiljiieaaaNarwSizes
set_option linter.unusedVariables false
set_option linter.unusedSimpArgs false
namespace Go.Proofs.Ytlcaogiljiieaaa.Pure
open Go.RowKit Go.Proofs.Ytlcaogiljiieaaa.PNarwF Go.Proofs.YtlcaogiljiieaaaW.PrintWords Go.Proofs.YtlcaogiljiieaaaW.PrintLast Go.Proofs.YtlcaogiljiieaaaW.PrintMore Go.Proofs.YtlcaogiljiieaaaX

theorem same_texts (l : List ByteArray) (hl : l.length ≤ 1000000) : Ev (fun k => chandleryref01_Texts.f k l l) true := by
  refine Ev.congr (fun k => if_pos rfl) ?_
  refine ev_go (fun i k => chandleryref01_Texts.l0 k l l (i : Int)) l.length (fun i hi k => ?_) ?_
  · show chandleryref01_Texts.l0 (k + 1) _ _ _ = _
    rw [chandleryref01_Texts.l0, if_pos (by omega), if_pos (by omega), if_pos (by omega), if_pos rfl, w1 hi (by omega)]
  · refine Ev.step (f := fun _ => some true) (fun k => ?_) (Ev.now _)
    show chandleryref01_Texts.l0 (k + 1) _ _ _ = _
    rw [chandleryref01_Texts.l0, if_neg (by omega)]
theorem one_small (d : ByteArray) (x : Bool) (hd : d.size ≤ 65536) : (∀ t ∈ [tMagic] ++ fileTexts ⟨⟨#[]⟩, 1, x, d⟩, t.size ≤ 100000000) ∧ ([tMagic] ++ fileTexts ⟨⟨#[]⟩, 1, x, d⟩).length ≤ 1000000 := by
  constructor
  · intro t ht
    cases x
    · have ht' : t ∈ [tMagic, tOpen, tType, tRegular, tContents, d, tShut] := ht
      simp only [List.mem_cons, List.not_mem_nil, or_false] at ht'
      rcases ht' with rfl | rfl | rfl | rfl | rfl | rfl | rfl <;> first | decide | omega
    · have ht' : t ∈ [tMagic, tOpen, tType, tRegular, tExecutable, ⟨#[]⟩, tContents, d, tShut] := ht
      simp only [List.mem_cons, List.not_mem_nil, or_false] at ht'
      rcases ht' with rfl | rfl | rfl | rfl | rfl | rfl | rfl | rfl | rfl <;> first | decide | omega
  · unfold fileTexts fileT enB
    cases x <;> simp
theorem awake_ev : Ev (fun k => chandlerylaw17_awake.f k) true := by
  have ht : Ev (fun k => narw_Texts.f k [⟨⟨#[]⟩, 1, false, ⟨#[97, 98, 99]⟩⟩]) ([tMagic] ++ fileTexts ⟨⟨#[]⟩, 1, false, ⟨#[97, 98, 99]⟩⟩, 0) := Ev.congr (fun k => texts_one k _ _ (by decide)) (Ev.now _)
  have hsm := one_small ⟨#[97, 98, 99]⟩ false (by decide)
  have hsum := texts_sum ⟨#[97, 98, 99]⟩ false
  have hss := size_ev _ _ _ ht hsm.1 (by rw [hsum]; decide) hsm.2
  refine Ev.bind (f := fun k t => _) ht ?_
  refine Ev.bind (f := fun k t => _) hss ?_
  refine Ev.bind (f := fun k t => _) (same_texts _ hsm.2) ?_
  refine Ev.congr (fun k => ?_) (Ev.now true)
  rw [if_pos rfl, if_pos rfl, hsum]
  rfl
theorem NarwFile : chandlerylaw17_NarwFile.Pure := by
  intro a0 a1 hsz
  by_cases hbig : (a0.size : Int) > 2000
  · exact ⟨0, if_pos hbig⟩
  refine Ev.rounds (g := fun k => chandlerylaw17_NarwFile.f k a0 a1) ?_
  have ht : Ev (fun k => narw_Texts.f k [⟨⟨#[]⟩, 1, a1, a0⟩]) ([tMagic] ++ fileTexts ⟨⟨#[]⟩, 1, a1, a0⟩, 0) := Ev.congr (fun k => texts_one k _ _ (by omega)) (Ev.now _)
  obtain ⟨hs1, hs2⟩ := one_small a0 a1 (by omega)
  have hsum := texts_sum a0 a1
  have hb : sum8 ([tMagic] ++ fileTexts ⟨⟨#[]⟩, 1, a1, a0⟩) ≤ 4000000000 := by rw [hsum]; split <;> omega
  have hss := size_ev _ _ _ ht hs1 hb hs2
  obtain ⟨r, hby, hrl⟩ := bytes_ev _ _ ht hs1 hb hs2
  generalize [tMagic] ++ fileTexts ⟨⟨#[]⟩, 1, a1, a0⟩ = ts at ht hs1 hs2 hsum hb hss hby hrl
  have hwant : wrap64 (112 + wrap64 (wrap64 (Int.tdiv (wrap64 ((a0.size : Int) + 7)) 8) * 8)) = ((112 + (a0.size + 7) / 8 * 8 : Nat) : Int) := by
    have e1 : wrap64 ((a0.size : Int) + 7) = (a0.size : Int) + 7 := w64 (by omega) (by omega)
    have e2 : Int.tdiv ((a0.size : Int) + 7) 8 = ((a0.size : Int) + 7) / 8 := Int.tdiv_eq_ediv_of_nonneg (by omega)
    have e3 : wrap64 (((a0.size : Int) + 7) / 8) = ((a0.size : Int) + 7) / 8 := w64 (by omega) (by omega)
    have e4 : wrap64 (((a0.size : Int) + 7) / 8 * 8) = ((a0.size : Int) + 7) / 8 * 8 := w64 (by omega) (by omega)
    rw [e1, e2, e3, e4, w64 (by omega) (by omega)]
    omega
  have hloop : Ev (fun k => chandlerylaw17_NarwFile.l0 k ((sum8 ts : Nat) : Int) 0 ((sum8 ts : Nat) : Int) r 0 ts 0 0 0) true := by
    have key : ∀ m i, i + m = ts.length → Ev (fun k => chandlerylaw17_NarwFile.l0 k ((sum8 ts : Nat) : Int) 0 ((sum8 ts : Nat) : Int) r 0 ts 0 ((sum8 (ts.take i) : Nat) : Int) (i : Int)) true := by
      intro m
      induction m with
      | zero =>
        intro i hi
        refine Ev.step (f := fun k => (chandlerylaw17_awake.f k).bind fun t => if t = true then some true else some false) (fun k => ?_) (Ev.bind (f := fun k t => _) awake_ev (Ev.congr (fun k => if_pos rfl) (Ev.now _)))
        show chandlerylaw17_NarwFile.l0 (k + 1) _ _ _ _ _ _ _ _ _ = _
        rw [chandlerylaw17_NarwFile.l0, if_neg (by omega), show i = ts.length by omega, List.take_length, if_pos rfl, if_pos rfl, if_pos rfl, if_pos (by rw [hrl]), if_pos rfl, beq_self_eq_true]
      | succ m ih =>
        intro i hi
        have hlt : i < ts.length := by omega
        obtain ⟨p, hp, hpl⟩ := rtext_ev ts[i] (hs1 _ (List.getElem_mem hlt))
        have h1 := sum8_take ts i hlt
        have h2 := sum8_take_le ts (i + 1)
        have hn := ih (i + 1) (by omega)
        refine Ev.step (f := fun k => (chandleryref01_Text.f k ts[i]).bind fun t => chandlerylaw17_NarwFile.l0 k ((sum8 ts : Nat) : Int) 0 ((sum8 ts : Nat) : Int) r 0 ts 0 (wrap64 (((sum8 (ts.take i) : Nat) : Int) + (t.length : Int))) ((i + 1 : Nat) : Int)) (fun k => ?_) ?_
        · show chandlerylaw17_NarwFile.l0 (k + 1) _ _ _ _ _ _ _ _ _ = _
          rw [chandlerylaw17_NarwFile.l0, if_pos (by omega), if_pos (by omega), rd_at ts i hlt, w1 hlt (by omega)]
        · refine Ev.bind (f := fun k t => _) hp ?_
          rw [show wrap64 (((sum8 (ts.take i) : Nat) : Int) + (p.length : Int)) = ((sum8 (ts.take (i + 1)) : Nat) : Int) by rw [w64 (by omega) (by omega), h1, hpl]; omega]
          exact hn
    exact key ts.length 0 (by omega)
  have hj : Ev (fun k => chandlerylaw17_NarwFile.j0 k a0 a1 ((sum8 ts : Nat) : Int) 0 ((sum8 ts : Nat) : Int)) true := by
    refine Ev.step (f := fun k => (narw_Bytes.f k [⟨⟨#[]⟩, 1, a1, a0⟩]).bind fun bt => (narw_Texts.f k [⟨⟨#[]⟩, 1, a1, a0⟩]).bind fun bu => chandlerylaw17_NarwFile.l0 k ((sum8 ts : Nat) : Int) 0 ((sum8 ts : Nat) : Int) bt.1 bt.2 bu.1 bu.2 0 0) (fun k => ?_) ?_
    · show chandlerylaw17_NarwFile.j0 (k + 1) _ _ _ _ _ = _
      rw [chandlerylaw17_NarwFile.j0]
    · refine Ev.bind (f := fun k t => _) hby ?_
      refine Ev.bind (f := fun k t => _) ht ?_
      exact hloop
  refine Ev.congr (fun k => if_neg hbig) ?_
  refine Ev.bind (f := fun k t => _) hss ?_
  rw [hwant]
  cases a1
  · rw [if_neg (by decide), Nat.add_zero] at hsum
    rw [← hsum]
    exact Ev.congr (fun k => if_neg (by decide)) hj
  · rw [if_pos rfl] at hsum
    refine Ev.congr (fun k => if_pos rfl) ?_
    rw [show wrap64 (((112 + (a0.size + 7) / 8 * 8 : Nat) : Int) + 32) = ((sum8 ts : Nat) : Int) by rw [w64 (by omega) (by omega), hsum]; omega]
    exact hj
end Go.Proofs.Ytlcaogiljiieaaa.Pure
