/- wire.At, wire.TextAt: what they answer, told by getN and getT: plain laws, no walk. -/
import Derived.Test.YthnchdbkgenjhaaDoorInfoSt
import Derived.Test.YthnchdbkgenjhaaDoorEvFind
import Derived.Test.YthnchdbkgenjhaaDoorQInfoAx4
set_option linter.unusedVariables false
set_option linter.unusedSimpArgs false
namespace Go.Proofs.YthnchdbkgenjhaaDoorX
open Go.RowKit Go.Proofs.YthnchdbkgenjhaaDoor.PInfoA Go.Proofs.YthnchdbkgenjhaaDoorW.PrintWords Go.Proofs.YthnchdbkgenjhaaDoorW.PrintLast Go.Proofs.YthnchdbkgenjhaaDoorW.PrintMore
theorem ne7 : (7 : Int) ≠ 0 := by decide
theorem ne2 : (2 : Int) ≠ 0 := by decide
theorem ne4 : (4 : Int) ≠ 0 := by decide
theorem wraps_u64 (n : Int) (h0 : 0 ≤ n) (h1 : n < 2 ^ 64) : IntKind.u64.wrap n = n := by
  simp [IntKind.wrap, IntKind.bits, IntKind.signed]
  omega
theorem orU64 {x y : Int} (hx0 : 0 ≤ x) (hx1 : x < 72057594037927936) (hy0 : 0 ≤ y) (hy : y < 256) : Go.bits .or .u64 (IntKind.u64.wrap (x * 256)) (IntKind.u64.wrap y) = y + 256 * x := by
  rw [wraps_u64 (x * 256) (by omega) (by omega), wraps_u64 y hy0 (by omega), bits_join .u64 64 (by decide) wraps_u64 8 (x * 256) y (by omega) (by omega) (show x * 256 < 2 ^ 64 by omega) hy0 (show y < 2 ^ 8 by omega) (show y < 2 ^ 64 by omega)]
  omega
def valJ (b : List Int) (i j : Nat) : Int := leV ((b.drop (i + j)).take (8 - j))
theorem valJ_step (b : List Int) (i j : Nat) (hj : j < 8) (hi : i + 8 ≤ b.length) : valJ b i j = b[i + j]'(by omega) + 256 * valJ b i (j + 1) := by
  unfold valJ
  rw [List.drop_eq_getElem_cons (show i + j < b.length by omega), show 8 - j = (8 - (j + 1)) + 1 by omega, List.take_succ_cons, leV]
  rfl
theorem valJ_bd (b : List Int) (i j : Nat) (hb : okB b) (hj : 1 ≤ j) : 0 ≤ valJ b i j ∧ valJ b i j < 72057594037927936 := by
  have h1 : okB ((b.drop (i + j)).take (8 - j)) := okB_take (okB_drop hb _) _
  refine ⟨leV_nn _ h1, Int.lt_of_lt_of_le (leV_lt _ h1) ?_⟩
  have h2 : ((b.drop (i + j)).take (8 - j)).length ≤ 7 := by rw [List.length_take]; omega
  have h3 : 256 ^ ((b.drop (i + j)).take (8 - j)).length ≤ 256 ^ 7 := Nat.pow_le_pow_right (by decide) h2
  have h4 : (256 : Nat) ^ 7 = 72057594037927936 := by decide
  omega
theorem rd_at (b : List Int) (i : Nat) (hi : i < b.length) : rd b (i : Int) = b[i] := by
  unfold rd
  rw [Int.toNat_natCast, List.getD_eq_getElem?_getD, List.getElem?_eq_getElem hi]
  rfl
theorem at_loop (b : List Int) (i : Nat) (hb : okB b) (hi : i + 8 ≤ b.length) (hl : b.length ≤ 1000000) : ∀ m j : Nat, m = j → j ≤ 8 → Ev (fun k => wire_At.l0 k b (i : Int) (valJ b i j) ((j : Int) - 1)) (if valJ b i 0 > 2147483647 then (0, 0, 2) else (valJ b i 0, ((i + 8 : Nat) : Int), 0))
  | 0, j, hj, _ => by
    subst hj
    refine Ev.step (f := fun _ => some _) (fun k => ?_) (Ev.now _)
    show wire_At.l0 (k + 1) _ _ _ _ = _
    rw [wire_At.l0, if_neg (by omega)]
    by_cases h : valJ b i 0 > 2147483647
    · rw [if_pos h, if_pos h]
    · rw [if_neg h, if_neg h]
      have h0 : 0 ≤ valJ b i 0 := leV_nn _ (okB_take (okB_drop hb _) _)
      rw [w64 (x := valJ b i 0) (by omega) (by omega), w64 (x := (i : Int) + 8) (by omega) (by omega)]
      rfl
  | m + 1, j, hj, h8 => by
    obtain ⟨j', rfl⟩ : ∃ j', j = j' + 1 := ⟨j - 1, by omega⟩
    have ih := at_loop b i hb hi hl m j' (by omega) (by omega)
    refine Ev.step (fun k => ?_) ih
    show wire_At.l0 (k + 1) _ _ _ _ = _
    have e0 : ((j' + 1 : Nat) : Int) - 1 = (j' : Int) := by omega
    have e1 : wrap64 ((i : Int) + (j' : Int)) = ((i + j' : Nat) : Int) := by rw [w64 (by omega) (by omega)]; omega
    have hbd := valJ_bd b i (j' + 1) hb (by omega)
    have hby := hb (b[i + j']'(by omega)) (List.getElem_mem _)
    rw [e0, wire_At.l0, if_pos (by omega), e1, if_pos (by omega), if_pos (by omega), rd_at b (i + j') (by omega), orU64 hbd.1 hbd.2 hby.1 (by omega), ← valJ_step b i j' (by omega) hi, w64 (x := (j' : Int) - 1) (by omega) (by omega)]
theorem at_ev (b : List Int) (i : Nat) (hb : okB b) (hi : i ≤ b.length) (hl : b.length ≤ 1000000) : ∃ r1 r2 e, Ev (fun k => wire_At.f k b (i : Int)) (r1, r2, e) ∧ (match getN (b.drop i) with | some (n, _) => r1 = (n : Int) ∧ r2 = ((i + 8 : Nat) : Int) ∧ e = 0 | none => e ≠ 0) := by
  have hlen : (b.drop i).length = b.length - i := List.length_drop
  unfold getN
  by_cases h8 : b.length - i < 8
  · rw [if_pos (by omega)]
    refine ⟨0, 0, 7, Ev.congr (f := fun _ => some (0, 0, 7)) (fun k => ?_) (Ev.now _), ne7⟩
    unfold wire_At.f
    rw [if_neg (by omega), w64 (by omega) (by omega), if_pos (by omega)]
  · rw [if_neg (by omega)]
    have h0 : valJ b i 0 = leV ((b.drop i).take 8) := rfl
    have hs : ∀ v, Ev (fun k => wire_At.l0 k b (i : Int) (valJ b i 8) (((8 : Nat) : Int) - 1)) v → Ev (fun k => wire_At.f k b (i : Int)) v := fun v h => Ev.congr (fun k => by
      unfold wire_At.f
      rw [if_neg (by omega), w64 (by omega) (by omega), if_neg (by omega)]
      rfl) h
    have hloop := hs _ (at_loop b i hb (by omega) hl 8 8 rfl (Nat.le_refl _))
    rw [h0] at hloop
    have hnn := leV_nn _ (okB_take (okB_drop hb i) 8)
    by_cases hbig : leV ((b.drop i).take 8) ≤ 2147483647
    · rw [if_neg (by omega)] at hloop
      rw [if_pos hbig]
      exact ⟨_, _, _, hloop, by omega, rfl, rfl⟩
    · rw [if_pos (by omega)] at hloop
      rw [if_neg hbig]
      exact ⟨_, _, _, hloop, ne2⟩
theorem pad_ev (n : Nat) (hn : n ≤ 2147483647) : wire_pad.f (n : Int) = some (((8 - n % 8) % 8 : Nat) : Int) := by
  unfold wire_pad.f
  have e1 : Int.tmod (n : Int) 8 = (n : Int) % 8 := Int.tmod_eq_emod_of_nonneg (by omega)
  have e2 : wrap64 (8 - (n : Int) % 8) = 8 - (n : Int) % 8 := w64 (by omega) (by omega)
  have e3 : Int.tmod (8 - (n : Int) % 8) 8 = (8 - (n : Int) % 8) % 8 := Int.tmod_eq_emod_of_nonneg (by omega)
  rw [e1, e2, e3]
  congr 1
  omega
theorem text_ev (b : List Int) (i : Nat) (hb : okB b) (hi : i ≤ b.length) (hl : b.length ≤ 1000000) : ∃ r1 r2 e, Ev (fun k => wire_TextAt.f k b (i : Int)) (r1, r2, e) ∧ (match getT (b.drop i) with | some (s, r) => r1 = s ∧ r2 = ((b.length - r.length : Nat) : Int) ∧ e = 0 ∧ r.length ≤ b.length ∧ r = b.drop (b.length - r.length) | none => r1 = ⟨#[]⟩ ∧ e ≠ 0) := by
  obtain ⟨r1, r2, e, he, hm⟩ := at_ev b i hb hi hl
  unfold getT
  cases hn : getN (b.drop i) with
  | none =>
    rw [hn] at hm
    exact ⟨⟨#[]⟩, 0, e, Ev.bind (f := fun k t => _) he (Ev.congr (fun k => if_neg hm) (Ev.now _)), rfl, hm⟩
  | some p =>
    obtain ⟨n, r⟩ := p
    rw [hn] at hm
    obtain ⟨rfl, rfl, rfl⟩ := hm
    dsimp only
    obtain ⟨hb8, hn2⟩ := getN_is (okB_drop hb i) hn
    have hr : r = b.drop (i + 8) := by
      have := congrArg (List.drop 8) hb8
      rw [List.drop_left' (num8_len n), List.drop_drop] at this
      exact this.symm
    have hlen : (b.drop i).length = b.length - i := List.length_drop
    have hlr : i + 8 + r.length = b.length := by
      have := congrArg List.length hb8
      rw [List.length_append, num8_len, hlen] at this
      omega
    obtain ⟨pd, hpd⟩ : ∃ pd, (8 - n % 8) % 8 = pd := ⟨_, rfl⟩
    have hnp : (n + 7) / 8 * 8 = n + pd := by omega
    have hpad := pad_ev n hn2
    rw [hpd] at hpad
    have he1 : wrap64 (((i + 8 + n : Nat) : Int) + ((pd : Nat) : Int)) = ((i + 8 + n + pd : Nat) : Int) := by rw [w64 (by omega) (by omega)]; omega
    obtain ⟨hend, e2, e3⟩ : wrap64 (((i + 8 : Nat) : Int) + (n : Int)) = ((i + 8 + n : Nat) : Int) ∧ wrap64 ((b.length : Int) - ((i + 8 : Nat) : Int)) = (b.length : Int) - ((i + 8 : Nat) : Int) ∧ wrap64 ((b.length : Int) - ((i + 8 + n : Nat) : Int)) = (b.length : Int) - ((i + 8 + n : Nat) : Int) := by
      clear he1
      exact ⟨by rw [w64 (by omega) (by omega)]; omega, w64 (by omega) (by omega), w64 (by omega) (by omega)⟩
    have hbad : Ev (fun k => wire_TextAt.j0 k b (n : Int) ((i + 8 : Nat) : Int) ((i + 8 + n : Nat) : Int) true) (⟨#[]⟩, 0, 7) := Ev.step (f := fun _ => some _) (fun k => by rw [wire_TextAt.j0, if_pos rfl]) (Ev.now _)
    rw [hnp]
    have hstart : ∀ v, Ev (fun k => if (n : Int) > ((b.length : Int) - ((i + 8 : Nat) : Int)) then (wire_TextAt.j0 k b (n : Int) ((i + 8 : Nat) : Int) ((i + 8 + n : Nat) : Int) true) else ((wire_pad.f (n : Int)).bind fun t193 => (wire_TextAt.j0 k b (n : Int) ((i + 8 : Nat) : Int) ((i + 8 + n : Nat) : Int) (decide (t193 > ((b.length : Int) - ((i + 8 + n : Nat) : Int))))))) v → Ev (fun k => wire_TextAt.f k b (i : Int)) v := fun v h => Ev.bind (f := fun k t => _) he (Ev.congr (fun k => by rw [if_pos rfl, e2, hend, e3]) h)
    have HE := Aside0.mk he1
    clear he1 hend e2 e3
    by_cases hsh : r.length < n + pd
    · rw [if_pos hsh]
      refine ⟨⟨#[]⟩, 0, 7, hstart _ ?_, rfl, ne7⟩
      by_cases h1 : (n : Int) > ((b.length : Int) - ((i + 8 : Nat) : Int))
      · refine Ev.congr (fun k => by rw [if_pos h1]) hbad
      · refine Ev.congr (fun k => by rw [if_neg h1, hpad, Option.bind_some, decide_eq_true (by omega)]) hbad
    · rw [if_neg hsh]
      have hz : (b.take (i + 8 + n + pd)).drop (i + 8 + n) = (r.take (n + pd)).drop n := by
        rw [hr, List.take_drop, List.drop_drop, show i + 8 + (n + pd) = i + 8 + n + pd by omega]
      have hs : (b.take (i + 8 + n)).drop (i + 8) = r.take n := by rw [hr, List.take_drop]
      have hzl : ((r.take (n + pd)).drop n).length = pd := by rw [List.length_drop, List.length_take]; omega
      obtain ⟨zs, hzs⟩ : ∃ zs, (r.take (n + pd)).drop n = zs := ⟨_, rfl⟩
      rw [hzs] at hz hzl ⊢
      have hgo : ∀ v, Ev (fun k => wire_TextAt.l0 k b (n : Int) ((i + 8 : Nat) : Int) ((i + 8 + n : Nat) : Int) zs (zs.length : Int) ((0 : Nat) : Int)) v → Ev (fun k => wire_TextAt.f k b (i : Int)) v := fun v h => hstart v (Ev.congr (f := fun k => wire_TextAt.j0 k b (n : Int) ((i + 8 : Nat) : Int) ((i + 8 + n : Nat) : Int) false) (fun k => by
          rw [if_neg (by omega), hpad, Option.bind_some, decide_eq_false (by omega)]) (Ev.step (fun k => by
          rw [wire_TextAt.j0, if_neg Bool.false_ne_true, hpad, Option.bind_some, if_pos (by omega), HE.out, if_pos (by omega), if_pos (by omega), Int.toNat_natCast, Int.toNat_natCast, hz]
          rfl) h))
      have hstep : ∀ j (hj : j < zs.length) k, wire_TextAt.l0 (k + 1) b (n : Int) ((i + 8 : Nat) : Int) ((i + 8 + n : Nat) : Int) zs (zs.length : Int) (j : Int) = if zs[j] = 0 then wire_TextAt.l0 k b (n : Int) ((i + 8 : Nat) : Int) ((i + 8 + n : Nat) : Int) zs (zs.length : Int) ((j + 1 : Nat) : Int) else some (⟨#[]⟩, 0, 4) := fun j hj k => by
        rw [wire_TextAt.l0, if_pos (by omega), if_pos (by omega), if_pos (by omega), rd_at zs j hj, w1 hj (by omega)]
      have hend2 : Ev (fun k => wire_TextAt.l0 k b (n : Int) ((i + 8 : Nat) : Int) ((i + 8 + n : Nat) : Int) zs (zs.length : Int) ((zs.length : Nat) : Int)) (strOfNums (r.take n), ((i + 8 + n + pd : Nat) : Int), 0) := Ev.step (f := fun _ => some _) (fun k => by
        rw [wire_TextAt.l0, if_neg (by omega), if_pos (by omega), if_pos (by omega), if_pos (by omega), hpad, Option.bind_some, Int.toNat_natCast, Int.toNat_natCast, hs, HE.out]) (Ev.now _)
      by_cases hall : zs.all (fun x => x == 0) = true
      · rw [if_pos hall]
        refine ⟨_, _, _, hgo _ (ev_miss (fun j k => wire_TextAt.l0 k b (n : Int) ((i + 8 : Nat) : Int) ((i + 8 + n : Nat) : Int) zs (zs.length : Int) (j : Int)) zs.length (fun j hj v hv => ?_) hend2 0 (Nat.zero_le _)), rfl, ?_, rfl, ?_, ?_⟩
        · have h0 : zs[j] = 0 := by
            have := List.all_eq_true.1 hall _ (List.getElem_mem hj)
            simpa using this
          exact Ev.step (fun k => by rw [hstep j hj, if_pos h0]) hv
        · rw [List.length_drop]; omega
        · rw [List.length_drop]; omega
        · rw [List.length_drop, hr, List.drop_drop]
          congr 1
          rw [← hr]
          omega
      · rw [if_neg hall]
        refine ⟨⟨#[]⟩, 0, 4, hgo _ (ev_hit (fun j k => wire_TextAt.l0 k b (n : Int) ((i + 8 : Nat) : Int) ((i + 8 + n : Nat) : Int) zs (zs.length : Int) (j : Int)) zs.length (fun j => match zs[j]? with | some x => x != 0 | none => false) (fun j hj hh v hv => ?_) (fun j hj hh => ?_) ?_), rfl, ne4⟩
        · rw [List.getElem?_eq_getElem hj] at hh
          have h0 : zs[j] = 0 := by simpa using hh
          exact Ev.step (fun k => by rw [hstep j hj, if_pos h0]) hv
        · rw [List.getElem?_eq_getElem hj] at hh
          have h0 : ¬ zs[j] = 0 := by simpa using hh
          exact Ev.step (f := fun _ => some _) (fun k => by rw [hstep j hj, if_neg h0]) (Ev.now _)
        · have h1 := List.all_eq_false.1 (Bool.eq_false_iff.2 hall)
          obtain ⟨x, hx, h2⟩ := h1
          obtain ⟨j, hj, rfl⟩ := List.mem_iff_getElem.1 hx
          exact ⟨j, hj, by rw [List.getElem?_eq_getElem hj]; simpa using h2⟩
end Go.Proofs.YthnchdbkgenjhaaDoorX
