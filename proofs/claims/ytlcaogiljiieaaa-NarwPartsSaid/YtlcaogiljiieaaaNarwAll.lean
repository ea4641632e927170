/- narw's writer: node, at any entry. -/
import Derived.Test.YtlcaogiljiieaaaNarwNode2
import Derived.Test.YtlcaogiljiieaaaNarwDir
set_option linter.unusedVariables false
set_option linter.unusedSimpArgs false
namespace Go.Proofs.YtlcaogiljiieaaaX
open Go.RowKit Go.Maps Go.Proofs.YtlcaogiljiieaaaW.PrintWords Go.Proofs.YtlcaogiljiieaaaW.PrintLast Go.Proofs.YtlcaogiljiieaaaW.PrintMore
theorem file_ba (e : EntB) : (fileL (entOf e)).map ba = fileT e := by
  obtain ⟨p, k, x, d⟩ := e
  cases x <;> rfl
theorem link_ba (e : EntB) : (linkL (entOf e)).map ba = linkT e := rfl
theorem fileT_len (e : EntB) : (fileT e).length ≤ 5 := by
  unfold fileT
  split <;> simp
theorem rest_both (cO cT cS cD cE cN cK : Tx) (fileX linkX : Ent → List Tx) : ∀ F,
    (∀ s T r, nodeW cO cT cS cD cE cN cK fileX linkX F s = some (T, r) → r <:+ s ∧ r.length < s.length) ∧
    (∀ p s U r, dirW cO cT cS cD cE cN cK fileX linkX F p s = some (U, r) → r <:+ s)
  | 0 => ⟨fun s T r h => by (rw [nodeW] at h; cases h), fun p s U r h => by (rw [dirW] at h; cases h)⟩
  | F + 1 => by
    obtain ⟨ihN, ihD⟩ := rest_both cO cT cS cD cE cN cK fileX linkX F
    constructor
    · intro s T r h
      cases s with
      | nil => rw [nodeW] at h; cases h
      | cons e s =>
        rw [nodeW] at h
        by_cases h1 : e.kind = 1
        · rw [if_pos h1] at h
          injection h with h
          injection h with _ h
          subst h
          exact ⟨List.suffix_cons _ _, by simp⟩
        · rw [if_neg h1] at h
          by_cases h2 : e.kind = 2
          · rw [if_pos h2] at h
            obtain ⟨⟨U, r3⟩, hU, hT⟩ := Option.map_eq_some_iff.mp h
            injection hT with hT1 hT2
            dsimp only at hT2
            subst hT2
            have := ihD _ _ _ _ hU
            exact ⟨this.trans (List.suffix_cons _ _), by have := this.length_le; simp; omega⟩
          · rw [if_neg h2] at h
            by_cases h3 : e.kind = 3
            · rw [if_pos h3] at h
              injection h with h
              injection h with _ h
              subst h
              exact ⟨List.suffix_cons _ _, by simp⟩
            · rw [if_neg h3] at h
              cases h
    · intro p s U r h
      cases s with
      | nil =>
        rw [dirW] at h
        injection h with h
        injection h with _ h
        subst h
        exact List.suffix_refl _
      | cons y s =>
        rw [dirW] at h
        by_cases hp : p.isPrefixOf y.path = true
        · rw [if_pos hp] at h
          obtain ⟨⟨t, r1⟩, ht, h⟩ := Option.bind_eq_some_iff.mp h
          obtain ⟨⟨u, r2⟩, hu, h⟩ := Option.map_eq_some_iff.mp h
          injection h with h1 h2
          dsimp only at h2
          subst h2
          exact (ihD _ _ _ _ hu).trans (ihN _ _ _ ht).1
        · rw [if_neg hp] at h
          injection h with h
          injection h with _ h
          subst h
          exact List.suffix_refl _
theorem dir_rest (l : List EntB) (k : Nat) (hk : k ≤ l.length) {F : Nat} {p : List UInt8} {U : List Tx} {r : List Ent} (h : dirL F p ((l.drop k).map entOf) = some (U, r)) : ∃ k3, k3 ≤ l.length ∧ k ≤ k3 ∧ r = (l.drop k3).map entOf := by
  obtain ⟨a, ha⟩ := (rest_both _ _ _ _ _ _ _ _ _ F).2 _ _ _ _ h
  have hlen := congrArg List.length ha
  rw [List.length_append, List.length_map, List.length_drop] at hlen
  refine ⟨k + a.length, by omega, by omega, ?_⟩
  have : r = (a ++ r).drop a.length := by simp
  rw [this, ha, ← List.map_drop, List.drop_drop]
theorem node_all (l : List EntB) (ad : Addr) (c : Nat) (hn : l.length ≤ 100000) (hp : ∀ e ∈ l, e.path.size ≤ 1000000) : ∀ F, NodeAt l ad c F := by
  intro F
  induction F using Nat.strongRecOn with
  | ind F ih =>
    intro W b k xs T r2 hW hk hE had hT hl
    obtain ⟨e, he⟩ : ∃ e, l[k] = e := ⟨_, rfl⟩
    have hmem : e ∈ l := he ▸ List.getElem_mem hk
    have hek : l[k]? = some e := by rw [List.getElem?_eq_getElem hk, he]
    unfold nodeL at hT
    rw [drop_at hk he] at hT
    cases F with
    | zero => rw [nodeW] at hT; cases hT
    | succ F =>
      rw [nodeW] at hT
      by_cases h1 : (entOf e).kind = 1
      · rw [if_pos h1] at hT
        injection hT with hT
        injection hT with hT1 hT2
        subst hT1
        have hx := node_1 W b (some ad) l.length c k xs hW hk hn l rfl hE e hek h1 (fileT e) ((k : Int) + 1)
          (fun W' hW' _ => file_calls W' b (some ad) l.length c _ _ hW' e (by simp; omega)) (by have := fileT_len e; omega)
        refine hx.mono (fun x W' hq => ⟨hq.1, k + 1, by omega, by omega, hT2.symm, ?_, hq.2.2⟩)
        have h9 := hq.2.1
        have e1 : xs ++ [tOpen, tType] ++ fileT e ++ [tShut] = xs ++ (nodeT tOpen.data.toList tType.data.toList tShut.data.toList (fileL (entOf e))).map ba := by
          unfold nodeT
          rw [List.map_append, List.map_append, file_ba]
          simp only [List.append_assoc]
          rfl
        rw [← e1]
        exact h9
      · rw [if_neg h1] at hT
        by_cases h2 : (entOf e).kind = 2
        · rw [if_pos h2] at hT
          obtain ⟨⟨U, r3⟩, hU, hT⟩ := Option.map_eq_some_iff.mp hT
          injection hT with hT1 hT2
          dsimp only at hT1 hT2
          subst hT2
          subst hT1
          have hlen : xs.length + (U.length + 4) ≤ 800000 := by unfold nodeT at hl; simp at hl; omega
          have hx := node_2 W b (some ad) l.length c k xs hW hk hn l rfl hE e hek h2 (tDirectory :: U.map ba) ((l.length - r3.length : Nat) : Int)
            (fun W' hW' hS => (dir_calls l ad c F (fun F2 hF2 => ih F2 (by omega)) W' b (k + 1) (xs ++ [tOpen, tType]) hW' (by omega) hn (ents_stay hE had hS.below) had e (hp e hmem) U r3 hU (by simp; omega)).mono (fun x W2 hq => by
              obtain ⟨q1, k3, hk3, _, hr, hw, hs⟩ := hq
              have hkl := congrArg List.length hr
              rw [List.length_map, List.length_drop] at hkl
              refine ⟨q1, ?_, hs⟩
              rw [show (l.length - r3.length : Nat) = k3 by omega]
              have e1 : xs ++ [tOpen, tType] ++ (tDirectory :: U.map ba) = xs ++ [tOpen, tType] ++ [tDirectory] ++ U.map ba := by simp
              rw [e1]
              exact hw)) (by simp; omega)
          have hr3 : ∃ k3, k3 ≤ l.length ∧ k < k3 ∧ r3 = (l.drop k3).map entOf := dir_rest l k.succ (by omega) hU
          obtain ⟨k3, hk3, hkk, hr⟩ := hr3
          have hkl := congrArg List.length hr
          rw [List.length_map, List.length_drop] at hkl
          refine hx.mono (fun x W' hq => ⟨hq.1, k3, hk3, hkk, hr, ?_, hq.2.2⟩)
          have h9 := hq.2.1
          rw [show (l.length - r3.length : Nat) = k3 by omega] at h9
          have e1 : xs ++ [tOpen, tType] ++ (tDirectory :: U.map ba) ++ [tShut] = xs ++ (nodeT tOpen.data.toList tType.data.toList tShut.data.toList (tDirectory.data.toList :: U)).map ba := by
            unfold nodeT
            rw [List.map_append, List.map_append]
            simp only [List.append_assoc]
            rfl
          rw [← e1]
          exact h9
        · rw [if_neg h2] at hT
          by_cases h3 : (entOf e).kind = 3
          · rw [if_pos h3] at hT
            injection hT with hT
            injection hT with hT1 hT2
            subst hT1
            have hx := node_3 W b (some ad) l.length c k xs hW hk hn l rfl hE e hek h3 (linkT e) ((k : Int) + 1)
              (fun W' hW' _ => link_calls W' b (some ad) l.length c _ _ hW' e (by simp; omega)) (by unfold linkT; simp; omega)
            refine hx.mono (fun x W' hq => ⟨hq.1, k + 1, by omega, by omega, hT2.symm, ?_, hq.2.2⟩)
            have h9 := hq.2.1
            have e1 : xs ++ [tOpen, tType] ++ linkT e ++ [tShut] = xs ++ (nodeT tOpen.data.toList tType.data.toList tShut.data.toList (linkL (entOf e))).map ba := by
              unfold nodeT
              rw [List.map_append, List.map_append, link_ba]
              simp only [List.append_assoc]
              rfl
            rw [← e1]
            exact h9
          · rw [if_neg h3] at hT
            cases hT
end Go.Proofs.YtlcaogiljiieaaaX
