/- What the writer of a tree lays down, and that it is the document's: plain Lean, no program. -/
import Derived.Test.YtlcaogiljiieaaaParts
set_option linter.unusedVariables false
namespace Go.Proofs.YtlcaogiljiieaaaX
abbrev Tx := List UInt8
def ahead (p : List UInt8) : List UInt8 := if p = [] then [] else p ++ [47]
section
variable (cO cT cS cD cE cN cK : Tx) (fileX linkX : Ent → List Tx)
/-- cO '(', cT 'type', cS ')', cD 'directory', cE 'entry', cN 'name', cK 'node'. -/
def nodeT (U : List Tx) : List Tx := [cO, cT] ++ U ++ [cS]
mutual
def nodeW : Nat → List Ent → Option (List Tx × List Ent)
  | 0, _ => none
  | _ + 1, [] => none
  | n + 1, e :: r => if e.kind = 1 then some (nodeT cO cT cS (fileX e), r) else if e.kind = 2 then (dirW n (ahead e.path) r).map (fun t => (nodeT cO cT cS (cD :: t.1), t.2)) else if e.kind = 3 then some (nodeT cO cT cS (linkX e), r) else none
def dirW : Nat → List UInt8 → List Ent → Option (List Tx × List Ent)
  | 0, _, _ => none
  | _ + 1, _, [] => some ([], [])
  | n + 1, p, y :: s => if p.isPrefixOf y.path = true then (nodeW n (y :: s)).bind fun t => (dirW n p t.2).map fun u => ([cE, cO, cN, y.path.drop p.length, cK] ++ t.1 ++ [cS] ++ u.1, u.2) else some ([], y :: s)
end
def childB (e x : Ent) : Bool := desc e.nm x.nm && x.nm.dropLast == e.nm
def lastName (x : Ent) : Tx := x.nm.getLast?.getD []
inductive Ref (l : List Ent) : (Ent ⊕ List Ent) → List Tx → Prop
  | file {e} : e.kind = 1 → Ref l (.inl e) (nodeT cO cT cS (fileX e))
  | link {e} : e.kind = 3 → Ref l (.inl e) (nodeT cO cT cS (linkX e))
  | dir {e U} : e.kind = 2 → Ref l (.inr (l.filter (childB e))) U → Ref l (.inl e) (nodeT cO cT cS (cD :: U))
  | nil : Ref l (.inr []) []
  | cons {x xs t u} : x ∈ l → Ref l (.inl x) t → Ref l (.inr xs) u → Ref l (.inr (x :: xs)) ([cE, cO, cN, lastName x, cK] ++ t ++ [cS] ++ u)
end
theorem nm_nil {x : Ent} : x.nm = [] ↔ x.path = [] := by
  unfold Ent.nm pnames
  constructor
  · intro h
    by_cases hp : x.path = []
    · exact hp
    · rw [if_neg hp] at h; exact absurd h (parts_ne _)
  · intro h; rw [if_pos h]
theorem nm_cons {x : Ent} (h : x.path ≠ []) : x.nm = parts x.path := by unfold Ent.nm pnames; rw [if_neg h]
/-- The prefix of a path's text is the row of its names. -/
theorem ahead_desc {e y : Ent} (hy : y.path ≠ []) : (ahead e.path).isPrefixOf y.path = desc e.nm y.nm := by
  rw [Bool.eq_iff_iff, List.isPrefixOf_iff_prefix, desc_iff]
  unfold ahead
  by_cases he : e.path = []
  · rw [if_pos he, nm_nil.2 he]
    exact ⟨fun _ => ⟨y.nm, fun h => hy (nm_nil.1 h), rfl⟩, fun _ => List.nil_prefix⟩
  · rw [if_neg he, nm_cons he, nm_cons hy]
    constructor
    · rintro ⟨t, ht⟩
      refine ⟨parts t, parts_ne t, ?_⟩
      rw [← ht, List.append_assoc]
      exact parts_app e.path t
    · rintro ⟨t, ht, h⟩
      refine ⟨glue t, ?_⟩
      have h2 := glue_parts y.path
      rw [h, glue_app _ _ (parts_ne _) ht, glue_parts] at h2
      rw [← h2]
      simp
theorem child_name {e y : Ent} (h : childB e y = true) : y.path.drop (ahead e.path).length = lastName y := by
  unfold childB at h
  rw [Bool.and_eq_true, beq_iff_eq] at h
  obtain ⟨h1, h2⟩ := h
  obtain ⟨t, ht, h3⟩ := desc_iff.1 h1
  have hy : y.path ≠ [] := fun hc => by rw [nm_nil.2 hc] at h3; simp at h3; exact ht h3.2
  have hne : y.nm ≠ [] := fun hc => hy (nm_nil.1 hc)
  have hz : y.nm = e.nm ++ [y.nm.getLast hne] := by rw [← h2, List.dropLast_concat_getLast]
  unfold lastName
  rw [List.getLast?_eq_some_getLast hne, Option.getD_some]
  generalize y.nm.getLast hne = z at hz
  unfold ahead
  by_cases he : e.path = []
  · rw [if_pos he]
    rw [nm_nil.2 he, nm_cons hy] at hz
    have := glue_parts y.path
    rw [hz] at this
    simpa [glue] using this.symm
  · rw [if_neg he]
    rw [nm_cons he, nm_cons hy] at hz
    have := glue_parts y.path
    rw [hz, glue_app _ _ (parts_ne _) (by simp), glue_parts] at this
    rw [← this]
    simp [glue]
theorem child_desc {e y : Ent} (h : childB e y = true) : desc e.nm y.nm = true := by
  unfold childB at h
  rw [Bool.and_eq_true] at h
  exact h.1
theorem not_child {e y m : Ent} (h : childB e y = true) (hm : desc y.nm m.nm = true) : childB e m = false := by
  unfold childB at *
  rw [Bool.and_eq_true, beq_iff_eq] at h
  obtain ⟨h1, h2⟩ := h
  obtain ⟨t, ht, h3⟩ := desc_iff.1 hm
  obtain ⟨t', ht', h4⟩ := desc_iff.1 h1
  cases hc : desc e.nm m.nm && m.nm.dropLast == e.nm
  · rfl
  · rw [Bool.and_eq_true, beq_iff_eq] at hc
    have h5 := congrArg List.length hc.2
    have h6 := congrArg List.length h3
    have h7 := congrArg List.length h2
    rw [List.length_dropLast] at h5 h7
    rw [List.length_append] at h6
    have h8 : 0 < t.length := List.length_pos_iff.2 ht
    have h9 := congrArg List.length h4
    rw [List.length_append] at h9
    have h10 : 0 < t'.length := List.length_pos_iff.2 ht'
    omega
theorem walkW (cO cT cS cD cE cN cK : Tx) (fileX linkX : Ent → List Tx) {l : List Ent} (h : Tree l) (hk : ∀ e ∈ l, e.kind = 1 ∨ e.kind = 2 ∨ e.kind = 3) : ∀ L,
    (∀ pre e r, l = pre ++ e :: r → r.length + 1 ≤ L → ∀ F, 2 * L ≤ F → ∃ T, nodeW cO cT cS cD cE cN cK fileX linkX F (e :: r) = some (T, r.dropWhile fun x => desc e.nm x.nm) ∧ Ref cO cT cS cD cE cN cK fileX linkX l (.inl e) T) ∧
    (∀ pre e mid s, l = pre ++ e :: (mid ++ s) → e.kind = 2 → s.length ≤ L → (∀ y s', s = y :: s' → ∀ m ∈ mid, desc m.nm y.nm = false) → ∀ F, 2 * L + 1 ≤ F → ∃ U, dirW cO cT cS cD cE cN cK fileX linkX F (ahead e.path) s = some (U, s.dropWhile fun x => desc e.nm x.nm) ∧ Ref cO cT cS cD cE cN cK fileX linkX l (.inr (s.filter (childB e))) U)
  | 0 => by
    refine ⟨fun pre e r hl hr => absurd hr (by omega), fun pre e mid s hl hke hs _ F hF => ?_⟩
    obtain ⟨F, rfl⟩ : ∃ m, F = m + 1 := ⟨F - 1, by omega⟩
    cases s with
    | nil => exact ⟨[], by rw [dirW]; rfl, .nil⟩
    | cons y s => simp at hs
  | L + 1 => by
    obtain ⟨ihN, ihD⟩ := walkW cO cT cS cD cE cN cK fileX linkX h hk L
    have hN : ∀ pre e r, l = pre ++ e :: r → r.length + 1 ≤ L + 1 → ∀ F, 2 * (L + 1) ≤ F → ∃ T, nodeW cO cT cS cD cE cN cK fileX linkX F (e :: r) = some (T, r.dropWhile fun x => desc e.nm x.nm) ∧ Ref cO cT cS cD cE cN cK fileX linkX l (.inl e) T := by
      intro pre e r hl hr F hF
      obtain ⟨F, rfl⟩ : ∃ m, F = m + 1 := ⟨F - 1, by omega⟩
      have hstay : e.kind ≠ 2 → (r.dropWhile fun x => desc e.nm x.nm) = r := by
        intro hne
        cases r with
        | nil => rfl
        | cons y s =>
          rw [List.dropWhile_cons_of_neg]
          intro hd
          exact hne (h.top (mid := []) hl hd (by simp)).2
      rcases hk e (by rw [hl]; simp) with h1 | h1 | h1
      · exact ⟨_, by rw [nodeW, if_pos h1, hstay (by omega)], .file h1⟩
      · obtain ⟨U, hU, hR⟩ := ihD pre e [] r (by simpa using hl) h1 (by omega) (by simp) F (by omega)
        refine ⟨_, by rw [nodeW, if_neg (by omega), if_pos h1, hU]; rfl, .dir h1 ?_⟩
        have hf : l.filter (childB e) = r.filter (childB e) := by
          have hb := h.before hl
          rw [hl, show pre ++ e :: r = (pre ++ [e]) ++ r by simp, List.filter_append]
          have : (pre ++ [e]).filter (childB e) = [] := by
            rw [List.filter_eq_nil_iff]
            intro m hm hc
            have h2 := hb m hm
            rw [child_desc hc] at h2
            cases h2
          rw [this, List.nil_append]
        rw [hf]
        exact hR
      · exact ⟨_, by rw [nodeW, if_neg (by omega), if_neg (by omega), if_pos h1, hstay (by omega)], .link h1⟩
    refine ⟨hN, fun pre e mid s hl hke hs hmid F hF => ?_⟩
    obtain ⟨F, rfl⟩ : ∃ m, F = m + 1 := ⟨F - 1, by omega⟩
    cases s with
    | nil => exact ⟨[], by rw [dirW]; rfl, .nil⟩
    | cons y s =>
      have hly : l = (pre ++ e :: mid) ++ y :: s := by rw [hl]; simp
      have hlt : nlt e.nm y.nm = true := h.behind hl y (by simp)
      have hyp : y.path ≠ [] := by
        intro hc
        rw [nm_nil.2 hc] at hlt
        cases he : e.nm <;> rw [he] at hlt <;> simp [nlt, lexL] at hlt
      cases hd : desc e.nm y.nm
      · refine ⟨[], ?_, ?_⟩
        · rw [dirW, ahead_desc hyp, hd, if_neg (by decide), List.dropWhile_cons_of_neg (by rw [hd]; decide)]
        · have : (y :: s).filter (childB e) = [] := by
            rw [List.filter_eq_nil_iff]
            intro m hm hc
            have h2 := h.stop hl hd m hm
            rw [child_desc hc] at h2
            cases h2
          rw [this]
          exact .nil
      · have hm := hmid y s rfl
        obtain ⟨htop, _⟩ := h.top hl hd hm
        have hcy : childB e y = true := by unfold childB; rw [hd, htop]; simp
        obtain ⟨t, ht, hRt⟩ := hN _ y s hly (by simp at hs; omega) F (by omega)
        have hsplit : s = s.takeWhile (fun x => desc y.nm x.nm) ++ s.dropWhile (fun x => desc y.nm x.nm) := (List.takeWhile_append_dropWhile).symm
        have hu : ∀ m ∈ s.takeWhile (fun x => desc y.nm x.nm), desc y.nm m.nm = true := fun m hm => by
          have := List.all_takeWhile (p := fun x : Ent => desc y.nm x.nm) (l := s)
          exact List.all_eq_true.1 this m hm
        have hrest : ∀ z s', s.dropWhile (fun x => desc y.nm x.nm) = z :: s' → desc y.nm z.nm = false := fun z s' hz => by
          have := List.head?_dropWhile_not (fun x : Ent => desc y.nm x.nm) s
          rw [hz] at this
          simpa using this
        generalize s.takeWhile (fun x => desc y.nm x.nm) = u at hsplit hu
        generalize hr : s.dropWhile (fun x => desc y.nm x.nm) = rest at hsplit hrest ht
        have hl2 : l = pre ++ e :: ((mid ++ y :: u) ++ rest) := by rw [hl, hsplit]; simp
        have hlen : rest.length ≤ L := by
          have := congrArg List.length hsplit
          simp only [List.length_append, List.length_cons] at this hs
          omega
        obtain ⟨U, hU, hRU⟩ := ihD pre e (mid ++ y :: u) rest hl2 hke hlen (fun z s' hz => by
          subst hz
          exact h.next (pre := pre) (e := e) (mid := mid) (u := u) (s := s') (by rw [hl2]; simp) hm hu (hrest z s' rfl)) F (by omega)
        refine ⟨[cE, cO, cN, lastName y, cK] ++ t ++ [cS] ++ U, ?_, ?_⟩
        · rw [dirW, ahead_desc hyp, hd, if_pos rfl, ht]
          show (dirW cO cT cS cD cE cN cK fileX linkX F (ahead e.path) rest).map _ = _
          rw [hU, Option.map_some, child_name hcy]
          congr 2
          show List.dropWhile (fun x => desc e.nm x.nm) rest = List.dropWhile (fun x => desc e.nm x.nm) (y :: s)
          rw [List.dropWhile_cons, if_pos hd, hsplit, List.dropWhile_append_of_pos (fun m hm => desc_tr hd (hu m hm))]
        · have hf : (y :: s).filter (childB e) = y :: rest.filter (childB e) := by
            rw [List.filter_cons_of_pos hcy, hsplit, List.filter_append]
            have : u.filter (childB e) = [] := by
              rw [List.filter_eq_nil_iff]
              intro m hm hc
              rw [not_child hcy (hu m hm)] at hc
              cases hc
            rw [this, List.nil_append]
          rw [hf]
          exact .cons (by rw [hly]; simp) hRt hRU
end Go.Proofs.YtlcaogiljiieaaaX
