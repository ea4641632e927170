/- Rows in their order; a text between its slashes; trees of entries, sorted, in which each has its directory: plain Lean, no program. -/
import Derived.Test.YtkmnjekbacdfoaaProg
set_option linter.unusedVariables false
namespace Go.Proofs.YtkmnjekbacdfoaaX
/-- Rows held against each other, thing by thing. -/
def lexL {α : Type} [BEq α] (lt : α → α → Bool) : List α → List α → Bool
  | _, [] => false
  | [], _ :: _ => true
  | x :: a, y :: b => lt x y || (x == y && lexL lt a b)
structure Ord {α : Type} (lt : α → α → Bool) : Prop where
  irr : ∀ a, lt a a = false
  tr : ∀ a b c, lt a b = true → lt b c = true → lt a c = true
  tot : ∀ a b, lt a b = false → lt b a = false → a = b
theorem Ord.asym {α : Type} {lt : α → α → Bool} (h : Ord lt) {a b : α} (h1 : lt a b = true) : lt b a = false := Bool.eq_false_iff.2 fun h2 => by
  have := h.tr _ _ _ h1 h2; rw [h.irr] at this; cases this
section
variable {α : Type} [BEq α] [LawfulBEq α] {lt : α → α → Bool}
theorem lexL_cons (x y : α) (a b : List α) : lexL lt (x :: a) (y :: b) = true ↔ lt x y = true ∨ (x = y ∧ lexL lt a b = true) := by
  rw [lexL]; simp [Bool.or_eq_true, Bool.and_eq_true]
theorem lexL_irr (h : Ord lt) : ∀ a, lexL lt a a = false
  | [] => rfl
  | x :: a => by
    rw [Bool.eq_false_iff, ne_eq, lexL_cons]
    rintro (h1 | ⟨_, h2⟩)
    · rw [h.irr] at h1; cases h1
    · rw [lexL_irr h a] at h2; cases h2
theorem lexL_tr (h : Ord lt) : ∀ a b c, lexL lt a b = true → lexL lt b c = true → lexL lt a c = true
  | _, [], _, h1, _ => by simp [lexL] at h1
  | _, _ :: _, [], _, h2 => by simp [lexL] at h2
  | [], y :: b, z :: c, _, _ => rfl
  | x :: a, y :: b, z :: c, h1, h2 => by
    rw [lexL_cons] at *
    rcases h1 with h1 | ⟨rfl, h1⟩
    · rcases h2 with h2 | ⟨rfl, h2⟩
      · exact .inl (h.tr _ _ _ h1 h2)
      · exact .inl h1
    · rcases h2 with h2 | ⟨rfl, h2⟩
      · exact .inl h2
      · exact .inr ⟨rfl, lexL_tr h a b c h1 h2⟩
theorem lexL_tot (h : Ord lt) : ∀ a b, lexL lt a b = false → lexL lt b a = false → a = b
  | [], [], _, _ => rfl
  | [], y :: b, h1, _ => by simp [lexL] at h1
  | x :: a, [], _, h2 => by simp [lexL] at h2
  | x :: a, y :: b, h1, h2 => by
    rw [Bool.eq_false_iff, ne_eq, lexL_cons] at h1 h2
    have e : x = y := h.tot _ _ (Bool.eq_false_iff.2 fun q => h1 (.inl q)) (Bool.eq_false_iff.2 fun q => h2 (.inl q))
    subst e
    rw [lexL_tot h a b (Bool.eq_false_iff.2 fun q => h1 (.inr ⟨rfl, q⟩)) (Bool.eq_false_iff.2 fun q => h2 (.inr ⟨rfl, q⟩))]
theorem lexL_ord (h : Ord lt) : Ord (lexL lt) := ⟨lexL_irr h, lexL_tr h, lexL_tot h⟩
/-- What stands between a row and one that begins with it begins with it, too. -/
theorem lexL_between (h : Ord lt) : ∀ (p x y : List α), p <+: y → lexL lt x p = false → lexL lt x y = true → p <+: x
  | [], x, _, _, _, _ => List.nil_prefix
  | c :: p, x, y, hp, h1, h2 => by
    obtain ⟨t, rfl⟩ := hp
    cases x with
    | nil => simp [lexL] at h1
    | cons d x =>
      rw [Bool.eq_false_iff, ne_eq, lexL_cons] at h1
      rw [List.cons_append, lexL_cons] at h2
      have h3 : d = c := by
        rcases h2 with h2 | ⟨e, _⟩
        · exact absurd (.inl h2) h1
        · exact e
      subst h3
      have h4 : lexL lt x (p ++ t) = true := by
        rcases h2 with h2 | ⟨_, h2⟩
        · rw [h.irr] at h2; cases h2
        · exact h2
      exact List.cons_prefix_cons.2 ⟨rfl, lexL_between h p x (p ++ t) ⟨t, rfl⟩ (Bool.eq_false_iff.2 fun q => h1 (.inr ⟨rfl, q⟩)) h4⟩
theorem lexL_prefix (h : Ord lt) : ∀ (p t : List α), t ≠ [] → lexL lt p (p ++ t) = true
  | [], t, ht => by cases t with | nil => exact absurd rfl ht | cons a t => rfl
  | c :: p, t, ht => by rw [List.cons_append, lexL_cons]; exact .inr ⟨rfl, lexL_prefix h p t ht⟩
end
theorem u8_ord : Ord (fun x y : UInt8 => decide (x < y)) := by
  refine ⟨fun a => ?_, fun a b c h1 h2 => ?_, fun a b h1 h2 => ?_⟩
  · simp
  · simp only [decide_eq_true_eq, UInt8.lt_iff_toNat_lt] at *; omega
  · simp only [decide_eq_false_iff_not, UInt8.lt_iff_toNat_lt] at *; exact UInt8.toNat_inj.1 (by omega)
/-! ### a path's names -/
/-- A text's parts between its slashes. -/
def parts : List UInt8 → List (List UInt8)
  | [] => [[]]
  | c :: l => if c = 47 then [] :: parts l else match parts l with
    | [] => [[c]]
    | p :: ps => (c :: p) :: ps
theorem parts_ne (l : List UInt8) : parts l ≠ [] := by
  cases l with
  | nil => simp [parts]
  | cons c l => rw [parts]; split; · simp
                · split <;> simp
/-- Parts put together again. -/
def glue : List (List UInt8) → List UInt8
  | [] => []
  | [p] => p
  | p :: q :: ps => p ++ 47 :: glue (q :: ps)
theorem glue_parts : ∀ l, glue (parts l) = l
  | [] => rfl
  | c :: l => by
    have ih := glue_parts l
    rw [parts]
    split
    · rename_i h
      subst h
      cases hp : parts l with
      | nil => exact absurd hp (parts_ne l)
      | cons p ps => rw [glue, ← hp, ih]; rfl
    · split
      · rename_i h; exact absurd h (parts_ne l)
      · rename_i p ps h
        rw [h] at ih
        cases ps with
        | nil => rw [glue]; rw [glue] at ih; rw [ih]
        | cons q ps => rw [glue]; rw [glue] at ih; rw [List.cons_append, ih]
theorem parts_noslash : ∀ l : List UInt8, (47 : UInt8) ∉ l → parts l = [l]
  | [], _ => rfl
  | c :: l, h => by
    have hc : c ≠ 47 := fun e => h (by rw [e]; exact List.mem_cons_self)
    rw [parts, if_neg hc, parts_noslash l (fun e => h (List.mem_cons_of_mem _ e))]
theorem parts_split : ∀ (a b : List UInt8), (47 : UInt8) ∉ a → parts (a ++ 47 :: b) = a :: parts b
  | [], b, _ => by rw [List.nil_append, parts, if_pos rfl]
  | c :: a, b, h => by
    have hc : c ≠ 47 := fun e => h (by rw [e]; exact List.mem_cons_self)
    rw [List.cons_append, parts, if_neg hc, parts_split a b (fun e => h (List.mem_cons_of_mem _ e))]
theorem parts_app : ∀ (a b : List UInt8), parts (a ++ 47 :: b) = parts a ++ parts b
  | [], b => by simp [parts]
  | c :: a, b => by
    rw [List.cons_append, parts]
    split
    · rename_i h; rw [parts_app a b]; rw [parts, if_pos h]; rfl
    · rename_i h; rw [parts_app a b]; rw [parts, if_neg h]
      cases hp : parts a with
      | nil => exact absurd hp (parts_ne a)
      | cons p ps => rfl
theorem parts_inj {a b : List UInt8} (h : parts a = parts b) : a = b := by rw [← glue_parts a, ← glue_parts b, h]
theorem parts_noslash_mem : ∀ (l : List UInt8) p, p ∈ parts l → (47 : UInt8) ∉ p
  | [], p, h => by simp [parts] at h; subst h; simp
  | c :: l, p, h => by
    have ih := parts_noslash_mem l
    rw [parts] at h
    split at h
    · rcases List.mem_cons.1 h with rfl | h
      · simp
      · exact ih p h
    · rename_i hc
      split at h
      · rename_i hp; exact absurd hp (parts_ne l)
      · rename_i q qs hq
        rw [hq] at ih
        rcases List.mem_cons.1 h with rfl | h
        · intro hm
          rcases List.mem_cons.1 hm with e | hm
          · exact hc e.symm
          · exact ih q List.mem_cons_self hm
        · exact ih p (List.mem_cons_of_mem _ h)
theorem glue_app : ∀ (a b : List (List UInt8)), a ≠ [] → b ≠ [] → glue (a ++ b) = glue a ++ 47 :: glue b
  | [], _, h, _ => absurd rfl h
  | [p], b, _, hb => by
    cases b with
    | nil => exact absurd rfl hb
    | cons q qs => rfl
  | p :: q :: ps, b, _, hb => by
    have ih := glue_app (q :: ps) b (by simp) hb
    rw [List.cons_append, List.cons_append, glue]
    rw [List.cons_append] at ih
    rw [ih, glue]
    simp
/-- A path's names: none of the empty path. -/
def pnames (l : List UInt8) : List (List UInt8) := if l = [] then [] else parts l
/-! ### trees -/
abbrev Nm := List (List UInt8)
structure Ent where
  path : List UInt8
  kind : Int
  exec : Bool
  data : List UInt8
def Ent.nm (e : Ent) : Nm := pnames e.path
/-- Texts and rows of texts, in their order. -/
def bl : List UInt8 → List UInt8 → Bool := lexL fun x y => decide (x < y)
def nlt : Nm → Nm → Bool := lexL bl
theorem bl_ord : Ord bl := lexL_ord u8_ord
theorem nlt_ord : Ord nlt := lexL_ord bl_ord
/-- Does x lie below p? -/
def desc (p x : Nm) : Bool := p.isPrefixOf x && p != x
theorem desc_iff {p x : Nm} : desc p x = true ↔ ∃ t, t ≠ [] ∧ x = p ++ t := by
  unfold desc
  rw [Bool.and_eq_true, List.isPrefixOf_iff_prefix, bne_iff_ne]
  constructor
  · rintro ⟨⟨t, rfl⟩, h⟩
    exact ⟨t, fun e => h (by rw [e, List.append_nil]), rfl⟩
  · rintro ⟨t, ht, rfl⟩
    exact ⟨List.prefix_append _ _, fun e => ht (by simpa using e)⟩
theorem desc_lt {p x : Nm} (h : desc p x = true) : nlt p x = true := by
  obtain ⟨t, ht, rfl⟩ := desc_iff.1 h
  exact lexL_prefix bl_ord p t ht
theorem desc_tr {a b c : Nm} (h1 : desc a b = true) (h2 : desc b c = true) : desc a c = true := by
  obtain ⟨t, ht, rfl⟩ := desc_iff.1 h1
  obtain ⟨u, hu, rfl⟩ := desc_iff.1 h2
  exact desc_iff.2 ⟨t ++ u, by simp [ht], by simp⟩
/-- What stands behind p and ahead of something below p lies below p. -/
theorem desc_between {p x y : Nm} (h : desc p y = true) (h1 : nlt p x = true) (h2 : nlt x y = true) : desc p x = true := by
  obtain ⟨t, ht, rfl⟩ := desc_iff.1 h
  obtain ⟨u, rfl⟩ := lexL_between bl_ord p x (p ++ t) (List.prefix_append _ _) (nlt_ord.asym h1) h2
  refine desc_iff.2 ⟨u, ?_, rfl⟩
  rintro rfl
  rw [List.append_nil, nlt_ord.irr] at h1
  cases h1
structure Tree (l : List Ent) : Prop where
  sorted : l.Pairwise (fun a b => nlt a.nm b.nm = true)
  par : ∀ e ∈ l, e.nm ≠ [] → ∃ d ∈ l, d.nm = e.nm.dropLast ∧ d.kind = 2
section
variable {l pre mid s : List Ent} {e y : Ent}
theorem Tree.ahead (h : Tree l) (hl : l = pre ++ e :: s) : ∀ d ∈ pre, nlt d.nm e.nm = true := by
  have hs := h.sorted
  rw [hl, List.pairwise_append] at hs
  exact fun d hd => hs.2.2 d hd e List.mem_cons_self
theorem Tree.behind (h : Tree l) (hl : l = pre ++ e :: s) : ∀ d ∈ s, nlt e.nm d.nm = true := by
  have hs := h.sorted
  rw [hl, List.pairwise_append, List.pairwise_cons] at hs
  exact hs.2.1.1
theorem Tree.uniq (h : Tree l) (hl : l = pre ++ e :: s) {d : Ent} (hd : d ∈ l) (he : d.nm = e.nm) : d = e := by
  rw [hl] at hd
  rcases List.mem_append.1 hd with hd | hd
  · have := h.ahead hl d hd
    rw [he, nlt_ord.irr] at this
    cases this
  · rcases List.mem_cons.1 hd with hd | hd
    · exact hd
    · have := h.behind hl d hd
      rw [he, nlt_ord.irr] at this
      cases this
/-- The next entry below a directory of which all that was read is read whole lies in that directory itself. -/
theorem Tree.top (h : Tree l) (hl : l = pre ++ e :: (mid ++ y :: s)) (hd : desc e.nm y.nm = true) (hm : ∀ m ∈ mid, desc m.nm y.nm = false) : y.nm.dropLast = e.nm ∧ e.kind = 2 := by
  obtain ⟨t, ht, hy⟩ := desc_iff.1 hd
  have hl2 : l = (pre ++ e :: mid) ++ y :: s := by rw [hl]; simp
  have hyl : y ∈ l := by rw [hl2]; simp
  obtain ⟨d, hdl, hdn, hdk⟩ := h.par y hyl (by rw [hy]; simp [ht])
  have hdl' := hdl
  have hdt : d.nm = e.nm ++ t.dropLast := by rw [hdn, hy, List.dropLast_append_of_ne_nil ht]
  have hdy : desc d.nm y.nm = true := by
    have hne : y.nm ≠ [] := by rw [hy]; simp [ht]
    refine desc_iff.2 ⟨[y.nm.getLast hne], by simp, ?_⟩
    rw [hdn, List.dropLast_concat_getLast]
  by_cases htd : t.dropLast = []
  · rw [htd, List.append_nil] at hdt
    have := h.uniq hl hdl hdt
    subst this
    exact ⟨hdn.symm, hdk⟩
  · exfalso
    have hed : desc e.nm d.nm = true := desc_iff.2 ⟨_, htd, hdt⟩
    have h1 := desc_lt hed
    have h2 := desc_lt hdy
    rw [hl2] at hdl
    rcases List.mem_append.1 hdl with hdl | hdl
    · rcases List.mem_append.1 hdl with hdl | hdl
      · rw [nlt_ord.asym (h.ahead hl d hdl)] at h1
        cases h1
      · rcases List.mem_cons.1 hdl with hdl | hdl
        · rw [hdl, nlt_ord.irr] at h1
          cases h1
        · rw [hm d hdl] at hdy
          cases hdy
    · rcases List.mem_cons.1 hdl with hdl | hdl
      · rw [hdl, nlt_ord.irr] at h2
        cases h2
      · rw [nlt_ord.asym (h.behind hl2 d hdl)] at h2
        cases h2
/-- What is next behind all below y lies below nothing that was read. -/
theorem Tree.next (h : Tree l) {u : List Ent} {z : Ent} (hl : l = pre ++ e :: (mid ++ y :: (u ++ z :: s))) (hm : ∀ m ∈ mid, desc m.nm y.nm = false) (hu : ∀ m ∈ u, desc y.nm m.nm = true) (hz : desc y.nm z.nm = false) : ∀ m ∈ mid ++ y :: u, desc m.nm z.nm = false := by
  have hly : l = (pre ++ e :: mid) ++ y :: (u ++ z :: s) := by rw [hl]; simp
  have hyz : nlt y.nm z.nm = true := h.behind hly z (by simp)
  intro m hmm
  cases hc : desc m.nm z.nm
  · rfl
  · exfalso
    rcases List.mem_append.1 hmm with hmm | hmm
    · have hmy : nlt m.nm y.nm = true := h.ahead hly m (by simp [hmm])
      have := desc_between hc hmy hyz
      rw [hm m hmm] at this
      cases this
    · rcases List.mem_cons.1 hmm with rfl | hmm
      · rw [hz] at hc; cases hc
      · rw [desc_tr (hu m hmm) hc] at hz; cases hz
/-- Behind the first that does not lie below p none does. -/
theorem Tree.stop (h : Tree l) {z : Ent} (hl : l = pre ++ e :: (mid ++ z :: s)) (hz : desc e.nm z.nm = false) : ∀ m ∈ z :: s, desc e.nm m.nm = false := by
  have hlz : l = (pre ++ e :: mid) ++ z :: s := by rw [hl]; simp
  intro m hmm
  rcases List.mem_cons.1 hmm with rfl | hmm
  · exact hz
  · cases hc : desc e.nm m.nm
    · rfl
    · have := desc_between hc (h.behind hl z (by simp)) (h.behind hlz m hmm)
      rw [hz] at this; cases this
theorem Tree.before (h : Tree l) (hl : l = pre ++ e :: s) : ∀ m ∈ pre ++ [e], desc e.nm m.nm = false := by
  intro m hmm
  cases hc : desc e.nm m.nm
  · rfl
  · have h1 := desc_lt hc
    rcases List.mem_append.1 hmm with hmm | hmm
    · rw [nlt_ord.asym (h.ahead hl m hmm)] at h1; cases h1
    · rw [List.mem_singleton.1 hmm, nlt_ord.irr] at h1; cases h1
end
end Go.Proofs.YtkmnjekbacdfoaaX
