import Derived.Test.YtlcaogiljiieaaaNarwPlain
import Derived.Test.YtlcaogiljiieaaaNarwDir
set_option linter.unusedVariables false
set_option linter.unusedSimpArgs false
/- A tree's texts tell the tree: plain Lean, no program. -/
namespace Go.Proofs.YtlcaogiljiieaaaX
abbrev RefT := Ref tOpen.data.toList tType.data.toList tShut.data.toList tDirectory.data.toList tEntry.data.toList tName.data.toList tNodeT.data.toList fileL linkL
theorem path_of_nm {x y : Ent} (h : x.nm = y.nm) : x.path = y.path := by
  by_cases hx : x.path = []
  · have hy : y.nm = [] := by rw [← h, nm_nil.2 hx]
    rw [hx, nm_nil.1 hy]
  · by_cases hy : y.path = []
    · have hx2 : x.nm = [] := by rw [h, nm_nil.2 hy]
      exact absurd (nm_nil.1 hx2) hx
    · rw [nm_cons hx, nm_cons hy] at h
      exact parts_inj h
theorem Tree.one {l : List Ent} (h : Tree l) {x y : Ent} (hx : x ∈ l) (hy : y ∈ l) (he : x.nm = y.nm) : x = y := by
  obtain ⟨pre, s, hl⟩ := List.append_of_mem hy
  exact h.uniq hl hx he
/-- What lies below e lies in it, or below what lies in it. -/
theorem below_child {l : List Ent} (h : Tree l) {e : Ent} : ∀ (n : Nat) (w : Ent), w.nm.length ≤ n → w ∈ l → desc e.nm w.nm = true → childB e w = true ∨ ∃ x ∈ l, childB e x = true ∧ desc x.nm w.nm = true
  | 0, w, hn, _, hd => by
    obtain ⟨t, ht, h1⟩ := desc_iff.1 hd
    have := congrArg List.length h1
    rw [List.length_append] at this
    have := List.length_pos_iff.2 ht
    omega
  | n + 1, w, hn, hw, hd => by
    obtain ⟨t, ht, h1⟩ := desc_iff.1 hd
    have hne : w.nm ≠ [] := by rw [h1]; simp [ht]
    obtain ⟨d, hdl, hdn, hdk⟩ := h.par w hw hne
    by_cases hc : w.nm.dropLast = e.nm
    · refine .inl ?_
      unfold childB
      rw [hd, hc, beq_self_eq_true]
      rfl
    · have hdw : desc d.nm w.nm = true := by
        refine desc_iff.2 ⟨[w.nm.getLast hne], by simp, ?_⟩
        rw [hdn, List.dropLast_concat_getLast]
      have hed : desc e.nm d.nm = true := by
        rw [h1, List.dropLast_append_of_ne_nil ht] at hc
        refine desc_iff.2 ⟨t.dropLast, fun h0 => hc (by rw [h0, List.append_nil]), ?_⟩
        rw [hdn, h1, List.dropLast_append_of_ne_nil ht]
      have hl : d.nm.length ≤ n := by
        rw [hdn, List.length_dropLast]
        have := List.length_pos_iff.2 hne
        omega
      rcases below_child h n d hl hdl hed with h2 | ⟨x, hx, h2, h3⟩
      · exact .inr ⟨d, hdl, h2, hdw⟩
      · exact .inr ⟨x, hx, h2, desc_tr h3 hdw⟩
/-- Below what is no directory there is nothing. -/
theorem below_none {l : List Ent} (h : Tree l) {e : Ent} (he : e ∈ l) (hk : e.kind ≠ 2) {w : Ent} (hw : w ∈ l) : desc e.nm w.nm = false := by
  cases hd : desc e.nm w.nm
  · rfl
  · exfalso
    have key : ∀ x ∈ l, childB e x = true → False := by
      intro x hx hc
      have hc2 := child_desc hc
      unfold childB at hc
      rw [Bool.and_eq_true, beq_iff_eq] at hc
      obtain ⟨t, ht, h1⟩ := desc_iff.1 hc2
      obtain ⟨d, hdl, hdn, hdk⟩ := h.par x hx (by rw [h1]; simp [ht])
      have := h.one hdl he (by rw [hdn, hc.2])
      rw [this] at hdk
      exact hk hdk
    rcases below_child h _ w (Nat.le_refl _) hw hd with h1 | ⟨x, hx, h1, _⟩
    · exact key w hw h1
    · exact key x hx h1
/-- An entry that may stand in a tree, as far as it is told by its texts. -/
def Plain (e : Ent) : Prop := (e.kind = 2 → e.exec = false ∧ e.data = []) ∧ (e.kind = 3 → e.exec = false)
theorem child_nm {d x : Ent} (h : childB d x = true) : x.nm = d.nm ++ [lastName x] := by
  have h1 := child_desc h
  unfold childB at h
  rw [Bool.and_eq_true, beq_iff_eq] at h
  obtain ⟨t, ht, h2⟩ := desc_iff.1 h1
  have hne : x.nm ≠ [] := by rw [h2]; simp [ht]
  unfold lastName
  rw [List.getLast?_eq_some_getLast hne, Option.getD_some, ← h.2, List.dropLast_concat_getLast]
theorem ent_ext {x y : Ent} (h0 : x.path = y.path) (h1 : x.kind = y.kind) (h2 : x.exec = y.exec) (h3 : x.data = y.data) : x = y := by
  cases x; cases y
  simp only at h0 h1 h2 h3
  rw [h0, h1, h2, h3]
theorem t_sym_reg : tSymlink.data.toList ≠ tRegular.data.toList := by decide
theorem t_dir_reg : tDirectory.data.toList ≠ tRegular.data.toList := by decide
theorem t_dir_sym : tDirectory.data.toList ≠ tSymlink.data.toList := by decide
theorem t_exe_con : tExecutable.data.toList ≠ tContents.data.toList := by decide
theorem t_ent_shut : tEntry.data.toList ≠ tShut.data.toList := by decide
/-- The texts of two nodes that begin alike: their first word tells the kind. -/
theorem ref_first {l : List Ent} {e : Ent} {T : List Tx} (h : RefT l (.inl e) T) : ∃ w U, T = tOpen.data.toList :: tType.data.toList :: w :: U ∧ ((e.kind = 1 ∧ w = tRegular.data.toList ∧ T = nodeT tOpen.data.toList tType.data.toList tShut.data.toList (fileL e)) ∨ (e.kind = 3 ∧ w = tSymlink.data.toList ∧ T = nodeT tOpen.data.toList tType.data.toList tShut.data.toList (linkL e)) ∨ (e.kind = 2 ∧ w = tDirectory.data.toList ∧ ∃ V, T = nodeT tOpen.data.toList tType.data.toList tShut.data.toList (tDirectory.data.toList :: V) ∧ RefT l (.inr (l.filter (childB e))) V)) := by
  cases h with
  | file hk => exact ⟨_, _, rfl, .inl ⟨hk, rfl, rfl⟩⟩
  | link hk => exact ⟨_, _, rfl, .inr (.inl ⟨hk, rfl, rfl⟩)⟩
  | dir hk hU => exact ⟨_, _, rfl, .inr (.inr ⟨hk, rfl, _, rfl, hU⟩)⟩
theorem file_tell {e e' : Ent} {R R' : List Tx} (h : nodeT tOpen.data.toList tType.data.toList tShut.data.toList (fileL e) ++ R = nodeT tOpen.data.toList tType.data.toList tShut.data.toList (fileL e') ++ R') : e.exec = e'.exec ∧ e.data = e'.data ∧ R = R' := by
  unfold nodeT fileL at h
  have hx := t_exe_con
  generalize tExecutable.data.toList = x1 at h hx
  generalize tContents.data.toList = x2 at h hx
  generalize tOpen.data.toList = x3 at h
  generalize tType.data.toList = x4 at h
  generalize tShut.data.toList = x5 at h
  generalize tRegular.data.toList = x6 at h
  cases he : e.exec <;> cases he' : e'.exec <;> simp [he, he', hx, Ne.symm hx] at h <;> simp [h]
theorem link_tell {e e' : Ent} {R R' : List Tx} (h : nodeT tOpen.data.toList tType.data.toList tShut.data.toList (linkL e) ++ R = nodeT tOpen.data.toList tType.data.toList tShut.data.toList (linkL e') ++ R') : e.data = e'.data ∧ R = R' := by
  unfold nodeT linkL at h
  generalize tOpen.data.toList = x3 at h
  generalize tType.data.toList = x4 at h
  generalize tShut.data.toList = x5 at h
  generalize tSymlink.data.toList = x6 at h
  generalize tTarget.data.toList = x7 at h
  simpa using h
theorem ref_apart {La Lb : List Ent} (ha : Tree La) (pa : ∀ e ∈ La, Plain e) (pb : ∀ e ∈ Lb, Plain e) : ∀ {z T}, RefT La z T →
    (∀ e, z = .inl e → ∀ e' T' R R', e ∈ La → e' ∈ Lb → e.path = e'.path → RefT Lb (.inl e') T' → T ++ R = T' ++ R' → T = T' ∧ R = R' ∧ e = e' ∧ ∀ w ∈ La, desc e.nm w.nm = true → w ∈ Lb) ∧
    (∀ xs, z = .inr xs → ∀ d ys T' R R', (∀ x ∈ xs, x ∈ La ∧ childB d x = true) → (∀ y ∈ ys, y ∈ Lb ∧ childB d y = true) → RefT Lb (.inr ys) T' → T ++ tShut.data.toList :: R = T' ++ tShut.data.toList :: R' → T = T' ∧ R = R' ∧ xs = ys ∧ ∀ x ∈ xs, ∀ w ∈ La, desc x.nm w.nm = true → w ∈ Lb) := by
  intro z T h
  induction h with
  | @file e hk =>
    refine ⟨fun e0 h0 e' T' R R' hea heb hp hR hT => ?_, fun xs h0 => by cases h0⟩
    injection h0 with h0
    subst h0
    obtain ⟨w, U, hw, hr⟩ := ref_first hR
    rcases hr with ⟨hk', _, hT'⟩ | ⟨_, h1, _⟩ | ⟨_, h1, _⟩
    · rw [hT'] at hT
      obtain ⟨h1, h2, h3⟩ := file_tell hT
      have hee : e = e' := ent_ext hp (by rw [hk, hk']) h1 h2
      refine ⟨by rw [hT', hee], h3, hee, fun x hx hd => ?_⟩
      rw [below_none ha hea (by rw [hk]; decide) hx] at hd
      cases hd
    · rw [hw, h1] at hT
      unfold nodeT fileL at hT
      simp only [List.cons_append, List.cons.injEq, List.nil_append] at hT
      exact absurd hT.2.2.1 (Ne.symm t_sym_reg)
    · rw [hw, h1] at hT
      unfold nodeT fileL at hT
      simp only [List.cons_append, List.cons.injEq, List.nil_append] at hT
      exact absurd hT.2.2.1 (Ne.symm t_dir_reg)
  | @link e hk =>
    refine ⟨fun e0 h0 e' T' R R' hea heb hp hR hT => ?_, fun xs h0 => by cases h0⟩
    injection h0 with h0
    subst h0
    obtain ⟨w, U, hw, hr⟩ := ref_first hR
    rcases hr with ⟨_, h1, _⟩ | ⟨hk', _, hT'⟩ | ⟨_, h1, _⟩
    · rw [hw, h1] at hT
      unfold nodeT linkL at hT
      simp only [List.cons_append, List.cons.injEq, List.nil_append] at hT
      exact absurd hT.2.2.1 t_sym_reg
    · rw [hT'] at hT
      obtain ⟨h2, h3⟩ := link_tell hT
      have hee : e = e' := ent_ext hp (by rw [hk, hk']) (by rw [(pa e hea).2 hk, (pb e' heb).2 hk']) h2
      refine ⟨by rw [hT', hee], h3, hee, fun x hx hd => ?_⟩
      rw [below_none ha hea (by rw [hk]; decide) hx] at hd
      cases hd
    · rw [hw, h1] at hT
      unfold nodeT linkL at hT
      simp only [List.cons_append, List.cons.injEq, List.nil_append] at hT
      exact absurd hT.2.2.1 (Ne.symm t_dir_sym)
  | @dir e U hk hU ih =>
    refine ⟨fun e0 h0 e' T' R R' hea heb hp hR hT => ?_, fun xs h0 => by cases h0⟩
    injection h0 with h0
    subst h0
    obtain ⟨w, U', hw, hr⟩ := ref_first hR
    rcases hr with ⟨_, h1, _⟩ | ⟨_, h1, _⟩ | ⟨hk', _, V, hT', hV⟩
    · rw [hw, h1] at hT
      unfold nodeT at hT
      simp only [List.cons_append, List.cons.injEq, List.nil_append] at hT
      exact absurd hT.2.2.1 t_dir_reg
    · rw [hw, h1] at hT
      unfold nodeT at hT
      simp only [List.cons_append, List.cons.injEq, List.nil_append] at hT
      exact absurd hT.2.2.1 t_dir_sym
    · have hee : e = e' := ent_ext hp (by rw [hk, hk']) (by rw [((pa e hea).1 hk).1, ((pb e' heb).1 hk').1]) (by rw [((pa e hea).1 hk).2, ((pb e' heb).1 hk').2])
      have hUV : U ++ tShut.data.toList :: R = V ++ tShut.data.toList :: R' := by
        rw [hT'] at hT
        unfold nodeT at hT
        simpa using hT
      obtain ⟨h1, h2, h3, h4⟩ := ih.2 _ rfl e _ V R R' (fun x hx => List.mem_filter.1 hx) (fun y hy => by rw [hee]; exact List.mem_filter.1 hy) hV hUV
      refine ⟨by rw [hT', h1], h2, hee, fun w hw hd => ?_⟩
      rcases below_child ha _ w (Nat.le_refl _) hw hd with h5 | ⟨x, hx, h5, h6⟩
      · have : w ∈ La.filter (childB e) := List.mem_filter.2 ⟨hw, h5⟩
        rw [h3] at this
        exact (List.mem_filter.1 this).1
      · exact h4 x (List.mem_filter.2 ⟨hx, h5⟩) w hw h6
  | nil =>
    refine ⟨fun e0 h0 => (by cases h0), fun xs h0 d ys T' R R' hxs hys hR hT => ?_⟩
    injection h0 with h0
    subst h0
    cases hR with
    | nil =>
      simp only [List.nil_append, List.cons.injEq, true_and] at hT
      exact ⟨rfl, hT, rfl, fun x hx => by cases hx⟩
    | cons hx ht hu =>
      simp only [List.nil_append, List.cons_append, List.cons.injEq] at hT
      exact absurd hT.1 (Ne.symm t_ent_shut)
  | @cons x xs t u hx ht hu iht ihu =>
    refine ⟨fun e0 h0 => (by cases h0), fun xs0 h0 d ys T' R R' hxs hys hR hT => ?_⟩
    injection h0 with h0
    subst h0
    cases hR with
    | nil =>
      simp only [List.nil_append, List.cons_append, List.cons.injEq] at hT
      exact absurd hT.1 t_ent_shut
    | @cons y ys t' u' hy ht' hu' =>
      have hT2 : lastName x = lastName y ∧ t ++ (tShut.data.toList :: (u ++ tShut.data.toList :: R)) = t' ++ (tShut.data.toList :: (u' ++ tShut.data.toList :: R')) := by
        simpa using hT
      have hx2 := hxs x List.mem_cons_self
      have hy2 := hys y List.mem_cons_self
      have hp : x.path = y.path := path_of_nm (by rw [child_nm hx2.2, child_nm hy2.2, hT2.1])
      obtain ⟨h1, h2, h3, h4⟩ := iht.1 x rfl y t' _ _ hx hy hp ht' hT2.2
      injection h2 with _ h2
      obtain ⟨h5, h6, h7, h8⟩ := ihu.2 xs rfl d ys u' R R' (fun a ha => hxs a (List.mem_cons_of_mem _ ha)) (fun a ha => hys a (List.mem_cons_of_mem _ ha)) hu' h2
      refine ⟨by rw [h1, h5, h3], h6, by rw [h3, h7], fun a ha2 w hw hd => ?_⟩
      rcases List.mem_cons.1 ha2 with rfl | ha2
      · exact h4 w hw hd
      · exact h8 a ha2 w hw hd
/-- Two sorted rows with the same things are one row. -/
theorem sorted_one : ∀ {a b : List Ent}, a.Pairwise (fun x y => nlt x.nm y.nm = true) → b.Pairwise (fun x y => nlt x.nm y.nm = true) → (∀ x ∈ a, x ∈ b) → (∀ x ∈ b, x ∈ a) → a = b
  | [], [], _, _, _, _ => rfl
  | [], y :: b, _, _, _, h => by have := h y List.mem_cons_self; cases this
  | x :: a, [], _, _, h, _ => by have := h x List.mem_cons_self; cases this
  | x :: a, y :: b, ha, hb, h1, h2 => by
    rw [List.pairwise_cons] at ha hb
    have hxy : x = y := by
      rcases List.mem_cons.1 (h1 x List.mem_cons_self) with h | h
      · exact h
      · rcases List.mem_cons.1 (h2 y List.mem_cons_self) with h' | h'
        · exact h'.symm
        · have e1 := hb.1 x h
          have e2 := ha.1 y h'
          rw [nlt_ord.asym e1] at e2
          cases e2
    subst hxy
    have hno : ∀ {c : List Ent}, (∀ w ∈ c, nlt x.nm w.nm = true) → x ∉ c := fun hc hm => by
      have := hc x hm
      rw [nlt_ord.irr] at this
      cases this
    rw [sorted_one ha.2 hb.2 (fun w hw => by
      rcases List.mem_cons.1 (h1 w (List.mem_cons_of_mem _ hw)) with h | h
      · rw [h] at hw; exact absurd hw (hno ha.1)
      · exact h) (fun w hw => by
      rcases List.mem_cons.1 (h2 w (List.mem_cons_of_mem _ hw)) with h | h
      · rw [h] at hw; exact absurd hw (hno hb.1)
      · exact h)]
/-- Trees whose texts are one are one. -/
theorem trees_one {La Lb : List Ent} (ha : Tree La) (hb : Tree Lb) (pa : ∀ e ∈ La, Plain e) (pb : ∀ e ∈ Lb, Plain e) {ea eb : Ent} {T : List Tx} (hea : ea ∈ La) (heb : eb ∈ Lb) (h0 : ea.path = []) (h0' : eb.path = []) (h1 : RefT La (.inl ea) T) (h2 : RefT Lb (.inl eb) T) : La = Lb := by
  have hin : ∀ {L M : List Ent} {x y : Ent}, Tree L → (∀ e ∈ L, Plain e) → (∀ e ∈ M, Plain e) → x ∈ L → y ∈ M → x.path = [] → y.path = [] → RefT L (.inl x) T → RefT M (.inl y) T → ∀ w ∈ L, w ∈ M := by
    intro L M x y hL hp hq hx hy hx0 hy0 r1 r2 w hw
    obtain ⟨_, _, h3, h4⟩ := (ref_apart hL hp hq r1).1 x rfl y T [] [] hx hy (by rw [hx0, hy0]) r2 rfl
    by_cases hw0 : w.nm = []
    · have : w = x := hL.one hw hx (by rw [hw0, nm_nil.2 hx0])
      rw [this, h3]
      exact hy
    · refine h4 w hw (desc_iff.2 ⟨w.nm, hw0, ?_⟩)
      rw [nm_nil.2 hx0, List.nil_append]
  exact sorted_one ha.sorted hb.sorted (hin ha pa pb hea heb h0 h0' h1 h2) (hin hb pb pa heb hea h0' h0 h2 h1)
end Go.Proofs.YtlcaogiljiieaaaX
/- The texts of a part of a tree: they stand in the whole's, and are those of the tree below: plain Lean, no program. -/
namespace Go.Proofs.YtlcaogiljiieaaaX
/-- A tree's texts are one. -/
theorem ref_one {l : List Ent} : ∀ {z T}, RefT l z T → ∀ T', RefT l z T' → T = T' := by
  intro z T h
  induction h with
  | @file e hk =>
    intro T' h'
    cases h' with
    | file _ => rfl
    | link hk' => omega
    | dir hk' _ => omega
  | @link e hk =>
    intro T' h'
    cases h' with
    | file hk' => omega
    | link _ => rfl
    | dir hk' _ => omega
  | @dir e U hk hU ih =>
    intro T' h'
    cases h' with
    | file hk' => omega
    | link hk' => omega
    | dir _ hU' => rw [ih _ hU']
  | nil =>
    intro T' h'
    cases h'
    rfl
  | @cons x xs t u hx ht hu iht ihu =>
    intro T' h'
    cases h' with
    | cons _ ht' hu' => rw [iht _ ht', ihu _ hu']
/-- What stands at a path of a tree has its texts within the whole's. -/
theorem ref_inner {l : List Ent} (hl : Tree l) {e : Ent} (he : e ∈ l) : ∀ {z T}, RefT l z T →
    (∀ x, z = .inl x → x ∈ l → (e = x ∨ desc x.nm e.nm = true) → ∃ A C U, T = A ++ U ++ C ∧ RefT l (.inl e) U) ∧
    (∀ xs, z = .inr xs → (∃ x ∈ xs, e = x ∨ desc x.nm e.nm = true) → ∃ A C U, T = A ++ U ++ C ∧ RefT l (.inl e) U) := by
  intro z T h
  induction h with
  | @file x hk =>
    refine ⟨fun x0 h0 hx hd => ?_, fun xs h0 => by cases h0⟩
    injection h0 with h0
    subst h0
    rcases hd with rfl | hd
    · exact ⟨[], [], _, by simp, .file hk⟩
    · rw [below_none hl hx (by rw [hk]; decide) he] at hd
      cases hd
  | @link x hk =>
    refine ⟨fun x0 h0 hx hd => ?_, fun xs h0 => by cases h0⟩
    injection h0 with h0
    subst h0
    rcases hd with rfl | hd
    · exact ⟨[], [], _, by simp, .link hk⟩
    · rw [below_none hl hx (by rw [hk]; decide) he] at hd
      cases hd
  | @dir x U hk hU ih =>
    refine ⟨fun x0 h0 hx hd => ?_, fun xs h0 => by cases h0⟩
    injection h0 with h0
    subst h0
    rcases hd with rfl | hd
    · exact ⟨[], [], _, by simp, .dir hk hU⟩
    · have hin : ∃ y ∈ l.filter (childB x), e = y ∨ desc y.nm e.nm = true := by
        rcases below_child hl _ e (Nat.le_refl _) he hd with h1 | ⟨y, hy, h1, h2⟩
        · exact ⟨e, List.mem_filter.2 ⟨he, h1⟩, .inl rfl⟩
        · exact ⟨y, List.mem_filter.2 ⟨hy, h1⟩, .inr h2⟩
      obtain ⟨A, C, V, h1, h2⟩ := ih.2 _ rfl hin
      refine ⟨tOpen.data.toList :: tType.data.toList :: tDirectory.data.toList :: A, C ++ [tShut.data.toList], V, ?_, h2⟩
      unfold nodeT
      rw [h1]
      simp
  | nil =>
    refine ⟨fun x0 h0 => (by cases h0), fun xs h0 hd => ?_⟩
    injection h0 with h0
    subst h0
    obtain ⟨x, hx, _⟩ := hd
    cases hx
  | @cons x xs t u hx ht hu iht ihu =>
    refine ⟨fun x0 h0 => (by cases h0), fun xs0 h0 hd => ?_⟩
    injection h0 with h0
    subst h0
    obtain ⟨y, hy, hd⟩ := hd
    rcases List.mem_cons.1 hy with rfl | hy
    · obtain ⟨A, C, V, h1, h2⟩ := iht.1 y rfl hx hd
      refine ⟨[tEntry.data.toList, tOpen.data.toList, tName.data.toList, lastName y, tNodeT.data.toList] ++ A, C ++ [tShut.data.toList] ++ u, V, ?_, h2⟩
      rw [h1]
      simp
    · obtain ⟨A, C, V, h1, h2⟩ := ihu.2 xs rfl ⟨y, hy, hd⟩
      refine ⟨[tEntry.data.toList, tOpen.data.toList, tName.data.toList, lastName x, tNodeT.data.toList] ++ t ++ [tShut.data.toList] ++ A, C, V, ?_, h2⟩
      rw [h1]
      simp
/-- An entry as it is told from a directory. -/
def relE (e x : Ent) : Ent := ⟨x.path.drop (ahead e.path).length, x.kind, x.exec, x.data⟩
/-- Does it stand at the path, or below it? -/
def atB (e x : Ent) : Bool := x.nm == e.nm || desc e.nm x.nm
/-- No name of it is empty. -/
def Names (x : Ent) : Prop := ∀ q ∈ x.nm, q ≠ []
theorem rel_nm {e x : Ent} (hx : Names x) (h : atB e x = true) : x.nm = e.nm ++ (relE e x).nm := by
  unfold atB at h
  rw [Bool.or_eq_true, beq_iff_eq] at h
  rcases h with h | h
  · have hp := path_of_nm h
    have h0 : (relE e x).path = [] := by
      show x.path.drop _ = []
      rw [hp]
      unfold ahead
      split <;> rename_i h1
      · rw [h1]; rfl
      · rw [List.drop_eq_nil_iff]; simp
    rw [nm_nil.2 h0, List.append_nil, h]
  · obtain ⟨t, ht, h1⟩ := desc_iff.1 h
    have hxp : x.path ≠ [] := fun hc => by rw [nm_nil.2 hc] at h1; simp at h1; exact ht h1.2
    by_cases he : e.path = []
    · have h0 : (relE e x).path = x.path := by
        show x.path.drop _ = _
        unfold ahead
        rw [if_pos he]
        rfl
      have h2 : (relE e x).nm = x.nm := by unfold Ent.nm; rw [h0]
      rw [h2, nm_nil.2 he, List.nil_append]
    · rw [nm_cons he, nm_cons hxp] at h1
      have hg := glue_parts x.path
      rw [h1, glue_app _ _ (parts_ne _) ht, glue_parts] at hg
      have h0 : (relE e x).path = glue t := by
        show x.path.drop _ = _
        unfold ahead
        rw [if_neg he, ← hg]
        simp
      have h3 : parts x.path = parts e.path ++ parts (glue t) := by rw [← hg, parts_app]
      have h4 : t = parts (glue t) := List.append_cancel_left (h1.symm.trans h3)
      have h5 : glue t ≠ [] := by
        intro hc
        rw [hc] at h4
        have : parts ([] : List UInt8) = [[]] := rfl
        rw [this] at h4
        refine hx [] ?_ rfl
        rw [nm_cons hxp, h1, h4]
        simp
      have h6 : (relE e x).nm = parts (glue t) := by
        have : (relE e x).path ≠ [] := by rw [h0]; exact h5
        rw [nm_cons this, h0]
      rw [h6, nm_cons he, nm_cons hxp, h3]
theorem at_tr {e x w : Ent} (hx : atB e x = true) (hw : desc x.nm w.nm = true) : desc e.nm w.nm = true := by
  unfold atB at hx
  rw [Bool.or_eq_true, beq_iff_eq] at hx
  rcases hx with hx | hx
  · rwa [← hx]
  · exact desc_tr hx hw
theorem desc_app (p a b : Nm) : desc (p ++ a) (p ++ b) = desc a b := by
  rw [Bool.eq_iff_iff, desc_iff, desc_iff]
  constructor
  · rintro ⟨t, ht, h⟩
    rw [List.append_assoc] at h
    exact ⟨t, ht, List.append_cancel_left h⟩
  · rintro ⟨t, ht, rfl⟩
    exact ⟨t, ht, by rw [List.append_assoc]⟩
theorem rel_child {e x w : Ent} (nx : Names x) (nw : Names w) (hx : atB e x = true) (hw : atB e w = true) : childB (relE e x) (relE e w) = childB x w := by
  have h1 := rel_nm nx hx
  have h2 := rel_nm nw hw
  unfold childB
  rw [h1, h2, desc_app]
  cases hd : desc (relE e x).nm (relE e w).nm
  · rfl
  · rw [Bool.true_and, Bool.true_and]
    obtain ⟨t, ht, h3⟩ := desc_iff.1 hd
    have hne : (relE e w).nm ≠ [] := by rw [h3]; simp [ht]
    rw [List.dropLast_append_of_ne_nil hne, Bool.eq_iff_iff, beq_iff_eq, beq_iff_eq]
    exact ⟨fun h => by rw [h], fun h => List.append_cancel_left h⟩
theorem rel_last {e x : Ent} (nx : Names x) (h : desc e.nm x.nm = true) : lastName (relE e x) = lastName x := by
  have hx : atB e x = true := by unfold atB; rw [h, Bool.or_true]
  have h1 := rel_nm nx hx
  obtain ⟨t, ht, h2⟩ := desc_iff.1 h
  have h3 : (relE e x).nm = t := List.append_cancel_left (h1.symm.trans h2)
  unfold lastName
  rw [h1, h3, List.getLast?_append]
  cases ht2 : t.getLast? with
  | none => exact absurd (List.getLast?_eq_none_iff.1 ht2) ht
  | some v => rfl
theorem rel_kids {l : List Ent} (nl : ∀ x ∈ l, Names x) {e x : Ent} (hx : x ∈ l) (hat : atB e x = true) : ((l.filter (atB e)).map (relE e)).filter (childB (relE e x)) = (l.filter (childB x)).map (relE e) := by
  rw [List.filter_map, List.filter_filter]
  refine congrArg _ (List.filter_congr fun w hw => ?_)
  rw [Function.comp_apply]
  by_cases h : atB e w = true
  · rw [rel_child (nl x hx) (nl w hw) hat h, h, Bool.and_true]
  · have h2 : atB e w = false := by simpa using h
    rw [h2, Bool.and_false]
    cases hc : childB x w
    · rfl
    · have := at_tr hat (child_desc hc)
      unfold atB at h
      rw [this, Bool.or_true] at h
      exact absurd rfl h
/-- The texts of a path of a tree are those of the tree below. -/
theorem ref_below {l : List Ent} (nl : ∀ x ∈ l, Names x) {e : Ent} : ∀ {z T}, RefT l z T →
    (∀ x, z = .inl x → x ∈ l → atB e x = true → RefT ((l.filter (atB e)).map (relE e)) (.inl (relE e x)) T) ∧
    (∀ xs, z = .inr xs → (∀ x ∈ xs, x ∈ l ∧ desc e.nm x.nm = true) → RefT ((l.filter (atB e)).map (relE e)) (.inr (xs.map (relE e))) T) := by
  intro z T h
  induction h with
  | @file x hk =>
    refine ⟨fun x0 h0 hx hat => ?_, fun xs h0 => by cases h0⟩
    injection h0 with h0
    subst h0
    exact Ref.file (e := relE e x) hk
  | @link x hk =>
    refine ⟨fun x0 h0 hx hat => ?_, fun xs h0 => by cases h0⟩
    injection h0 with h0
    subst h0
    exact Ref.link (e := relE e x) hk
  | @dir x U hk hU ih =>
    refine ⟨fun x0 h0 hx hat => ?_, fun xs h0 => by cases h0⟩
    injection h0 with h0
    subst h0
    refine Ref.dir (e := relE e x) hk ?_
    rw [rel_kids nl hx hat]
    exact ih.2 _ rfl fun w hw => ⟨(List.mem_filter.1 hw).1, at_tr hat (child_desc (List.mem_filter.1 hw).2)⟩
  | nil =>
    refine ⟨fun x0 h0 => (by cases h0), fun xs h0 hd => ?_⟩
    injection h0 with h0
    subst h0
    exact Ref.nil
  | @cons x xs t u hx ht hu iht ihu =>
    refine ⟨fun x0 h0 => (by cases h0), fun xs0 h0 hd => ?_⟩
    injection h0 with h0
    subst h0
    have hx2 := hd x List.mem_cons_self
    have hat : atB e x = true := by unfold atB; rw [hx2.2, Bool.or_true]
    have h1 := iht.1 x rfl hx hat
    have h2 := ihu.2 xs rfl fun w hw => hd w (List.mem_cons_of_mem _ hw)
    rw [List.map_cons, ← rel_last (nl x hx) hx2.2]
    exact Ref.cons (List.mem_map_of_mem (List.mem_filter.2 ⟨hx, hat⟩)) h1 h2
end Go.Proofs.YtlcaogiljiieaaaX
