/- Plain laws on keys as bytes: what Check, Bytes and Prefix answer, told of lists of bytes. -/
import Derived.Test.YtcohfhclcoiigaaQKeysx
import Derived.Test.YtcohfhclcoiigaaPlain
set_option linter.unusedVariables false
set_option linter.unusedSimpArgs false
namespace Go.Proofs.YtcohfhclcoiigaaX
open Go.RowKit Go.Proofs.Ytcohfhclcoiigaa.PKeys Go.Proofs.YtcohfhclcoiigaaW.PrintWords Go.Proofs.YtcohfhclcoiigaaW.PrintLast Go.Proofs.YtcohfhclcoiigaaW.PrintMore

def ba (l : List UInt8) : ByteArray := ⟨l.toArray⟩
theorem ba_of (b : ByteArray) : ∃ l, b = ba l := ⟨b.data.toList, rfl⟩
theorem ba_app (a b : List UInt8) : ba a ++ ba b = ba (a ++ b) := ba_ext (by rw [ba_append]; rfl)
theorem ba_ex (l : List UInt8) (i j : Nat) : (ba l).extract i j = ba ((l.drop i).take (j - i)) := ba_ext (by rw [ba_extract]; rfl)
theorem ba_sz (l : List UInt8) : (ba l).size = l.length := by rw [ba_size]; rfl
theorem ba_tl (l : List UInt8) : (ba l).toList = l := by rw [ba_toList]; rfl
theorem ba_dl (l : List UInt8) : (ba l).data.toList = l := rfl
theorem ba_inj {a b : List UInt8} (h : ba a = ba b) : a = b := by rw [← ba_tl a, h, ba_tl]
theorem ba_nil : (⟨#[]⟩ : ByteArray) = ba [] := rfl
theorem ba_zero : (⟨#[0]⟩ : ByteArray) = ba [0] := rfl

def u8 (x : Int) : UInt8 := UInt8.ofNat x.toNat
def n3 (n : Int) : List UInt8 := [u8 (n / 65536 % 256), u8 (n / 256 % 256), u8 (n % 256)]
def n2 (n : Int) : List UInt8 := [u8 (n / 256 % 256), u8 (n % 256)]
def lett (k : Int) : UInt8 := if k = 1 then 110 else if k = 2 then 105 else if k = 3 then 99 else if k = 4 then 100 else if k = 5 then 112 else if k = 6 then 114 else if k = 7 then 117 else if k = 8 then 102 else if k = 9 then 103 else 116
def nm (A : List UInt8) : Prop := A ≠ [] ∧ A.length ≤ 64 ∧ Lib.containsAny A [0, 47] = false

theorem nm_iff (A : List UInt8) : nameB (ba A) = true ↔ nm A := by
  unfold nameB nm
  rw [ba_tl, ba_sz, ba_dl]
  cases A with
  | nil => simp
  | cons x A =>
    simp
    intro _
    omega

theorem no_any (l : List UInt8) : Lib.containsAny l [0, 47] = true ↔ ∃ x ∈ l, x = 0 ∨ x = 47 := by
  unfold Lib.containsAny
  induction l with
  | nil => simp [Lib.indexAny]
  | cons b l ih =>
    have hge := Lib.indexAny_ge [0, 47] l
    unfold Lib.indexAny
    by_cases hb : ([0, 47] : List UInt8).contains b = true
    · rw [if_pos hb]
      have : b = 0 ∨ b = 47 := by simpa using hb
      simp [this]
    · rw [if_neg hb]
      have hb' : ¬ (b = 0 ∨ b = 47) := by simpa using hb
      by_cases h1 : Lib.indexAny l [0, 47] = -1
      · rw [h1] at ih
        simp at ih
        simp [h1, hb', ih]
        exact fun x hx => ih x hx
      · have h2 : 0 ≤ Lib.indexAny l [0, 47] := by omega
        have h3 := ih.1 (decide_eq_true h2)
        obtain ⟨x, hx, hxx⟩ := h3
        have e : (Lib.indexAny l [0, 47] == -1) = false := by simp [h1]
        rw [e]
        constructor
        · intro _
          exact ⟨x, List.mem_cons_of_mem _ hx, hxx⟩
        · intro _
          simp
          omega
theorem nm_zero {A : List UInt8} (h : nm A) : (0 : UInt8) ∉ A := fun h0 => by
  have := (no_any A).2 ⟨0, h0, Or.inl rfl⟩
  rw [h.2.2] at this
  cases this
theorem nm_names (A : List UInt8) : nm A ↔ A.length ≥ 1 ∧ A.length ≤ 64 ∧ ∀ x ∈ A, x ≠ 0 ∧ x ≠ 47 := by
  unfold nm
  have e : Lib.containsAny A [0, 47] = false ↔ ∀ x ∈ A, x ≠ 0 ∧ x ≠ 47 := by
    rw [← Bool.not_eq_true, no_any]
    constructor
    · intro h x hx
      exact ⟨fun h0 => h ⟨x, hx, Or.inl h0⟩, fun h0 => h ⟨x, hx, Or.inr h0⟩⟩
    · rintro h ⟨x, hx, h0 | h0⟩
      · exact (h x hx).1 h0
      · exact (h x hx).2 h0
  rw [e]
  cases A <;> simp

/-- Keys that may be. -/
inductive May : Int → List UInt8 → List UInt8 → Int → Int → Prop
  | count : May 1 [] [] 0 0
  | inode (N : Int) : 1 ≤ N → N ≤ 16777215 → May 2 [] [] N 0
  | chunk (N M : Int) : 1 ≤ N → N ≤ 16777215 → 0 ≤ M → M ≤ 65535 → May 3 [] [] N M
  | entry (A : List UInt8) (N : Int) : nm A → 1 ≤ N → N ≤ 16777215 → May 4 A [] N 0
  | one (k : Int) (A : List UInt8) : (k = 5 ∨ k = 8 ∨ k = 10) → nm A → May k A [] 0 0
  | two (k : Int) (A B : List UInt8) : (k = 6 ∨ k = 7) → nm A → nm B → May k A B 0 0
  | gen (A : List UInt8) (N : Int) : nm A → 0 ≤ N → N ≤ 16777215 → May 9 A [] N 0

theorem fin_iff (ok : Bool) (A B : List UInt8) (N M : Int) : fin ok (ba A) (ba B) N M = 0 ↔ ok = true ∧ A = [] ∧ B = [] ∧ N = 0 ∧ M = 0 := by
  unfold fin
  rw [ba_tl, ba_tl]
  split
  · rename_i h; simp [h]
  · rename_i h; simp [h]
theorem fin_01 (ok : Bool) (A B : ByteArray) (N M : Int) : fin ok A B N M = 0 ∨ fin ok A B N M = 1 := by
  unfold fin
  split <;> simp
theorem check_01 (k : Int) (A B : ByteArray) (N M : Int) : checkB k A B N M = 0 ∨ checkB k A B N M = 1 := by
  unfold checkB
  repeat' split
  all_goals exact fin_01 _ _ _ _ _
theorem within_iff (n l h : Int) : withinB n l h = true ↔ l ≤ n ∧ n ≤ h := by simp [withinB]

theorem may_check (k : Int) (A B : List UInt8) (N M : Int) : checkB k (ba A) (ba B) N M = 0 ↔ May k A B N M := by
  constructor
  · intro h
    unfold checkB at h
    rw [ba_nil] at h
    split at h
    · rename_i hk; subst hk
      obtain ⟨_, rfl, rfl, rfl, rfl⟩ := (fin_iff _ _ _ _ _).1 h
      exact .count
    split at h
    · rename_i hk; subst hk
      obtain ⟨h1, rfl, rfl, _, rfl⟩ := (fin_iff _ _ _ _ _).1 h
      obtain ⟨h1, h2⟩ := (within_iff _ _ _).1 h1
      exact .inode _ h1 h2
    split at h
    · rename_i hk; subst hk
      obtain ⟨h1, rfl, rfl, _, _⟩ := (fin_iff _ _ _ _ _).1 h
      rw [Bool.and_eq_true, within_iff, within_iff] at h1
      exact .chunk _ _ h1.1.1 h1.1.2 h1.2.1 h1.2.2
    split at h
    · rename_i hk; subst hk
      obtain ⟨h1, _, rfl, _, rfl⟩ := (fin_iff _ _ _ _ _).1 h
      rw [Bool.and_eq_true, within_iff, nm_iff] at h1
      exact .entry _ _ h1.2 h1.1.1 h1.1.2
    split at h
    · rename_i hk
      obtain ⟨h1, _, rfl, rfl, rfl⟩ := (fin_iff _ _ _ _ _).1 h
      rw [nm_iff] at h1
      exact .one _ _ hk h1
    split at h
    · rename_i hk
      obtain ⟨h1, _, _, rfl, rfl⟩ := (fin_iff _ _ _ _ _).1 h
      rw [Bool.and_eq_true, nm_iff, nm_iff] at h1
      exact .two _ _ _ hk h1.1 h1.2
    split at h
    · rename_i hk; subst hk
      obtain ⟨h1, _, rfl, _, rfl⟩ := (fin_iff _ _ _ _ _).1 h
      rw [Bool.and_eq_true, within_iff, nm_iff] at h1
      exact .gen _ _ h1.1 h1.2.1 h1.2.2
    · obtain ⟨h1, _⟩ := (fin_iff _ _ _ _ _).1 h
      cases h1
  · intro h
    unfold checkB
    rw [ba_nil]
    cases h with
    | count => simp [fin_iff]
    | inode _ h1 h2 => simp [fin_iff, within_iff, h1, h2]
    | chunk _ _ h1 h2 h3 h4 => simp [fin_iff, within_iff, h1, h2, h3, h4]
    | entry _ _ h h1 h2 => simp [fin_iff, within_iff, nm_iff, h1, h2, h]
    | one _ _ hk h => rcases hk with rfl | rfl | rfl <;> simp [fin_iff, nm_iff, h]
    | two _ _ _ hk h h1 => rcases hk with rfl | rfl <;> simp [fin_iff, nm_iff, h, h1]
    | gen _ _ h h1 h2 => simp [fin_iff, within_iff, nm_iff, h1, h2, h]

def body (k : Int) (A B : List UInt8) (N M : Int) : List UInt8 :=
  if k = 2 then n3 N else if k = 3 then n3 N ++ n2 M else if k = 4 then n3 N ++ A else if k = 6 ∨ k = 7 then A ++ 0 :: B else if k = 9 then A ++ 0 :: n3 N else A
def byts (k : Int) (A B : List UInt8) (N M : Int) : List UInt8 := lett k :: body k A B N M

theorem ten {k : Int} (h0 : 1 ≤ k) (h1 : k ≤ 10) : k = 1 ∨ k = 2 ∨ k = 3 ∨ k = 4 ∨ k = 5 ∨ k = 6 ∨ k = 7 ∨ k = 8 ∨ k = 9 ∨ k = 10 := by omega
theorem May.range {k : Int} {A B : List UInt8} {N M : Int} (h : May k A B N M) : 1 ≤ k ∧ k ≤ 10 := by cases h <;> omega
theorem letter_f {k : Int} (h0 : 1 ≤ k) (h1 : k ≤ 10) : keys_letter.f k = some (ba [lett k]) := by
  rcases ten h0 h1 with rfl | rfl | rfl | rfl | rfl | rfl | rfl | rfl | rfl | rfl <;> decide +kernel
theorem number_f (n : Int) : keys_number.f n = some (ba (n3 n)) := rfl
theorem nums_ba (l : List Int) : strOfNums l = ba (l.map u8) := rfl
theorem n3_len (n : Int) : (n3 n).length = 3 := rfl
theorem n2_len (n : Int) : (n2 n).length = 2 := rfl
theorem lett_inj {k j : Int} (h0 : 1 ≤ k) (h1 : k ≤ 10) (h2 : 1 ≤ j) (h3 : j ≤ 10) (h : lett k = lett j) : k = j := by
  rcases ten h0 h1 with rfl | rfl | rfl | rfl | rfl | rfl | rfl | rfl | rfl | rfl <;> rcases ten h2 h3 with rfl | rfl | rfl | rfl | rfl | rfl | rfl | rfl | rfl | rfl <;> first | rfl | (exfalso; revert h; decide)

theorem bytes_f {k : Int} {A B : List UInt8} {N M : Int} (h : May k A B N M) (f : Nat) : keys_Bytes.f (f + 1) k (ba A) (ba B) N M = some (ba (byts k A B N M), 0) := by
  have hl := letter_f h.range.1 h.range.2
  have hc : keys_Check.f k (ba A) (ba B) N M = some 0 := by unfold keys_Check.f; rw [(may_check _ _ _ _ _).2 h]
  unfold keys_Bytes.f
  rw [hc]
  simp only [Option.bind_some, ↓reduceIte, hl]
  cases h with
  | count => rfl
  | inode => rfl
  | chunk => rfl
  | entry A N hA =>
    have := hA.2.1
    simp (disch := omega) [number_f, ba_app, ba_sz, n3_len, if_pos, byts, body]
  | one k A hk hA =>
    have := hA.2.1
    rcases hk with rfl | rfl | rfl <;> simp (disch := omega) [keys_Bytes.j0, number_f, ba_app, ba_sz, n3_len, if_pos, byts, body]
  | two k A B hk hA hB =>
    have := hA.2.1
    have := hB.2.1
    rcases hk with rfl | rfl <;> simp (disch := omega) [keys_Bytes.j0, number_f, ba_zero, ba_app, ba_sz, n3_len, if_pos, byts, body]
  | gen A N hA =>
    have := hA.2.1
    simp (disch := omega) [keys_Bytes.j0, number_f, ba_zero, ba_app, ba_sz, n3_len, if_pos, byts, body]
theorem bytes_no {k : Int} {A B : List UInt8} {N M : Int} (h : ¬ May k A B N M) (f : Nat) : keys_Bytes.f f k (ba A) (ba B) N M = some (ba [], 1) := by
  have h1 : checkB k (ba A) (ba B) N M = 1 := (check_01 _ _ _ _ _).resolve_left fun h0 => h ((may_check _ _ _ _ _).1 h0)
  unfold keys_Bytes.f keys_Check.f
  rw [h1]
  rfl

def PreOk (k : Int) (A : List UInt8) (N : Int) : Prop := if k = 3 ∨ k = 4 then 1 ≤ N ∧ N ≤ 16777215 else if k = 6 ∨ k = 7 ∨ k = 9 then nm A else 1 ≤ k ∧ k ≤ 10
def pre (k : Int) (A : List UInt8) (N : Int) : List UInt8 := if k = 3 ∨ k = 4 then n3 N else if k = 6 ∨ k = 7 ∨ k = 9 then A ++ [0] else []
theorem name_f (A : List UInt8) : keys_name.f (ba A) = some (nameB (ba A)) := by
  unfold keys_name.f nameB
  by_cases h1 : A = []
  · subst h1; rw [ba_tl]; rfl
  · rw [ba_tl, if_neg h1]
    have h0 : (A.isEmpty) = false := by simpa using h1
    by_cases h2 : ((ba A).size : Int) ≤ 64
    · have h3 : (ba A).size ≤ 1000000 := by omega
      rw [if_pos h2]
      unfold strings_ContainsAny.f
      rw [if_pos ⟨h3, rfl⟩]
      simp [h0, h2]
    · rw [if_neg h2]
      simp [h0, h2]
theorem within_f (n l h : Int) : keys_within.f n l h = some (withinB n l h) := by
  unfold keys_within.f withinB
  split <;> rename_i h0
  · have : l ≤ n := h0
    simp [this]
  · have : ¬ l ≤ n := h0
    simp [this]
theorem prefix_ok {k : Int} {A B : List UInt8} {N M : Int} (hA : A.length ≤ 1000) (h : PreOk k A N) (f : Nat) : keys_Prefix.f (f + 2) k (ba A) (ba B) N M = some (ba (lett k :: pre k A N), 0) := by
  have hr : 1 ≤ k ∧ k ≤ 10 := by
    unfold PreOk at h
    split at h
    · omega
    split at h
    · omega
    · exact h
  have hl := letter_f hr.1 hr.2
  unfold PreOk at h
  unfold keys_Prefix.f
  rw [within_f]
  rcases ten hr.1 hr.2 with rfl | rfl | rfl | rfl | rfl | rfl | rfl | rfl | rfl | rfl
  all_goals simp at h
  all_goals try (have hn := (nm_iff A).2 h)
  all_goals try (have hw := (within_iff N 1 16777215).2 h)
  all_goals simp (disch := omega) [keys_Prefix.j0, keys_Prefix.j1, within_f, name_f, number_f, hl, ba_nil, ba_zero, ba_app, ba_sz, n3_len, if_pos, pre, withinB, *]
theorem prefix_no {k : Int} {A B : List UInt8} {N M : Int} (hA : A.length ≤ 1000) (h : ¬ PreOk k A N) (f : Nat) : keys_Prefix.f (f + 2) k (ba A) (ba B) N M = some (ba [], 1) := by
  unfold PreOk at h
  unfold keys_Prefix.f
  rw [within_f]
  by_cases h3 : k = 3 ∨ k = 4
  · rw [if_pos h3] at h
    have hw : withinB N 1 16777215 = false := by rw [← Bool.not_eq_true, within_iff]; exact h
    rcases h3 with rfl | rfl <;> simp [keys_Prefix.j0, within_f, number_f, hw, ba_nil]
  rw [if_neg h3] at h
  by_cases h6 : k = 6 ∨ k = 7 ∨ k = 9
  · rw [if_pos h6] at h
    have hn : nameB (ba A) = false := by rw [← Bool.not_eq_true, nm_iff]; exact h
    rcases h6 with rfl | rfl | rfl <;> simp (disch := omega) [keys_Prefix.j0, keys_Prefix.j1, name_f, hn, ba_nil, ba_sz, if_pos]
  rw [if_neg h6] at h
  have hw : withinB k 1 10 = false := by rw [← Bool.not_eq_true, within_iff]; exact h
  have e1 : ¬ k = 3 := by omega
  have e2 : ¬ k = 4 := by omega
  have e3 : ¬ k = 6 := by omega
  have e4 : ¬ k = 7 := by omega
  have e5 : ¬ k = 9 := by omega
  simp [keys_Prefix.j0, keys_Prefix.j1, e1, e2, e3, e4, e5, hw, ba_nil]
end Go.Proofs.YtcohfhclcoiigaaX
