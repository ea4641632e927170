/- Narw: a file's texts, and how long what is laid down is: plain laws. No walk. -/
import Derived.Test.YtlcaogiljiieaaaQNarwFx3
import Derived.Test.YtlcaogiljiieaaaEv
set_option linter.unusedVariables false
set_option linter.unusedSimpArgs false
namespace Go.Proofs.YtlcaogiljiieaaaX
open Go.RowKit Go.Proofs.Ytlcaogiljiieaaa.PNarwF Go.Proofs.YtlcaogiljiieaaaW.PrintWords Go.Proofs.YtlcaogiljiieaaaW.PrintLast Go.Proofs.YtlcaogiljiieaaaW.PrintMore

/-- How many bytes a text is laid down as. -/
def len8 (n : Nat) : Nat := 8 + (n + 7) / 8 * 8
def sum8 : List ByteArray → Nat
  | [] => 0
  | t :: l => len8 t.size + sum8 l
theorem sum8_app : ∀ a b, sum8 (a ++ b) = sum8 a + sum8 b
  | [], b => by simp [sum8]
  | t :: a, b => by rw [List.cons_append, sum8, sum8, sum8_app a b]; omega
theorem sum8_take (l : List ByteArray) (i : Nat) (hi : i < l.length) : sum8 (l.take (i + 1)) = sum8 (l.take i) + len8 l[i].size := by
  rw [List.take_add_one, List.getElem?_eq_getElem hi, sum8_app]
  rfl
theorem sum8_take_le (l : List ByteArray) (i : Nat) : sum8 (l.take i) ≤ sum8 l := by
  conv => rhs; rw [← List.take_append_drop i l, sum8_app]
  omega
theorem rd_at (l : List ByteArray) (i : Nat) (hi : i < l.length) : rdOf ByteArray.empty l (i : Int) = l[i] := by
  unfold rdOf
  rw [Int.toNat_natCast, List.getD_eq_getElem?_getD, List.getElem?_eq_getElem hi]
  rfl
theorem tdiv8 (n : Nat) (h : n ≤ 100000000) : wrap64 (8 + wrap64 (wrap64 (Int.tdiv (wrap64 ((n : Int) + 7)) 8) * 8)) = ((len8 n : Nat) : Int) := by
  have e1 : wrap64 ((n : Int) + 7) = (n : Int) + 7 := w64 (by omega) (by omega)
  have e2 : Int.tdiv ((n : Int) + 7) 8 = ((n : Int) + 7) / 8 := Int.tdiv_eq_ediv_of_nonneg (by omega)
  have e3 : wrap64 (((n : Int) + 7) / 8) = ((n : Int) + 7) / 8 := w64 (by omega) (by omega)
  have e4 : wrap64 (((n : Int) + 7) / 8 * 8) = ((n : Int) + 7) / 8 * 8 := w64 (by omega) (by omega)
  rw [e1, e2, e3, e4, w64 (by omega) (by omega)]
  unfold len8
  omega
/-- What a file's archive holds. -/
theorem texts_one (k : Nat) (d : ByteArray) (x : Bool) (hd : d.size ≤ 65536) : narw_Texts.f k [⟨⟨#[]⟩, 1, x, d⟩] = some ([tMagic] ++ fileTexts ⟨⟨#[]⟩, 1, x, d⟩, 0) := by
  have hp : fsys_Path.f ⟨#[]⟩ = some (([] : List ByteArray), 0) := by
    unfold fsys_Path.f
    rw [if_pos (by decide)]
    have h0 : (⟨#[]⟩ : ByteArray).toList = [] := by rw [ByteArray.toList_eq]
    unfold pathF pathNames
    rw [if_pos h0, if_pos ⟨rfl, .inl h0⟩]
  have hm : tree_may.f ⟨#[]⟩ 1 x d = some true := by
    unfold tree_may.f
    rw [hp, Option.bind_some, if_pos rfl, if_pos rfl, decide_eq_true (by omega)]
  have hc : tree_Check.f k [⟨⟨#[]⟩, 1, x, d⟩] = some 0 := by
    unfold tree_Check.f
    rw [if_neg (by simp)]
    dsimp only
    rw [if_pos rfl]
    unfold tree_CheckGo
    rw [if_pos (show (⟨⟨#[]⟩, 1, x, d⟩ : S27).f0.size ≤ 1000000 from Nat.zero_le _)]
    dsimp only
    rw [hm, Option.bind_some, if_pos rfl, Option.bind_some, if_pos rfl]
    rfl
  unfold narw_Texts.f
  rw [hc, Option.bind_some, if_pos rfl]
  dsimp only
  rw [if_pos rfl]
theorem texts_sum (d : ByteArray) (x : Bool) : sum8 ([tMagic] ++ fileTexts ⟨⟨#[]⟩, 1, x, d⟩) = 112 + (d.size + 7) / 8 * 8 + (if x = true then 32 else 0) := by
  cases x
  · show len8 13 + (len8 1 + (len8 4 + (len8 7 + (len8 8 + (len8 d.size + (len8 1 + 0)))))) = 112 + (d.size + 7) / 8 * 8 + 0
    unfold len8
    omega
  · show len8 13 + (len8 1 + (len8 4 + (len8 7 + (len8 10 + (len8 0 + (len8 8 + (len8 d.size + (len8 1 + 0)))))))) = 112 + (d.size + 7) / 8 * 8 + 32
    unfold len8
    omega
theorem size_ev (l : List S27) (ts : List ByteArray) (e : Int) (h : Ev (fun k => narw_Texts.f k l) (ts, e)) (hs : ∀ t ∈ ts, t.size ≤ 100000000) (hb : sum8 ts ≤ 4000000000) (hn : ts.length ≤ 1000000) : Ev (fun k => narw_Size.f k l) (((sum8 ts : Nat) : Int), e) := by
  refine Ev.bind (f := fun k t => _) h ?_
  refine ev_go (fun i k => narw_Size.l0 k e ((sum8 (ts.take i) : Nat) : Int) ts (ts.length : Int) (i : Int)) ts.length (fun i hi k => ?_) ?_
  · show narw_Size.l0 (k + 1) _ _ _ _ _ = _
    rw [narw_Size.l0, if_pos (by omega), if_pos (by omega), if_pos (by omega), rd_at ts i hi, tdiv8 _ (hs _ (List.getElem_mem hi)), w1 hi (by omega)]
    have h1 := sum8_take ts i hi
    have h2 := sum8_take_le ts (i + 1)
    rw [w64 (by omega) (by omega), h1]
    congr 1
  · refine Ev.step (f := fun _ => some (((sum8 ts : Nat) : Int), e)) (fun k => ?_) (Ev.now _)
    show narw_Size.l0 (k + 1) _ _ _ _ _ = _
    rw [narw_Size.l0, if_neg (by omega), List.take_length]
/-- A number's eight bytes. -/
theorem put_ev (n : Int) (h0 : 0 ≤ n) (h1 : n ≤ 2147483647) : ∃ r : List Int, Ev (fun k => wire_Put.f k [] n) (r, 0) ∧ r.length = 8 := by
  refine ⟨(List.range 8).map (fun j : Nat => (shr .i64 n (wrap64 (8 * (j : Int)))) % 256), ?_, by simp⟩
  have hj : Ev (fun k => wire_Put.j0 k [] n false) ((List.range 8).map (fun j : Nat => (shr .i64 n (wrap64 (8 * (j : Int)))) % 256), 0) := by
    refine Ev.step (f := fun k => wire_Put.l0 k n [] 0) (fun k => ?_) ?_
    · show wire_Put.j0 (k + 1) _ _ _ = _
      rw [wire_Put.j0, if_neg (by decide)]
      unfold slices_Clone_byte_byte.f
      rw [if_pos (by decide), Option.bind_some]
    · refine ev_go (fun i k => wire_Put.l0 k n ((List.range i).map (fun j : Nat => (shr .i64 n (wrap64 (8 * (j : Int)))) % 256)) (i : Int)) 8 (fun i hi k => ?_) ?_
      · show wire_Put.l0 (k + 1) _ _ _ = _
        rw [wire_Put.l0, if_pos (by omega), if_pos (by rw [w64 (by omega) (by omega)]; omega), if_pos (by simp; omega), w1 hi (by omega), List.range_succ, List.map_append]
        rfl
      · refine Ev.step (f := fun _ => some (((List.range 8).map (fun j : Nat => (shr .i64 n (wrap64 (8 * (j : Int)))) % 256)), (0 : Int))) (fun k => ?_) (Ev.now _)
        show wire_Put.l0 (k + 1) _ _ _ = _
        rw [wire_Put.l0, if_neg (by decide)]
  refine Ev.congr (fun k => ?_) hj
  unfold wire_Put.f
  rw [if_neg (by omega), decide_eq_false (by omega)]
theorem putText_ev (s : ByteArray) (hs : s.size ≤ 100000000) : ∃ r : List Int, Ev (fun k => wire_PutText.f k [] s) r ∧ r.length = len8 s.size := by
  obtain ⟨r, hr, hl⟩ := put_ev (s.size : Int) (by omega) (by omega)
  have hpad : wire_pad.f (s.size : Int) = some (((8 - s.size % 8) % 8 : Nat) : Int) := by
    unfold wire_pad.f
    have e1 : Int.tmod (s.size : Int) 8 = (s.size : Int) % 8 := Int.tmod_eq_emod_of_nonneg (by omega)
    have e2 : wrap64 (8 - (s.size : Int) % 8) = 8 - (s.size : Int) % 8 := w64 (by omega) (by omega)
    have e3 : Int.tmod (8 - (s.size : Int) % 8) 8 = (8 - (s.size : Int) % 8) % 8 := Int.tmod_eq_emod_of_nonneg (by omega)
    rw [e1, e2, e3]
    congr 1
    omega
  refine ⟨r ++ bytesOf s ++ List.replicate ((8 - s.size % 8) % 8) 0, ?_, by simp [bytesOf_length, hl, len8]; omega⟩
  refine Ev.bind (f := fun k t => _) hr ?_
  refine Ev.congr (fun k => ?_) (Ev.now _)
  have hl2 : (r ++ bytesOf s).length = 8 + s.size := by rw [List.length_append, bytesOf_length, hl]
  rw [if_pos (show r.length + s.size < 140737488355328 by omega), Option.bind_some, hpad, Option.bind_some, if_pos (by omega), if_pos (by rw [hl2, Int.toNat_natCast]; omega), Int.toNat_natCast]
theorem bytes_ev (l : List S27) (ts : List ByteArray) (h : Ev (fun k => narw_Texts.f k l) (ts, 0)) (hs : ∀ t ∈ ts, t.size ≤ 100000000) (hb : sum8 ts ≤ 4000000000) (hn : ts.length ≤ 1000000) : ∃ r : List Int, Ev (fun k => narw_Bytes.f k l) (r, 0) ∧ r.length = sum8 ts := by
  have key : ∀ m i (acc : List Int), i + m = ts.length → acc.length = sum8 (ts.take i) → ∃ r : List Int, Ev (fun k => narw_Bytes.l0 k acc ts (ts.length : Int) (i : Int)) (r, 0) ∧ r.length = sum8 ts := by
    intro m
    induction m with
    | zero =>
      intro i acc hi ha
      refine ⟨acc, Ev.step (f := fun _ => some (acc, (0 : Int))) (fun k => ?_) (Ev.now _), ?_⟩
      · show narw_Bytes.l0 (k + 1) _ _ _ _ = _
        rw [narw_Bytes.l0, if_neg (by omega)]
      · rw [ha, show i = ts.length by omega, List.take_length]
    | succ m ih =>
      intro i acc hi ha
      have hlt : i < ts.length := by omega
      obtain ⟨p, hp, hpl⟩ := putText_ev ts[i] (hs _ (List.getElem_mem hlt))
      have h1 := sum8_take ts i hlt
      have h2 := sum8_take_le ts (i + 1)
      obtain ⟨r, hr, hrl⟩ := ih (i + 1) (acc ++ p) (by omega) (by rw [List.length_append, ha, hpl, h1])
      refine ⟨r, Ev.step (f := fun k => (wire_PutText.f k [] ts[i]).bind fun t => if acc.length + t.length < 140737488355328 then narw_Bytes.l0 k (acc ++ t) ts (ts.length : Int) ((i + 1 : Nat) : Int) else none) (fun k => ?_) (Ev.bind (f := fun k t => _) hp (Ev.congr (fun k => if_pos (by omega)) hr)), hrl⟩
      show narw_Bytes.l0 (k + 1) _ _ _ _ = _
      rw [narw_Bytes.l0, if_pos (by omega), if_pos (by omega), if_pos (by omega), rd_at ts i hlt, w1 hlt (by omega)]
  obtain ⟨r, hr, hrl⟩ := key ts.length 0 [] (by omega) rfl
  refine ⟨r, Ev.bind (f := fun k t => _) h (Ev.congr (fun k => if_pos rfl) hr), hrl⟩
/-- The document's text is as long. -/
theorem rtext_ev (s : ByteArray) (hs : s.size ≤ 100000000) : ∃ r : List Int, Ev (fun k => chandleryref01_Text.f k s) r ∧ r.length = len8 s.size := by
  have hnum : ∀ m i (x : Int) (acc : List Int), i + m = 8 → acc.length = i → ∃ r : List Int, Ev (fun k => chandleryref01_Number.l0 k x acc (i : Int)) r ∧ r.length = 8 := by
    intro m
    induction m with
    | zero =>
      intro i x acc hi ha
      refine ⟨acc, Ev.step (f := fun _ => some acc) (fun k => ?_) (Ev.now _), by omega⟩
      show chandleryref01_Number.l0 (k + 1) _ _ _ = _
      rw [chandleryref01_Number.l0, if_neg (by omega)]
    | succ m ih =>
      intro i x acc hi ha
      obtain ⟨r, hr, hrl⟩ := ih (i + 1) (wrap64 (Int.tdiv x 256)) (acc ++ [(Int.tmod x 256) % 256]) (by omega) (by simp [ha])
      refine ⟨r, Ev.step (fun k => ?_) hr, hrl⟩
      show chandleryref01_Number.l0 (k + 1) _ _ _ = _
      rw [chandleryref01_Number.l0, if_pos (by omega), if_pos (by omega), w1 (n := 8) (by omega) (by omega)]
  have hpad : ∀ m (acc : List Int), (acc.length + m) % 8 = 0 → m < 8 → acc.length ≤ 1000000000 → Ev (fun k => chandleryref01_Text.l0 k acc) (acc ++ List.replicate m 0) := by
    intro m
    induction m with
    | zero =>
      intro acc ha _ _
      refine Ev.step (f := fun _ => some (acc ++ List.replicate 0 0)) (fun k => ?_) (Ev.now _)
      show chandleryref01_Text.l0 (k + 1) _ = _
      rw [chandleryref01_Text.l0, if_pos (by omega)]
      simp
    | succ m ih =>
      intro acc ha hm hl
      have h := ih (acc ++ [0]) (by simp; omega) (by omega) (by simp; omega)
      rw [List.append_assoc, show [0] ++ List.replicate m (0 : Int) = List.replicate (m + 1) 0 from rfl] at h
      refine Ev.step (fun k => ?_) h
      show chandleryref01_Text.l0 (k + 1) _ = _
      rw [chandleryref01_Text.l0, if_neg (by omega), if_pos (by omega)]
  obtain ⟨r, hr, hrl⟩ := hnum 8 0 (s.size : Int) [] rfl rfl
  refine ⟨r ++ bytesOf s ++ List.replicate ((8 - s.size % 8) % 8) 0, ?_, by simp [bytesOf_length, hrl, len8]; omega⟩
  refine Ev.bind (f := fun k t => _) hr ?_
  refine Ev.congr (fun k => if_pos (by omega)) ?_
  exact hpad _ _ (by rw [List.length_append, bytesOf_length, hrl]; omega) (by omega) (by rw [List.length_append, bytesOf_length, hrl]; omega)
end Go.Proofs.YtlcaogiljiieaaaX
