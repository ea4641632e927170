import Derived.Test.YthnchdbkgenjhaaDoorWWords
import Derived.Test.YthnchdbkgenjhaaDoorWLast
import Derived.Test.YthnchdbkgenjhaaDoorWMore
set_option linter.unusedVariables false
set_option linter.unusedSimpArgs false
/- Words that the print lacks, in its own form: append(own bytes, text...) with where the row lies; append(own bytes, []byte(text)...); make([]T, 0, c). -/
namespace Go.Proofs.YthnchdbkgenjhaaDoorX
open Go.RowKit Go.Proofs.YthnchdbkgenjhaaDoorW.PrintWords Go.Proofs.YthnchdbkgenjhaaDoorW.PrintLast Go.Proofs.YthnchdbkgenjhaaDoorW.PrintMore
section
variable {P : Program}
theorem append_str_where (w : World) (base : Nat) (t u ty e : TypeId) (i : TypeInfo) (ht : P.underlying t = some (.slice e)) (hu : P.underlying u = some .string) (hi : P.info? e = some i) (hz : i.zero = some (.int .u8 0)) (hsize : i.size = 1) (hby : i.bytes = 1)
    (v : Value) (n : Nat) (xs : List Value) (hown : w.ownsRow base e 1 v n xs) (s : ByteArray) (hb : n + s.size ≤ 140737488355328)
    (v' : Value) (w' : World) (hr : (Builtin.append_ #[t, u] ty #[v, .string s]).run P w = .ok v' w') : v'.ownBlock = v.ownBlock ∨ v'.ownBlock = some w.heap.size := by
  have hxl : xs.length = n := by simpa using hown.1
  rcases hown.2 with ⟨rfl, rfl⟩ | ⟨g, cap, cur, rfl, hbg, hg, hnc, hcm, hcs, htake⟩
  · by_cases hm : s.size = 0
    · have hf := Lib.run_firstCells_string (P := P) w 1 s
      rw [hm] at hf
      have h0 : (Builtin.append_ #[t, u] ty #[.slice none 0 0, .string s]).run P w = .ok (.slice none 0 0) w := by
        simp [Builtin.append_, run_underlying ht, run_underlying hu, sizeOf, typeInfo, hi, hsize, Builtin.lenOf, hm, hf]
      rw [h0] at hr
      injection hr with h1 h2
      exact .inl (by rw [← h1])
    · rw [run_append_nil_string (P := P) w t u ty e i (.int .u8 0) ht hu hi hz s (by omega) (by omega) (by rw [hby]; omega)] at hr
      injection hr with h1 h2
      exact .inr (by rw [← h1]; rfl)
  · by_cases hroom : n + s.size ≤ cap
    · have hcs' : cur.size = cap := by simpa using hcs
      rw [Lib.run_append_room_string (P := P) w t u ty e i ht hu hi hsize g n cap cur hg s hroom (by omega)] at hr
      injection hr with h1 h2
      exact .inl (by rw [← h1]; rfl)
    · have holds : ∀ j u, xs[j]? = some u → w.cell? ((⟨g, 0, none⟩ : Addr).add j) = some u := hown.cells (g := g) rfl
      rw [Lib.run_append_grow_string (P := P) w t u ty e i (.int .u8 0) ht hu hi hz ⟨g, 0, none⟩ n cap xs (by rw [hsize]; simpa using hxl) holds s (by omega) (by omega) (by rw [hby]; exact growslice_fits (by omega) (by omega))] at hr
      injection hr with h1 h2
      exact .inr (by rw [← h1]; rfl)
variable {ops : Array Oper} {rest : List Oper} {o : Oper} {a : Act} {Q : Exit → Act → World → Prop} {Kc : Act → World → Prop}
theorem own_ok {W : World} {v v1 : Value} {ok : Nat → Prop} (h0 : ∀ k, v.ownBlock = some k → ok k) (hfresh : ∀ k, W.heap.size ≤ k → ok k) (hat : v1.ownBlock = v.ownBlock ∨ ∃ b, v1.ownBlock = some b ∧ W.heap.size ≤ b) : ∀ k, v1.ownBlock = some k → ok k := by
  intro k hk
  rcases hat with hat | ⟨b, hat, hb⟩
  · exact h0 k (by rw [← hat]; exact hk)
  · rw [hat] at hk
    injection hk with hk
    exact hfresh k (by omega)
theorem str_run {W : World} (base : Nat) (t u ty e : TypeId) (ht : P.underlying t = some (.slice e)) (hu : P.underlying u = some .string) (hinfo : (P.info? e).map (fun i => (i.zero, i.size, i.bytes)) = some (some (.int .u8 0), 1, 1))
    (v : Value) (xs : List Int) (y : ByteArray) (ok : Nat → Prop) (hfresh : ∀ k, W.heap.size ≤ k → ok k)
    (HO : (Kd.int .u8).R e W base ok v xs) (hbase : base ≤ W.heap.size) (hl : xs.length + y.size ≤ 140737488355328) :
    ∃ v1 w1, (Builtin.append_ #[t, u] ty #[v, .string y]).run P W = .ok v1 w1 ∧ (Kd.int .u8).R e w1 base ok v1 (xs ++ bytesOf y) ∧ W.grownBy w1 v.ownBlock ∧ (v1.ownBlock = v.ownBlock ∨ ∃ b, v1.ownBlock = some b ∧ W.heap.size ≤ b) := by
  obtain ⟨i0, hi, hzz⟩ := Option.map_eq_some_iff.1 hinfo
  simp only [Prod.mk.injEq] at hzz
  obtain ⟨hz0, hz1, hz2⟩ := hzz
  have HO' : W.ownsRow base e 1 v xs.length (nums .u8 xs) := Kd.own_of_R HO
  obtain ⟨v1, w1, hr, hown, hg, _⟩ := Lib.run_append_own_string (P := P) W base t u ty e i0 ht hu hi hz0 hz1 hz2 v xs.length (nums .u8 xs) HO' y (by simp only [maxLen]; omega) hl hbase
  have hat0 := append_str_where (P := P) W base t u ty e i0 ht hu hi hz0 hz1 hz2 v xs.length (nums .u8 xs) HO' y hl v1 w1 hr
  have hat : v1.ownBlock = v.ownBlock ∨ ∃ b, v1.ownBlock = some b ∧ W.heap.size ≤ b := by
    rcases hat0 with hat | hat
    · exact .inl hat
    · exact .inr ⟨_, hat, Nat.le_refl _⟩
  have hl2 : (xs ++ bytesOf y).length = xs.length + y.size := by rw [List.length_append, bytesOf_length]
  have hc : nums .u8 (xs ++ bytesOf y) = nums .u8 xs ++ Lib.strCells y := by
    rw [nums_append]
    congr 1
    simp [nums, bytesOf, Lib.strCells]
  have hown2 : w1.ownsRow base e 1 v1 (xs ++ bytesOf y).length (nums .u8 (xs ++ bytesOf y)) := by rw [hl2, hc]; exact hown
  exact ⟨v1, w1, hr, Kd.R_of_own hown2 (own_ok HO.1 hfresh hat), hg, hat⟩
theorem append_strR {w0 W : World} (base : Nat) (hgd : o.guard = none) (s x : Operand) (t u e : TypeId)
    (ho : o.op = .call { callee := .builtin .append, args := #[s, x], argTypes := #[t, u] })
    (ht : P.underlying t = some (.slice e)) (hu : P.underlying u = some .string) (hinfo : (P.info? e).map (fun i => (i.zero, i.size, i.bytes)) = some (some (.int .u8 0), 1, 1))
    (v : Value) (xs : List Int) (y : ByteArray) (ok : Nat → Prop) (hs : a.eval s = v) (hx : a.eval x = .string y) (hfresh : ∀ k, W.heap.size ≤ k → ok k)
    (HO : (Kd.int .u8).R e W base ok v xs) (HB : Below base w0 W) (hbase : base ≤ W.heap.size) (hl : xs.length + y.size ≤ 140737488355328)
    (h : ∀ v1 w1, (Kd.int .u8).R e w1 base ok v1 (xs ++ bytesOf y) → Below base w0 w1 → W.grownBy w1 v.ownBlock → (v1.ownBlock = v.ownBlock ∨ ∃ b, v1.ownBlock = some b ∧ W.heap.size ≤ b) → wpList P ops Q rest (a.put o.dst v1) w1) :
    wpList P ops Q (o :: rest) a W := by
  obtain ⟨v1, w1, hr, hR, hg, hat⟩ := str_run (P := P) base t u o.type e ht hu hinfo v xs y ok hfresh HO hbase hl
  refine wpList_plain hgd fun K hK => ?_
  unfold Oper.wp execOp
  simp only [ho, resolve, invoke, builtin, Sem.run_bind, Sem.run_pure, Result.andThen_ok, List.map_toArray, List.map_cons, List.map_nil, hs, hx, hr]
  exact hK _ _ (h v1 w1 hR (HB.grown hg hbase (own_base (Kd.own_of_R HO))) hg hat)
end
def convS {α : Type} (s : ByteArray) (g : List Int → Option α) : Option α := if s.size ≤ 9223372036854775807 then g (bytesOf s) else none
theorem cap_ge (W : World) (s : ByteArray) (e : TypeId) : s.size ≤ grownCap W s.size 0 e := by
  unfold grownCap
  exact Nat.le_add_right _ _
theorem conv_kd (W : World) (e : TypeId) (s : ByteArray) (hs : s.size ≤ 9223372036854775807) : Kd.C (Kd.int .u8) (Lib.bytesWorld W e s) (some ⟨W.heap.size, 0, none⟩) (bytesOf s).length (bytesOf s) := by
  rw [bytesOf_length]
  exact Kd.C_of_reads (d := (0 : Int)) (h1 := fun _ => rfl) (bytes_reads W e s hs)
theorem conv_behind {W W' : World} (e : TypeId) (s : ByteArray) (h : Below (Lib.bytesWorld W e s).heap.size (Lib.bytesWorld W e s) W') : Below W.heap.size W W' :=
  (bytes_below (Below.refl _ W) (Nat.le_refl _) e s).trans (h.mono (by rw [Lib.bytesWorld_size]; omega))
theorem conv_rows {P : Program} {f : FuncId} {F : List Int → Option ByteArray} (hc : ∀ (A0 : Option Addr) (c0 : Nat) (l0 : List Int) (r : ByteArray) (w : World), Kd.C (Kd.int .u8) w A0 l0.length l0 → l0.length ≤ c0 → F l0 = some r → Calls P f #[.slice A0 l0.length c0] w fun e w' => e = .returned (.string r) ∧ Below w.heap.size w w')
    (s r : ByteArray) (W : World) (e : TypeId) (h : convS s F = some r) : Calls P f #[.slice (some ⟨W.heap.size, 0, none⟩) s.size (grownCap W s.size 0 e)] (Lib.bytesWorld W e s) fun e' w' => e' = .returned (.string r) ∧ Below W.heap.size W w' := by
  unfold convS at h
  by_cases c : s.size ≤ 9223372036854775807
  · rw [if_pos c] at h
    have h2 := hc (some ⟨W.heap.size, 0, none⟩) (grownCap W s.size 0 e) (bytesOf s) r (Lib.bytesWorld W e s) (conv_kd W e s c) (by rw [bytesOf_length]; exact cap_ge W s e) h
    rw [bytesOf_length] at h2
    exact h2.mono fun e' w' hh => ⟨hh.1, conv_behind e s hh.2⟩
  · rw [if_neg c] at h; cases h
end Go.Proofs.YthnchdbkgenjhaaDoorX
/- A row that a call hands back by V. -/
namespace Go.Proofs.YthnchdbkgenjhaaDoorX
open Go.RowKit Go.Proofs.YthnchdbkgenjhaaDoorW.PrintWords Go.Proofs.YthnchdbkgenjhaaDoorW.PrintLast Go.Proofs.YthnchdbkgenjhaaDoorW.PrintMore
/-- A row that a call hands back by V, all of it new: as a row of R is told. -/
theorem V_fresh {α : Type} {d : Kd α} {e : TypeId} {W : World} {base : Nat} {v : Value} {xs : List α} (h : Kd.V d e W base (fun k => base ≤ k) v xs) : Kd.V d e W base (fun k => True ∧ base ≤ k ∧ k < W.heap.size ∧ True) v xs :=
  Kd.V_mono (Kd.V_bound h) fun k hk => ⟨trivial, hk.1, hk.2, trivial⟩
theorem V_string {P : Program} {src e dst e' : TypeId} {W : World} {base : Nat} {ok : Nat → Prop} {v : Value} {xs : List Int} (hs : P.underlying src = some (.slice e)) (he : P.underlying e = some (.int .u8)) (hd : P.underlying dst = some .string) (h : Kd.V (Kd.int .u8) e' W base ok v xs) : (convert src dst v).run P W = .ok (.string (strOfNums xs)) W := by
  obtain ⟨A, c, rfl⟩ := Kd.V_slice h
  exact Kd.C_string hs he hd (Kd.V_reads' h).2.2
end Go.Proofs.YthnchdbkgenjhaaDoorX
