/- (*scan.Scanner).Write: the walk. -/
import Derived.Test.YtkmnjekbacdfoaaScanScn
import Derived.Test.YtkmnjekbacdfoaaScanConcat
set_option linter.unusedVariables false
set_option linter.unusedSimpArgs false
namespace Go.Proofs.YtkmnjekbacdfoaaX
open Go.RowKit Go.Maps Go.Proofs.YtkmnjekbacdfoaaW.PrintWords Go.Proofs.YtkmnjekbacdfoaaW.PrintLast Go.Proofs.YtkmnjekbacdfoaaW.PrintMore
attribute [local go_sem] max2_int min2_int max_two min_two max_three min_three max_four min_four

theorem rest_run (A : Option Addr) (n c m : Nat) (hm : m ≤ n) (W : World) : (Instr.slice 22 (.slice A n c) (some (.int .i64 (m : Int))) none none).run Try.prog W = .ok (.slice (if c = m then A else A.map (·.add m)) (n - m) (c - m)) W := by
  have hel : Try.prog.elem 22 = 5 := by simp [Program.elem, Try.underlying22]
  have hu : Try.prog.underlying 22 = some (.slice (Try.prog.elem 22)) := by rw [hel]; exact Try.underlying22
  obtain ⟨i0, hi0, hsz⟩ := Option.map_eq_some_iff.1 (show (Try.prog.info? 5).map (fun i => i.size) = some 1 by kernel_rfl)
  rw [run_slice_l W 22 A n c hu .i64 (m : Int) (by omega) (by omega), hel]
  simp [sizeOf, typeInfo, hi0, hsz, sliced, Result.andThen]
theorem wraps (k n : Nat) (hk : k ≤ 2000000) (hn : n ≤ 1001000) : wrap64 ((k : Int) + 32) = (k : Int) + 32 ∧ wrap64 ((k : Int) + 1) = (k : Int) + 1 ∧ wrap64 ((n : Int) - 32) = (n : Int) - 32 ∧ wrap64 ((n : Int) - 32 + 1) = (n : Int) - 32 + 1 ∧ (if ((n : Int) - 32 + 1) < 0 then (0 : Int) else (n : Int) - 32 + 1) = ((n - 31 : Nat) : Int) :=
  ⟨w64 (by omega) (by omega), w64 (by omega) (by omega), w64 (by omega) (by omega), w64 (by omega) (by omega), by split <;> omega⟩
theorem hits_le (l : List ByteArray) (all : List Int) (a b : Nat) (h : a ≤ b) : (hits l all a).length ≤ (hits l all b).length := by
  induction b with
  | zero => rw [Nat.le_zero.1 h]; exact Nat.le_refl _
  | succ b ih =>
    rcases Nat.lt_or_ge a (b + 1) with h1 | h1
    · rw [hits_succ, List.length_append]
      have := ih (by omega)
      omega
    · rw [show a = b + 1 by omega]; exact Nat.le_refl _
theorem cut_size (all : List Int) (k : Nat) : (cutAt all k).size ≤ 1000 := by
  have h : (cutAt all k).size = ((all.take (k + 32)).drop k).length := by
    unfold cutAt strOfNums
    show (List.toArray _).size = _
    simp
  rw [h, List.length_drop, List.length_take]
  omega
theorem meas (n k : Nat) (h : k + 32 ≤ n) : n - 31 - (intOf (.int .i64 ((k : Int) + 1))).toNat < n - 31 - (intOf (.int .i64 (k : Int))).toNat := by
  show n - 31 - ((k : Int) + 1).toNat < n - 31 - (k : Int).toNat
  omega
theorem set_kept {W : World} {B i : Nat} {u : Value} (k : Nat) (h : k ≠ B) : (W.setCell ⟨B, i, none⟩ u).heap[k]? = W.heap[k]? := by
  simp [World.setCell, Array.getElem?_modify, Ne.symm h]
theorem R_set {α : Type} {d : Kd α} {e base B i : Nat} {W : World} {v u : Value} {xs : List α} (h : d.R e W base (fun _ => True) v xs) (hb : B < base) : d.R e (W.setCell ⟨B, i, none⟩ u) base (fun _ => True) v xs :=
  Kd.R_mono (Kd.R_move (Kd.R_bound h) fun k hk => set_kept k (by have := hk.2.1; omega)) (fun _ _ => trivial)
/-- The last bytes of a row, kept. -/
theorem rst_of {W : World} {lo k c : Nat} {A : Option Addr} {all : List Int} (h : Kd.R (Kd.int .u8) 5 W lo (fun _ => True) (.slice A all.length c) all) (hk : k ≤ all.length) : RstOK W lo (.slice (if c = k then A else A.map (·.add k)) (all.length - k) (c - k)) (all.drop k) := by
  obtain ⟨_, hc, hC⟩ := Kd.R_reads' h
  have h2 := Kd.C_drop (c := c) hC hk hc
  refine ⟨_, _, by rw [List.length_drop], by rw [List.length_drop]; omega, ?_, fun ad e => ?_⟩
  · have e1 : k * (Kd.int .u8).sz = k := Nat.mul_one k
    rw [e1] at h2
    exact h2
  · have : ∃ ad0, A = some ad0 ∧ ad.block = ad0.block := by
      split at e
      · exact ⟨ad, e, rfl⟩
      · cases A with
        | none => cases e
        | some ad0 =>
          injection e with e
          exact ⟨ad0, rfl, by rw [← e]; show (Addr.add ad0 k).block = _; unfold Addr.add; split <;> rfl⟩
    obtain ⟨ad0, rfl, e2⟩ := this
    rw [e2]
    obtain ⟨inner, ho⟩ := Kd.R_own h
    obtain ⟨cells, hcl⟩ := own_typed ho ad0.block rfl
    exact ⟨Kd.R_base h _ rfl, cells, hcl⟩
set_option maxHeartbeats 4000000 in
set_option maxRecDepth 100000 in
theorem write_calls (B top rlo : Nat) (l : List ByteArray) (rs : List Int) (fs : List ByteArray) (A : Option Addr) (c : Nat) (b : List Int) (w : World) (hS : Sc w B top rlo l rs fs) (hb : Kd.C (Kd.int .u8) w A b.length b) (hc : b.length ≤ c)
    (hr : rs.length ≤ 1000) (hn : b.length ≤ 1000000) (hf : fs.length + (hits l (rs ++ b) (rs.length + b.length - 31)).length ≤ 1000000000) :
    Calls Try.prog 14 #[.pointer (some ⟨B + 1, 0, none⟩), .slice A b.length c] w fun e w' => e = .returned (.int .i64 0) ∧ Kept1 B top w w' ∧
      Sc w' B top w.heap.size l ((rs ++ b).drop (rs.length + b.length - 31)) (fs ++ hits l (rs ++ b) (rs.length + b.length - 31)) := by
  obtain ⟨⟨rv, fv, hblk, ⟨A1, c1, rfl, hc1, hC1, hA1⟩, hF⟩, hT, hle⟩ := hS
  have HF := Aside0.mk hF
  have HT := Aside0.mk hT
  have HBL := Aside0.mk hblk
  have HC1 := Aside0.mk hC1
  have HB := Aside0.mk hb
  have HH := Aside0.mk hf
  have x0 : w.cell? ⟨B + 1, 0, none⟩ = some (.map (some B)) := (blk_cell hblk 0).trans rfl
  have x1 : w.cell? ⟨B + 1, 1, none⟩ = some (.slice A1 rs.length c1) := (blk_cell hblk 1).trans rfl
  have x2 : w.cell? ⟨B + 1, 2, none⟩ = some fv := (blk_cell hblk 2).trans rfl
  clear hF hT hblk hC1 hb hf
  go_enter Try.func14, Try.ntmps14
  have hnew := heap_alloc_new w (.cells #[.slice A1 rs.length c1, .slice A b.length c] 22)
  have cC := (concat_calls w.heap.size 2 A1 A c1 c rs b _ (Nat.le_refl _) (Kd.C_alloc HC1.out (.cells #[.slice A1 rs.length c1, .slice A b.length c] 22)) (Kd.C_alloc HB.out _) (by omega) (by omega) ((blk_cell hnew 0).trans rfl) ((blk_cell hnew 1).trans rfl))
  clear hnew
  obtain ⟨all, hall⟩ : ∃ all, rs ++ b = all := ⟨_, rfl⟩
  have hlen : all.length = rs.length + b.length := by rw [← hall, List.length_append]
  rw [hall] at cC ⊢
  rw [hall, ← hlen] at HH
  rw [← hlen]
  have HL := Aside0.mk (show all.length ≤ 1001000 by omega)
  clear hlen hall
  go_wp2_with (go_at_call 19; refine cC.mono ?_; rintro e W1 ⟨va, rfl, hRa, hb1⟩)
  obtain ⟨Aa, ca, rfl⟩ := Kd.R_slice hRa
  have hb0 : Below w.heap.size w W1 := (below_alloc (Below.refl _ _) _).trans (hb1.mono (by simp))
  have HRA : Aside0 (Kd.R (Kd.int .u8) 5 W1 w.heap.size (fun _ => True) (.slice Aa all.length ca) all) := ⟨Kd.R_lower hRa (by simp)⟩
  have HS1 : Aside0 (W1.heap[B + 1]? = some (.cells #[.map (some B), .slice A1 rs.length c1, fv] 44 (0, 0))) := ⟨blk_below HBL.out hb0⟩
  have HT1 := Aside0.mk (HT.out.kept (W' := W1) (fun k hk _ => hb0.block k (by omega)))
  have HF1 := Aside0.mk (Kd.R_below HF.out hb0)
  have HK1 := Aside0.mk (Kept1.of_below (B := B) hb0 hle)
  have hle1 : top ≤ W1.heap.size := Nat.le_trans hle hb0.size
  clear x0 x1 x2 cC hb0 hb1 hRa
  go_loopw [6] (fun i wr => ∃ (k : Nat) (fv' : Value), i = .int .i64 k ∧ k ≤ all.length - 31 ∧ wr.heap[B + 1]? = some (.cells #[.map (some B), .slice A1 rs.length c1, fv'] 44 (0, 0)) ∧ Tab wr B top l ∧ Kd.R Kd.string 9 wr top (fun _ => True) fv' (fs ++ hits l all k) ∧ Kd.R (Kd.int .u8) 5 wr w.heap.size (fun _ => True) (.slice Aa all.length ca) all ∧ Kept1 B top w wr)
    (fun i _ => all.length - 31 - (intOf i).toNat)
  case atStart => exact ⟨0, fv, rfl, Nat.zero_le _, HS1.out, HT1.out, by simpa [hits] using HF1.out, HRA.out, HK1.out⟩
  case round =>
    clear HS1 HT1 HF1 HRA HK1
    obtain ⟨k, fv', rfl, hk, hsk, htk, hfk, hak, hkk⟩ := hrel
    have HZ := Aside0.mk (wraps k all.length (by have := HL.out; omega) HL.out)
    have HSK := Aside0.mk hsk
    have HTK := Aside0.mk htk
    have HFK := Aside0.mk hfk
    have HAK := Aside0.mk hak
    have HKK := Aside0.mk hkk
    have x0 : wr.cell? ⟨B + 1, 0, none⟩ = some (.map (some B)) := (blk_cell hsk 0).trans rfl
    have x2 : wr.cell? ⟨B + 1, 2, none⟩ = some fv' := (blk_cell hsk 2).trans rfl
    have x1 : wr.cell? ⟨B + 1, 1, none⟩ = some (.slice A1 rs.length c1) := (blk_cell hsk 1).trans rfl
    have fr1 := blk_frozen hsk 1
    have fr2 := blk_frozen hsk 2
    have hca : all.length ≤ ca := (Kd.R_reads' hak).2.1
    by_cases hlt : k + 32 ≤ all.length
    · have d0 : (k : Int) + 32 ≤ (all.length : Int) := by omega
      have e32 : ((k : Int) + 32).toNat = k + 32 := by omega
      obtain ⟨i0, hi0, hsz⟩ := Option.map_eq_some_iff.1 (show (Try.prog.info? 5).map (fun i => i.size) = some 1 by kernel_rfl)
      obtain ⟨A8, hcut, hA8, hC8⟩ := print_mid_of (P := Try.prog) (Value.int .u8) 0 22 5 .i64 .i64 Try.underlying22 hi0 hsz Aa ca all (k : Int) ((k : Int) + 32) (by omega) (by omega) d0 hca
      have hC8' := Kd.C_of_reads (h1 := fun _ => rfl) (hA8 wr (Kd.reads_of_C (Kd.R_reads' hak).2.2))
      simp only [Int.toNat_natCast, e32] at hcut hC8' hC8
      have hcv : ∀ n_ : Nat, (convert 22 9 (.slice A8 ((all.take (k + 32)).drop k).length (ca - k))).run Try.prog (wr.drewN n_) = .ok (.string (cutAt all k)) (wr.drewN n_) := fun n_ => Kd.C_string (P := Try.prog) (w := wr.drewN n_) (A := A8) (c := ca - k) Try.underlying22 Try.underlying5 Try.underlying9 (show Kd.C (Kd.int .u8) (wr.drewN n_) _ _ _ from hC8')
      obtain ⟨L8, hL8⟩ : ∃ L8, ((all.take (k + 32)).drop k).length = L8 := ⟨_, rfl⟩
      rw [hL8] at hcut hcv
      clear hL8 e32
      have d1 := decide_eq_true d0
      clear d0
      have HMS := Aside0.mk (meas all.length k hlt)
      have hsz32 : (cutAt all k).size ≤ 1000 := cut_size all k
      obtain ⟨Ad, cd, hcd, hCd, hAd, hlook⟩ := htk.look (cutAt all k) hsz32
      have hlk : ∀ n_ : Nat, (Instr.lookup 42 (.map (some B)) (.string (cutAt all k)) true).run Try.prog (wr.drewN n_) = .ok (.tuple #[.slice Ad (groupsOf l (cutAt all k)).length cd, .bool (decide (groupsOf l (cutAt all k) ≠ []))]) (wr.drewN n_) := fun n_ => hlook _ rfl
      have HCD := Aside0.mk hCd
      clear hsk htk hfk hak hC8' hA8 hC8 hlook hCd hsz hi0
      by_cases hG : groupsOf l (cutAt all k) = []
      · have hGb : decide (groupsOf l (cutAt all k) ≠ []) = false := by simpa using hG
        rw [hGb] at hlk
        have hh : hits l all (k + 1) = hits l all k := by rw [hits_succ, hG, List.append_nil]
        have HHH := Aside0.mk hh
        clear hh
        obtain ⟨z1, z2, z3, z4, z5⟩ := HZ.out
        go_wp2
        go_quiet (fail)
        go_wp2
        go_roundw
        case rel => exact ⟨k + 1, fv', by first | (rw [z2]; simp; done) | simp, by clear z1 z2 z3 z4 z5; omega, blk_drewN HSK.out nq, HTK.out.kept (fun _ _ _ => rfl), by rw [HHH.out]; exact Kd.R_drewN HFK.out nq, Kd.R_drewN HAK.out nq, HKK.out.trans (Kept1.of_below (pw_below_drewN (Below.refl _ _) nq) (Nat.le_trans hle HKK.out.size))⟩
        case measure => first | (rw [z2]; exact HMS.out) | exact HMS.out
      · have hGb : decide (groupsOf l (cutAt all k) ≠ []) = true := by simpa using hG
        rw [hGb] at hlk
        have hh := hits_succ l all k
        have HHH := Aside0.mk hh
        clear hh
        have hle2 : (hits l all (k + 1)).length ≤ (hits l all (all.length - 31)).length := hits_le l all _ _ (by omega)
        have hle3 := HH.out
        rw [HHH.out, List.length_append] at hle2
        have HLE := Aside0.mk (show (fs ++ hits l all k).length + (groupsOf l (cutAt all k)).length ≤ 1000000000 by rw [List.length_append]; omega)
        have HTP := Aside0.mk (show top ≤ wr.heap.size from Nat.le_trans hle HKK.out.size)
        clear hle2 hle3
        obtain ⟨xs, hxs⟩ : ∃ xs, fs ++ hits l all k = xs := ⟨_, rfl⟩
        have HXS := Aside0.mk hxs
        rw [hxs] at HFK HLE
        clear hxs
        obtain ⟨Af, cf, ef⟩ := Kd.R_slice HFK.out
        subst ef
        have HNE : Aside0 (some (B + 1) ≠ (Value.slice Af xs.length cf).ownBlock) := ⟨fun e => by have h1 := Kd.R_base HFK.out (B + 1) e.symm; have h2 := HTK.out.lt; omega⟩
        have HL16 : Aside0 ((xs.length + (groupsOf l (cutAt all k)).length) * 16 ≤ 140737488355328) := ⟨by have := HLE.out; omega⟩
        have HK1 := Aside0.mk (show k + 1 ≤ all.length - 31 by omega)
        obtain ⟨z1, z2, z3, z4, z5⟩ := HZ.out
        go_wp2
        go_quiet (fail)
        go_wp2_with ((with_reducible refine gate_builtin (b := .append) (xs := #[.tmp 44, .tmp 45]) rfl ?_); at_builtin; refine Kd.R_append_rows Kd.string (w0 := wr.drewN nq) top rfl (.tmp 44) (.tmp 45) 23 9 (.string ⟨#[]⟩) 16 rfl Try.underlying23 (by kernel_rfl) rfl (by decide) (by omega) (.slice Af xs.length cf) xs (groupsOf l (cutAt all k)) Ad (groupsOf l (cutAt all k)).length cd (fun _ => True) (fun _ => False) rfl rfl ?aO ?aR (fun _ _ h => h) (fun _ h => h.elim) ?aF ?aB ?aS ?aL ?_; (case aO => exact Kd.R_drewN HFK.out nq); (case aR => exact Kd.C_drewN HCD.out nq); (case aF => exact fun _ _ => trivial); (case aB => exact Below.refl _ _); (case aS => exact HTP.out); (case aL => exact HL16.out); intro v2 W2 ho2 hb2 hg2 hat2; obtain ⟨Av2, cv2, ev2⟩ := Kd.R_slice ho2; subst ev2; obtain ⟨ys, hys⟩ : ∃ ys, xs ++ groupsOf l (cutAt all k) = ys := ⟨_, rfl⟩; have HYS := Aside0.mk hys; rw [hys] at ho2 ⊢; clear hys; have hblk2 : W2.heap[B + 1]? = some (.cells #[.map (some B), .slice A1 rs.length c1, .slice Af xs.length cf] 44 (0, 0)) := blk_grown (blk_drewN HSK.out nq) hg2 HNE.out; have y2 := (blk_cell hblk2 2).trans rfl; have fy2 := blk_frozen hblk2 2)
        go_roundw
        case rel =>
          have hltB := HTK.out.lt
          have hkk1 := HKK.out.trans ((Kept1.of_below (B := B) (pw_below_drewN (Below.refl _ _) nq) HTP.out).trans ((Kept1.grown (B := B) (Kd.R_drewN HFK.out nq) hg2 HTP.out).trans (Kept1.set W2 2 (.slice Av2 ys.length cv2))))
          have hkk2 := (Kept1.of_below (B := B) (pw_below_drewN (Below.refl wr.heap.size wr) nq) HTP.out).trans ((Kept1.grown (B := B) (Kd.R_drewN HFK.out nq) hg2 HTP.out).trans (Kept1.set W2 2 (.slice Av2 ys.length cv2)))
          refine ⟨k + 1, .slice Av2 ys.length cv2, by first | (rw [z2]; simp; done) | simp, HK1.out, blk_put hblk2 2 _ rfl, HTK.out.kept hkk2.low, ?_, ?_, hkk1⟩
          · rw [HHH.out, ← List.append_assoc, HXS.out, HYS.out]
            exact R_set ho2 hltB
          · refine Kd.R_mono (Kd.R_move (Kd.R_bound HAK.out) fun j hj => ?_) (fun _ _ => trivial)
            obtain ⟨-, hj1, -, q, hq, cells, hc⟩ := hj
            have hq5 : q = 5 := by simpa [Kd.int, Kd.scalar] using hq
            subst hq5
            exact hkk2.typed j cells 5 hc (by decide) (by clear z1 z2 z3 z4 z5; omega)
        case measure => first | (rw [z2]; exact HMS.out) | exact HMS.out
    · have d1 : decide ((k : Int) + 32 ≤ (all.length : Int)) = false := decide_eq_false (by omega)
      obtain ⟨m, hm⟩ : ∃ m, all.length - 31 = m := ⟨_, rfl⟩
      have hkm : m = k := by omega
      subst hkm
      have hcut := rest_run Aa all.length ca m (by omega)
      have hrst := rst_of HAK.out (show m ≤ all.length by omega)
      obtain ⟨A', hA'⟩ : ∃ A', (if ca = m then Aa else Aa.map (·.add m)) = A' := ⟨_, rfl⟩
      rw [hA'] at hcut hrst
      have HRST := Aside0.mk hrst
      clear hA' hrst
      clear hsk htk hfk hak hkk
      obtain ⟨z1, z2, z3, z4, z5⟩ := HZ.out
      rw [hm] at z5
      go_wp2
      go_ret
      have hltB := HTK.out.lt
      rw [hm]
      refine ⟨rfl, HKK.out.trans (Kept1.set wr 1 _), ⟨⟨_, fv', (blk_put HSK.out 1 _ rfl), HRST.out.kept (fun j cur hj hr => set_kept j (show j ≠ B + 1 by omega)), R_set HFK.out hltB⟩, HTK.out.kept (fun j h1 h2 => set_kept j h2), ?_⟩⟩
      exact Nat.le_trans hle (by have := HKK.out.size; simpa [World.setCell] using this)
end Go.Proofs.YtkmnjekbacdfoaaX
