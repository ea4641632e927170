/- chandleryref16.Check: the walk, over what Entry, Parent, Find, Ahead answer. -/
import Derived.Test.YtlcaogiljiieaaaTreeCheck
import Derived.Deep.DeepCutAuto
set_option linter.unusedVariables false
set_option linter.unusedSimpArgs false
namespace Go.Proofs.YtlcaogiljiieaaaX
open Go.RowKit Go.Maps Go.Proofs.YtlcaogiljiieaaaW.PrintWords Go.Proofs.YtlcaogiljiieaaaW.PrintLast Go.Proofs.YtlcaogiljiieaaaW.PrintMore
def EntryIs (e : EntB) (b : Bool) : Prop := ∀ W, Calls Try.prog 37 #[entV e] W fun x w' => x = .returned (.bool b) ∧ Below W.heap.size W w'
def ParentIs (p q : ByteArray) : Prop := ∀ W, Calls Try.prog 38 #[.string p] W fun x w' => x = .returned (.string q) ∧ Below W.heap.size W w'
def FindIs (w : World) (A : Option Addr) (n : Nat) (q : ByteArray) (d : EntB) (b : Bool) : Prop := ∀ W c, Below w.heap.size w W → n ≤ c → Calls Try.prog 14 #[.slice A n c, .string q] W fun x w' => x = .returned (.tuple #[entV d, .bool b]) ∧ Below W.heap.size W w'
def AheadIs (a b : ByteArray) (r : Bool) : Prop := ∀ W, Calls Try.prog 39 #[.string a, .string b] W fun x w' => x = .returned (.bool r) ∧ Below W.heap.size W w'
def RefRun (w : World) (A : Option Addr) : Option EntB → Nat → List EntB → Int → Prop
  | _, _, [], r => r = 0
  | prev, k, e :: rest, r => ∃ b, EntryIs e b ∧ (b = false → r = 1) ∧ (b = true → (match prev with
      | none => RefRun w A (some e) (k + 1) rest r
      | some d0 => ∃ q d is, ParentIs e.path q ∧ FindIs w A k q d is ∧ ∃ ok : Bool, ((is = true ∧ d.kind = 2) → AheadIs d0.path e.path ok) ∧ (¬ (is = true ∧ d.kind = 2) → ok = false) ∧ (ok = false → r = 1) ∧ (ok = true → RefRun w A (some e) (k + 1) rest r)))
set_option maxHeartbeats 1000000 in
set_option maxRecDepth 100000 in
theorem rcheck_long (A : Option Addr) (c : Nat) (l : List EntB) (w : World) (hl : 256 < l.length) :
    Calls Try.prog 13 #[.slice A l.length c] w fun e w' => e = .returned (.int .i64 2) ∧ Below w.heap.size w w' := by
  have h1 : (256 : Int) < (l.length : Int) := by omega
  generalize l.length = n at *
  go_enter Try.func13, Try.ntmps13
  go_wp2
  go_ret
  exact ⟨rfl, Below.refl _ _⟩
set_option maxHeartbeats 1000000 in
set_option maxRecDepth 100000 in
theorem rcheck_nil (A : Option Addr) (c : Nat) (w : World) :
    Calls Try.prog 13 #[.slice A 0 c] w fun e w' => e = .returned (.int .i64 1) ∧ Below w.heap.size w w' := by
  go_enter Try.func13, Try.ntmps13
  go_wp2
  go_ret
  exact ⟨rfl, Below.refl _ _⟩
set_option maxHeartbeats 1000000 in
set_option maxRecDepth 100000 in
theorem rcheck_root (A : Option Addr) (c : Nat) (l : List EntB) (w : World) (hl : l.length ≤ 256) (hc : l.length ≤ c) (hE : EntsAt w A l) (h0 : 0 < l.length) (hp : l[0].path.toList ≠ []) :
    Calls Try.prog 13 #[.slice A l.length c] w fun e w' => e = .returned (.int .i64 1) ∧ Below w.heap.size w w' := by
  obtain ⟨ad, rfl, q0, -⟩ := hE 0 h0
  clear hE
  generalize l[0].path = p at *
  have hb : p.toList.isEmpty = false := by cases hx : p.toList with | nil => exact absurd hx hp | cons a b => rfl
  clear hp
  have hz : ((l.length : Int) == 0) = false := beq_eq_false_iff_ne.2 (by omega)
  have h1 : (l.length : Int) ≤ 256 := by omega
  have h2 : (0 : Int) < (l.length : Int) := by omega
  simp only [Nat.zero_mul] at q0
  replace q0 : w.cell? ad = some (.string p) := q0
  generalize l.length = n at *
  go_enter Try.func13, Try.ntmps13
  go_wp2
  go_ret
  exact ⟨rfl, Below.refl _ _⟩
set_option maxHeartbeats 4000000 in
set_option maxRecDepth 100000 in
theorem rcheck_run (A : Option Addr) (c : Nat) (l : List EntB) (w : World) (hl : l.length ≤ 256) (hc : l.length ≤ c) (hE : EntsAt w A l) (h0 : 0 < l.length) (hp : l[0].path.toList = []) (r : Int) (hr : RefRun w A none 0 l r) :
    Calls Try.prog 13 #[.slice A l.length c] w fun e w' => e = .returned (.int .i64 r) ∧ Below w.heap.size w w' := by
  obtain ⟨ad, rfl, q0, -⟩ := hE 0 h0
  have HE := Aside0.mk hE
  have HR := Aside0.mk hr
  clear hE hr
  have hb : l[0].path.toList.isEmpty = true := by rw [hp]; rfl
  generalize l[0].path = pa at *
  clear hp
  have hz : ((l.length : Int) == 0) = false := beq_eq_false_iff_ne.2 (by omega)
  have h1 : (l.length : Int) ≤ 256 := by omega
  have h2 : (0 : Int) < (l.length : Int) := by omega
  simp only [Nat.zero_mul] at q0
  replace q0 : w.cell? ad = some (.string pa) := q0
  go_enter Try.func13, Try.ntmps13
  go_wp2
  go_loopw [3] (fun i wr => ∃ k : Nat, i = .int .i64 k ∧ k ≤ l.length ∧ Below w.heap.size w wr ∧ RefRun w (some ad) (if k = 0 then none else l[k - 1]?) k (l.drop k) r)
    (fun i wr => l.length - (intOf i).toNat)
  case atStart => exact ⟨0, rfl, Nat.zero_le _, Below.refl _ _, HR.out⟩
  case round =>
    obtain ⟨k, rfl, hk, hB, hrun⟩ := hrel
    have HB := Aside0.mk hB
    have HRUN := Aside0.mk hrun
    clear hB hrun
    by_cases hlt : k < l.length
    · have hd : decide ((k : Int) < (l.length : Int)) = true := decide_eq_true (by omega)
      obtain ⟨ad', hA, q0, q1, q2, q3⟩ := HE.out k hlt
      injection hA with hA
      subst hA
      have hdr : l.drop k = l[k] :: l.drop (k + 1) := List.drop_eq_getElem_cons hlt
      have hrun := HRUN.out
      rw [hdr] at hrun
      obtain ⟨b, hent, hbf, hbt⟩ := hrun
      obtain ⟨e, he⟩ : ∃ e, l[k] = e := ⟨_, rfl⟩
      rw [he] at q0 q1 q2 q3 hent hbt
      have r0 := (HB.out.cell (cell_lt q0)).trans q0
      have r1 := ((congrArg wr.cell? (addr_next ad (k * 4) 1 (by decide))).trans (HB.out.cell (cell_lt q1))).trans q1
      have r2 := ((congrArg wr.cell? (addr_next ad (k * 4) 2 (by decide))).trans (HB.out.cell (cell_lt q2))).trans q2
      have r3 := ((congrArg wr.cell? (addr_next ad (k * 4) 3 (by decide))).trans (HB.out.cell (cell_lt q3))).trans q3
      have HENT := Aside0.mk hent
      have HBT := Aside0.mk hbt
      have HEK := Aside0.mk he
      have Q0 := Aside0.mk q0
      clear q0 q1 q2 q3 hent hbt he hdr
      have hwi : wrap64 ((k : Int) + 1) = ((k + 1 : Nat) : Int) := by unfold wrap64; omega
      have HWI := Aside0.mk hwi
      clear hwi
      obtain ⟨ep, ek, ex, ed⟩ := e
      dsimp only at r0 r1 r2 r3
      replace Q0 : Aside0 (w.cell? (ad.add (k * 4)) = some (.string ep)) := Q0
      cases b
      · have hre : r = 1 := hbf rfl
        subst hre
        clear hbf
        go_wp2_with (go_at_call 37; refine (HENT.out _).mono ?_; rintro x W1 ⟨rfl, h1⟩)
        go_ret
        exact ⟨rfl, below_step HB.out (by assumption)⟩
      · clear hbf
        have hnx := HBT.out (by simp)
        clear HBT
        by_cases hk0 : k = 0
        · subst hk0
          rw [if_pos rfl] at hnx
          have HNX := Aside0.mk hnx
          clear hnx
          simp only [Nat.zero_mul] at r0 r1 r2 r3
          replace r0 : wr.cell? ad = some (.string ep) := r0
          replace r1 : wr.cell? { block := ad.block, off := ad.off + 1 } = some (.int .i64 ek) := r1
          replace r2 : wr.cell? { block := ad.block, off := ad.off + 2 } = some (.bool ex) := r2
          replace r3 : wr.cell? { block := ad.block, off := ad.off + 3 } = some (.string ed) := r3
          go_wp2_with (go_at_call 37; refine (HENT.out _).mono ?_; rintro x W1 ⟨rfl, h1⟩; have HB1 := Aside0.mk (below_step HB.out h1); clear h1)
          go_roundw
          case rel => exact ⟨0 + 1, by first | rfl | (rw [HWI.out]; rfl), by omega, HB1.out, by rw [if_neg (by omega), Nat.add_sub_cancel, List.getElem?_eq_getElem hlt, HEK.out]; exact HNX.out⟩
          case measure => simp [intOf]; omega
        · rw [if_neg hk0, List.getElem?_eq_getElem (show k - 1 < l.length by omega)] at hnx
          obtain ⟨q, d, isd, hpar, hfind, ok, ha1, ha2, hok0, hok1⟩ := hnx
          have hkz : ((k : Int) == 0) = false := beq_eq_false_iff_ne.2 (by omega)
          have hkc : (k : Int) ≤ (c : Int) := by omega
          have hk00 : (0 : Int) ≤ (k : Int) := by omega
          have hklt : (k : Int) < (l.length : Int) := by omega
          obtain ⟨d9, hd9⟩ : ∃ d9, l[k - 1]'(by omega) = d9 := ⟨_, rfl⟩
          obtain ⟨ad', hA, q0, -⟩ := HE.out (k - 1) (by omega)
          injection hA with hA
          subst hA
          rw [hd9] at q0 ha1
          obtain ⟨dp, dk, dx, dd⟩ := d
          obtain ⟨zp, zk, zx, zd⟩ := d9
          dsimp only at q0 ha1 ha2
          have Q9 := Aside0.mk q0
          have HPAR := Aside0.mk hpar
          have HFIND := Aside0.mk hfind
          have HA1 := Aside0.mk ha1
          have HA2 := Aside0.mk ha2
          have HOK0 := Aside0.mk hok0
          have HOK1 := Aside0.mk hok1
          clear q0 hpar hfind ha1 ha2 hok0 hok1 hd9
          go_wp2_with (go_at_call 37; refine (HENT.out _).mono ?_; rintro x W1 ⟨rfl, h1⟩; have HB1 := Aside0.mk (below_step HB.out h1); clear h1)
          have x0 := (HB1.out.cell (cell_lt Q0.out)).trans Q0.out
          clear r0 r1 r2 r3
          have hkcn : k ≤ c := by omega
          have x0a : (W1.alloc (.cells #[.string ⟨#[]⟩, .int .i64 0, .bool false, .string ⟨#[]⟩] 27)).cell? (ad.add (k * 4)) = some (.string ep) := ((((Below.refl _ W1).alloc (Nat.le_refl _) (.cells #[.string ⟨#[]⟩, .int .i64 0, .bool false, .string ⟨#[]⟩] 27))).cell (cell_lt x0)).trans x0
          go_cut [4, 5] (fun s4 s5 wx => ∃ g : Nat, s4 = .pointer (some ⟨g, 0, none⟩) ∧ s5 = .bool isd ∧ wx.heap[g]? = some (.cells #[.string dp, .int .i64 dk, .bool dx, .string dd] 27 (0, 0)) ∧ Below w.heap.size w wx)
          case first =>
            go_region_with (first
              | (go_at_call 38; refine (HPAR.out _).mono ?_; rintro x W2 ⟨rfl, h2⟩)
              | (go_at_call 14; refine (HFIND.out _ _ ?hB hkcn).mono ?_; (case hB => first | exact below_step HB1.out ((Below.refl _ W1).drew.trans h2) | exact (below_step HB1.out ((Below.refl _ W1).drew.trans h2)).alloc (below_step HB1.out ((Below.refl _ W1).drew.trans h2)).size _ | exact below_step HB1.out (((Below.refl _ W1).alloc (Nat.le_refl _) (.cells #[.string ⟨#[]⟩, .int .i64 0, .bool false, .string ⟨#[]⟩] 27)).drew.trans (h2.mono (by simp)))); rintro x W3 ⟨rfl, h3⟩; first
                | (have hz : W3.heap[W2.heap.size]? = some (.cells #[.string ⟨#[]⟩, .int .i64 0, .bool false, .string ⟨#[]⟩] 27) := blk_below (World.alloc_heap_new W2 (.cells #[.string ⟨#[]⟩, .int .i64 0, .bool false, .string ⟨#[]⟩] 27)) h3; have z0 : W3.cell? ⟨W2.heap.size, 0, none⟩ = some (.string ⟨#[]⟩) := (blk_cell hz 0).trans rfl; have z1 : W3.cell? ⟨W2.heap.size, 1, none⟩ = some (.int .i64 0) := (blk_cell hz 1).trans rfl; have z2 : W3.cell? ⟨W2.heap.size, 2, none⟩ = some (.bool false) := (blk_cell hz 2).trans rfl; have z3 : W3.cell? ⟨W2.heap.size, 3, none⟩ = some (.string ⟨#[]⟩) := (blk_cell hz 3).trans rfl; have f0 := blk_frozen hz 0; have f1 := blk_frozen hz 1; have f2 := blk_frozen hz 2; have f3 := blk_frozen hz 3; have HZ := Aside0.mk hz; clear hz)
                | (have hz : W3.heap[W1.heap.size]? = some (.cells #[.string ⟨#[]⟩, .int .i64 0, .bool false, .string ⟨#[]⟩] 27) := blk_below (blk_below (show (W1.alloc (.cells #[.string ⟨#[]⟩, .int .i64 0, .bool false, .string ⟨#[]⟩] 27)).drew.heap[W1.heap.size]? = some (.cells #[.string ⟨#[]⟩, .int .i64 0, .bool false, .string ⟨#[]⟩] 27) from World.alloc_heap_new W1 (.cells #[.string ⟨#[]⟩, .int .i64 0, .bool false, .string ⟨#[]⟩] 27)) h2) h3; have z0 : W3.cell? ⟨W1.heap.size, 0, none⟩ = some (.string ⟨#[]⟩) := (blk_cell hz 0).trans rfl; have z1 : W3.cell? ⟨W1.heap.size, 1, none⟩ = some (.int .i64 0) := (blk_cell hz 1).trans rfl; have z2 : W3.cell? ⟨W1.heap.size, 2, none⟩ = some (.bool false) := (blk_cell hz 2).trans rfl; have z3 : W3.cell? ⟨W1.heap.size, 3, none⟩ = some (.string ⟨#[]⟩) := (blk_cell hz 3).trans rfl; have f0 := blk_frozen hz 0; have f1 := blk_frozen hz 1; have f2 := blk_frozen hz 2; have f3 := blk_frozen hz 3; have HZ := Aside0.mk hz; clear hz)
                | skip))
            all_goals
              go_wp2_with fail
              go_meet
            · exact ⟨_, rfl, rfl, World.alloc_heap_new W3 _, (below_step (below_step HB1.out ((Below.refl _ W1).drew.trans h2)) h3).alloc (below_step (below_step HB1.out ((Below.refl _ W1).drew.trans h2)) h3).size _⟩
            · exact ⟨W2.heap.size, rfl, rfl, stored4 HZ.out _ _ _ _, below4 (below_step (below_step HB1.out ((Below.refl _ W1).drew.trans h2)) (((Below.refl _ W2).alloc (Nat.le_refl _) (.cells #[.string ⟨#[]⟩, .int .i64 0, .bool false, .string ⟨#[]⟩] 27)).trans (h3.mono (by simp)))) ((below_step HB1.out ((Below.refl _ W1).drew.trans h2))).size _ _ _ _⟩
            all_goals exact ⟨W1.heap.size, rfl, rfl, stored4 HZ.out _ _ _ _, below4 (below_step (below_step HB1.out (((Below.refl _ W1).alloc (Nat.le_refl _) (.cells #[.string ⟨#[]⟩, .int .i64 0, .bool false, .string ⟨#[]⟩] 27)).drew.trans (h2.mono (by simp)))) h3) HB1.out.size _ _ _ _⟩
          case rest =>
            obtain ⟨g, rfl, rfl, hbx, hbb⟩ := hcut
            have BX := Aside0.mk hbx
            have BB := Aside0.mk hbb
            have y1 : wc.cell? ⟨g, 1, none⟩ = some (.int .i64 dk) := (blk_cell hbx 1).trans rfl
            clear hbx hbb x0 x0a
            by_cases hq : isd = true ∧ dk = 2
            · obtain ⟨rfl, rfl⟩ := hq
              have hah := Aside0.mk (HA1.out ⟨rfl, rfl⟩)
              have x9 := (BB.out.cell (cell_lt Q9.out)).trans Q9.out
              have x0 := (BB.out.cell (cell_lt Q0.out)).trans Q0.out
              have hw8 : wrap64 ((k : Int) - 1) = ((k - 1 : Nat) : Int) := by unfold wrap64; omega
              have hw9 : IntKind.i64.wrap ((k : Int) - 1) = ((k - 1 : Nat) : Int) := by rw [IntKind.wrap_i64]; omega
              have hlt9 : ((k - 1 : Nat) : Int) < (l.length : Int) := by omega
              cases ok
              · have hre := HOK0.out rfl
                subst hre
                go_wp2
                go_still_tail 19, (by kernel_rfl)
                change wpList _ _ _ _ _ wc.drew
                go_wp2_with (go_at_call 39; refine (hah.out _).mono ?_; rintro x W4 ⟨rfl, h4⟩)
                all_goals
                  go_wp2
                  go_ret
                  exact ⟨rfl, below_step BB.out ((Below.refl _ wc).drew.trans h4)⟩
              · have HNX := Aside0.mk (HOK1.out rfl)
                go_wp2
                go_still_tail 19, (by kernel_rfl)
                change wpList _ _ _ _ _ wc.drew
                go_wp2_with (go_at_call 39; refine (hah.out _).mono ?_; rintro x W4 ⟨rfl, h4⟩)
                all_goals
                  go_wp2
                  go_roundw
                  case rel => exact ⟨k + 1, by first | rfl | (rw [HWI.out]; rfl), by omega, below_step BB.out ((Below.refl _ wc).drew.trans h4), by rw [if_neg (by omega), Nat.add_sub_cancel, List.getElem?_eq_getElem hlt, HEK.out]; exact HNX.out⟩
                  case measure => simp [intOf]; omega
            · have hre := HOK0.out (HA2.out hq)
              subst hre
              cases isd
              · go_wp2
                go_quiet (fail)
                go_wp2
                go_ret
                exact ⟨rfl, BB.out.trans ⟨rfl, rfl, rfl, Nat.le_refl _, fun _ _ => rfl⟩⟩
              · have hk2 : (dk != 2) = true := bne_iff_ne.2 (fun e => hq ⟨rfl, e⟩)
                have hk3 : (dk == 2) = false := beq_eq_false_iff_ne.2 (fun e => hq ⟨rfl, e⟩)
                clear hq
                go_wp2
                go_quiet (fail)
                go_wp2
                go_ret
                exact ⟨rfl, BB.out.trans ⟨rfl, rfl, rfl, Nat.le_refl _, fun _ _ => rfl⟩⟩
    · have hke : k = l.length := by omega
      have hd : decide ((k : Int) < (l.length : Int)) = false := decide_eq_false (by omega)
      have hre : r = 0 := by have := HRUN.out; rw [hke, List.drop_length] at this; exact this
      subst hre
      clear hke
      go_wp2
      go_ret
      exact ⟨rfl, HB.out⟩
end Go.Proofs.YtlcaogiljiieaaaX
