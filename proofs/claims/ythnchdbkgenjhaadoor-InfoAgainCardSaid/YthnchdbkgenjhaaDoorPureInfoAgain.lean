import Derived.Test.YthnchdbkgenjhaaDoorInfoOut
import Derived.Test.YthnchdbkgenjhaaDoorInfoLay
import Derived.Test.YthnchdbkgenjhaaDoorQInfoLx2
import Derived.Test.YthnchdbkgenjhaaDoorInfoRefChk
import Derived.Test.YthnchdbkgenjhaaDoorQInfoLx5
set_option linter.unusedVariables false
set_option linter.unusedSimpArgs false
/- An info, laid down and read back: plain Lean over what the walks tell. -/
namespace Go.Proofs.YthnchdbkgenjhaaDoorX
open Go.RowKit Go.Proofs.YthnchdbkgenjhaaDoorW.PrintWords
theorem hexT_list (h : ByteArray) : (hexT h).data.toList = hexL (bytesOf h) := rfl
theorem unhex_hexT (h : ByteArray) : strOfNums (unh (hexT h).data.toList) = h := by
  rw [hexT_list, unh_hexL _ (okB_bytes h), str_bytesOf]
theorem hexB_hexT (h : ByteArray) : hexB (hexT h).data.toList = true := (hexB_iff _).2 (by rw [hexT_list]; exact hexL_ok _ (okB_bytes h))
theorem hexT_unhex {x : ByteArray} (h : hexB x.data.toList = true) : hexT (strOfNums (unh x.data.toList)) = x := by
  have h1 := (hexB_iff _).1 h
  refine ba_ext ?_
  rw [hexT_list, bytes_str _ (unh_byt _ h1.2), hexL_unh _ h1]
theorem at_lay {name h : ByteArray} {n : Int} {refs : List ByteArray} (hf : Fine name h n refs) (ahead behind : List Int) :
    atF (ahead ++ layI name (hexT h) n.toNat refs ++ behind) (ahead.length : Int) = (name, h, n, refs, ((ahead.length + (layI name (hexT h) n.toNat refs).length : Nat) : Int), 0) := by
  obtain ⟨m, rfl⟩ := Int.eq_ofNat_of_zero_le hf.n0
  rw [Int.toNat_natCast]
  have hlen : (ahead ++ layI name (hexT h) m refs ++ behind).length = ahead.length + (layI name (hexT h) m refs).length + behind.length := by rw [List.length_append, List.length_append]
  unfold atF
  rw [if_neg (by rw [hlen]; omega), Int.toNat_natCast]
  unfold atR
  rw [List.append_assoc, List.drop_left' rfl]
  have h1 := name_le hf.name_
  have h2 := hexT_size h
  rw [hf.hash] at h2
  have h3 := hf.few
  have h4 := hf.n1
  rw [getI_lay name (hexT h) m refs behind (by omega) (by omega) (by omega) (by omega) (fun s hs => by have := name_le (h3.2 s hs); omega)]
  dsimp only
  rw [unhex_hexT, if_pos ⟨hexB_hexT h, check_fine.2 hf⟩, ← List.append_assoc, hlen]
  have e : ahead.length + (layI name (hexT h) m refs).length + behind.length - behind.length = ahead.length + (layI name (hexT h) m refs).length := by omega
  rw [e]
/-- What At answers with 0 is what was laid down there. -/
theorem at_back {l : List Int} {a : Int} {name h : ByteArray} {n : Int} {refs : List ByteArray} {tt : Int} (hb : okB l) (hr : atF l a = (name, h, n, refs, tt, 0)) :
    ∃ i q : Nat, a = (i : Int) ∧ tt = (q : Int) ∧ i < q ∧ q ≤ l.length ∧ Fine name h n refs ∧ (l.take q).drop i = layI name (hexT h) n.toNat refs := by
  unfold atF at hr
  by_cases h0 : a < 0 ∨ (l.length : Int) < a
  · rw [if_pos h0] at hr
    have := congrArg (fun r => r.2.2.2.2.2) hr
    exact absurd (show (1 : Int) = 0 from this) (by decide)
  · rw [if_neg h0] at hr
    obtain ⟨i, rfl⟩ := Int.eq_ofNat_of_zero_le (show 0 ≤ a by omega)
    rw [Int.toNat_natCast] at hr
    unfold atR at hr
    cases hg : getI (l.drop i) with
    | none =>
      rw [hg] at hr
      have := congrArg (fun r => r.2.2.2.2.2) hr
      exact absurd (show (4 : Int) = 0 from this) (by decide)
    | some v =>
      rw [hg] at hr
      dsimp only at hr
      by_cases hc : hexB v.hex.data.toList = true ∧ checkE v.name (strOfNums (unh v.hex.data.toList)) (v.size : Int) v.refs = 0
      · rw [if_pos hc] at hr
        injection hr with e1 hr
        injection hr with e2 hr
        injection hr with e3 hr
        injection hr with e4 hr
        injection hr with e5 e6
        obtain ⟨hlay, _, _, _, _, _⟩ := getI_is (okB_drop hb i) hg
        have hf := check_fine.1 hc.2
        rw [e1, e2, e3, e4] at hf
        have hx := hexT_unhex hc.1
        rw [e2] at hx
        have hl := congrArg List.length hlay
        rw [List.length_drop, List.length_append] at hl
        have hpos : 8 ≤ (layI v.name v.hex v.size v.refs).length := by
          unfold layI
          rw [List.length_append, textOf_len]
          unfold len8
          omega
        have hvr : v.rest.length ≤ l.length := by omega
        refine ⟨i, l.length - v.rest.length, rfl, e5.symm, by omega, by omega, hf, ?_⟩
        rw [← e1, hx, ← e3, Int.toNat_natCast, ← e4]
        have e7 : (l.take (l.length - v.rest.length)).drop i = (l.drop i).take (l.length - v.rest.length - i) := by rw [List.drop_take]
        rw [e7, hlay]
        exact List.take_left' (by omega)
      · rw [if_neg hc] at hr
        have := congrArg (fun r => r.2.2.2.2.2) hr
        exact absurd (show (4 : Int) = 0 from this) (by decide)
def val4 (n : Int) : List Int := [n / 16777216 % 256, n / 65536 % 256, n / 256 % 256, n % 256]
def valueE (h : ByteArray) (n : Int) : ByteArray × Int := if plainB h n = true then (h ++ strOfNums (val4 n), 0) else (⟨#[]⟩, 1)
theorem str_list (l : List Int) : (strOfNums l).data.toList = l.map fun x => UInt8.ofNat x.toNat := rfl
theorem str_size (l : List Int) : (strOfNums l).size = l.length := by
  rw [ba_size, str_list, List.length_map]
theorem bt_at (a b : ByteArray) (j : Nat) (hj : j < b.size) : bt (a ++ b) ((a.size + j : Nat) : Int) = ((b.data.toList[j]'(by rw [← ba_size]; exact hj)).toNat : Int) := by
  have hl : a.size + j < (a ++ b).data.toList.length := by rw [ba_append, List.length_append, ← ba_size, ← ba_size]; omega
  rw [bt_list _ _ hl]
  congr 2
  have : (a ++ b).data.toList[a.size + j]? = b.data.toList[j]? := by
    rw [ba_append, List.getElem?_append_right (by rw [← ba_size]; omega), ← ba_size]
    congr 1
    omega
  rw [List.getElem?_eq_getElem hl, List.getElem?_eq_getElem (by rw [← ba_size]; exact hj)] at this
  exact Option.some.inj this
theorem plain_is {h : ByteArray} {n : Int} : plainB h n = true ↔ h.size = 32 ∧ 0 ≤ n ∧ n ≤ 2147483647 := by
  unfold plainB
  simp only [Bool.and_eq_true, decide_eq_true_eq]
theorem read_value {s h : ByteArray} {n : Int} {refs : List ByteArray} (hr : readE s = (h, n, refs, 0)) : plainB h n = true ∧ h ++ strOfNums (val4 n) = s ∧ refs = [] := by
  unfold readE at hr
  by_cases hc : s.size = 36 ∧ beK s 32 4 ≤ 2147483647
  · rw [if_pos hc] at hr
    injection hr with e1 hr
    injection hr with e2 hr
    injection hr with e3 e4
    have hl : s.data.toList.length = 36 := by rw [← ba_size]; exact hc.1
    have hx : (s.extract 0 32).size = 32 := by rw [ByteArray.size_extract]; omega
    have hb := be_bd s 32 4 (Nat.le_refl _)
    rw [← e1, ← e2]
    refine ⟨plain_is.2 ⟨hx, hb.1, hc.2⟩, ?_, e3.symm⟩
    refine ba_ext ?_
    rw [ba_append, ba_extract, str_list, List.drop_zero]
    have b0 : bt s ((32 + 0 : Nat) : Int) = ((s.data.toList[32]'(by omega)).toNat : Int) := bt_list s 32 (by omega)
    have b1 : bt s ((32 + 1 : Nat) : Int) = ((s.data.toList[33]'(by omega)).toNat : Int) := bt_list s 33 (by omega)
    have b2 : bt s ((32 + 2 : Nat) : Int) = ((s.data.toList[34]'(by omega)).toNat : Int) := bt_list s 34 (by omega)
    have b3 : bt s ((32 + 3 : Nat) : Int) = ((s.data.toList[35]'(by omega)).toNat : Int) := bt_list s 35 (by omega)
    have hsplit : s.data.toList = s.data.toList.take 32 ++ [s.data.toList[32]'(by omega), s.data.toList[33]'(by omega), s.data.toList[34]'(by omega), s.data.toList[35]'(by omega)] := by
      refine List.ext_getElem? fun i => ?_
      by_cases h1 : i < 32
      · rw [List.getElem?_append_left (by rw [List.length_take]; omega), List.getElem?_take_of_lt h1]
      · rw [List.getElem?_append_right (by rw [List.length_take]; omega), List.length_take, Nat.min_eq_left (by omega)]
        by_cases h2 : i < 36
        · obtain ⟨j, rfl⟩ : ∃ j, i = 32 + j := ⟨i - 32, by omega⟩
          rw [Nat.add_sub_cancel_left, List.getElem?_eq_getElem (by omega)]
          match j, h2 with
          | 0, _ => rfl
          | 1, _ => rfl
          | 2, _ => rfl
          | 3, _ => rfl
          | j + 4, h2 => omega
        · rw [List.getElem?_eq_none (by omega), List.getElem?_eq_none (by simp; omega)]
    conv => rhs; rw [hsplit]
    refine congrArg (fun r => s.data.toList.take 32 ++ r) ?_
    have k0 := (s.data.toList[32]'(by omega)).toNat_lt
    have k1 := (s.data.toList[33]'(by omega)).toNat_lt
    have k2 := (s.data.toList[34]'(by omega)).toNat_lt
    have k3 := (s.data.toList[35]'(by omega)).toNat_lt
    simp only [beK, b0, b1, b2, b3, val4, List.map_cons, List.map_nil]
    generalize s.data.toList[32]'(by omega) = c0 at *
    generalize s.data.toList[33]'(by omega) = c1 at *
    generalize s.data.toList[34]'(by omega) = c2 at *
    generalize s.data.toList[35]'(by omega) = c3 at *
    have u : ∀ (x : Int) (c : UInt8), x = (c.toNat : Int) → UInt8.ofNat x.toNat = c := fun x c hx => by rw [hx, Int.toNat_natCast, UInt8.ofNat_toNat]
    rw [u _ c0 (by omega), u _ c1 (by omega), u _ c2 (by omega), u _ c3 (by omega)]
  · rw [if_neg hc] at hr
    have := congrArg (fun r => r.2.2.2) hr
    exact absurd (show (4 : Int) = 0 from this) (by decide)
end Go.Proofs.YthnchdbkgenjhaaDoorX
/- Info's laws: what they all ask: plain laws. -/
namespace Go.Proofs.YthnchdbkgenjhaaDoorX
open Go.RowKit Go.Proofs.YthnchdbkgenjhaaDoor.PInfoL Go.Proofs.YthnchdbkgenjhaaDoorW.PrintWords Go.Proofs.YthnchdbkgenjhaaDoorW.PrintLast Go.Proofs.YthnchdbkgenjhaaDoorW.PrintMore
structure Few (name h : ByteArray) (refs : List ByteArray) : Prop where
  name_ : name.size ≤ 300
  hash : h.size ≤ 300
  refs_ : refs.length ≤ 60
  each : ∀ s ∈ refs, s.size ≤ 200
theorem texts_same (a b : List ByteArray) (hl : a.length ≤ 1000000) : Ev (fun k => chandleryref01_Texts.f k a b) (decide (a = b)) := by
  by_cases h : a.length = b.length
  · have hs : ∀ v, Ev (fun k => chandleryref01_Texts.l0 k a b ((0 : Nat) : Int)) v → Ev (fun k => chandleryref01_Texts.f k a b) v := fun v hv => Ev.congr (fun k => by
      unfold chandleryref01_Texts.f
      rw [if_pos (by omega)]
      rfl) hv
    have hstep : ∀ i (hi : i < a.length) k, chandleryref01_Texts.l0 (k + 1) a b (i : Int) = if a[i] = b[i]'(by omega) then chandleryref01_Texts.l0 k a b ((i + 1 : Nat) : Int) else some false := fun i hi k => by
      rw [chandleryref01_Texts.l0, if_pos (by omega), if_pos (by omega), if_pos (by omega), rdB_get a i hi, rdB_get b i (by omega), w1 hi (by omega)]
      by_cases e : a[i] = b[i]'(by omega)
      · rw [if_pos e, if_pos (toList_eq.2 e)]
      · rw [if_neg e, if_neg (fun h => e (toList_eq.1 h))]
    have hend : Ev (fun k => chandleryref01_Texts.l0 k a b ((a.length : Nat) : Int)) true := Ev.step (f := fun _ => some true) (fun k => by rw [chandleryref01_Texts.l0, if_neg (by omega)]) (Ev.now _)
    rcases ev_all (fun i k => chandleryref01_Texts.l0 k a b (i : Int)) a.length (fun i => a[i]? = b[i]?) (bad := false) (fun i hi hok k => by
        rw [List.getElem?_eq_getElem hi, List.getElem?_eq_getElem (show i < b.length by omega)] at hok
        rw [hstep i hi, if_pos (Option.some.inj hok)]) (fun i hi hno k => by
        rw [List.getElem?_eq_getElem hi, List.getElem?_eq_getElem (show i < b.length by omega)] at hno
        rw [hstep i hi, if_neg (fun e => hno (by rw [e]))]) hend with ⟨hall, he⟩ | ⟨⟨j, hj, hno⟩, he⟩
    · have e : a = b := by
        refine List.ext_getElem? fun i => ?_
        by_cases hi : i < a.length
        · exact hall i hi
        · rw [List.getElem?_eq_none (by omega), List.getElem?_eq_none (by omega)]
      rw [decide_eq_true e]
      exact hs _ he
    · rw [decide_eq_false (fun e => hno (by rw [e]))]
      exact hs _ he
  · rw [decide_eq_false (fun e => h (by rw [e]))]
    exact Ev.congr (f := fun _ => some false) (fun k => by
      unfold chandleryref01_Texts.f
      rw [if_neg (by omega)]) (Ev.now _)
theorem same_ev (h h' : ByteArray) (n n' : Int) (l l' : List ByteArray) (hl : l.length ≤ 1000000) : Ev (fun k => chandleryref22_Same.f k h n l h' n' l') (decide (h = h' ∧ n = n' ∧ l = l')) := by
  unfold chandleryref22_Same.f
  by_cases h1 : h = h'
  · by_cases h2 : n = n'
    · refine Ev.congr (fun k => by rw [if_pos (toList_eq.2 h1), if_pos h2]) (Ev.bind (f := fun k t => some t) (texts_same l l' hl) ?_)
      have e : decide (h = h' ∧ n = n' ∧ l = l') = decide (l = l') := by
        rw [decide_eq_decide]
        exact ⟨fun hh => hh.2.2, fun hh => ⟨h1, h2, hh⟩⟩
      rw [e]
      exact Ev.now _
    · rw [decide_eq_false (fun hh => h2 hh.2.1)]
      exact Ev.congr (fun k => by rw [if_pos (toList_eq.2 h1), if_neg h2]) (Ev.now _)
  · rw [decide_eq_false (fun hh => h1 hh.1)]
    exact Ev.congr (fun k => by rw [if_neg (fun hh => h1 (toList_eq.1 hh))]) (Ev.now _)
theorem same_yes (h : ByteArray) (n : Int) (l : List ByteArray) (hl : l.length ≤ 1000000) : Ev (fun k => chandleryref22_Same.f k h n l h n l) true := by
  have := same_ev h h n n l l hl
  rwa [decide_eq_true ⟨rfl, rfl, rfl⟩] at this
theorem plain_l (h : ByteArray) (n : Int) (refs : List ByteArray) : info_plain.f h n refs = some (plainB h n) := by
  unfold info_plain.f plainB
  by_cases h1 : h.size = 32
  · rw [if_pos (by omega), decide_eq_true h1, Bool.true_and]
    by_cases h2 : 0 ≤ n
    · rw [if_pos h2, decide_eq_true h2, Bool.true_and]
    · rw [if_neg h2, decide_eq_false h2, Bool.false_and]
  · rw [if_neg (by omega), decide_eq_false h1, Bool.false_and]
theorem value_f (h : ByteArray) (n : Int) (refs : List ByteArray) : info_Value.f h n refs = some (valueE h n) := by
  unfold info_Value.f valueE
  rw [plain_l, Option.bind_some]
  by_cases hp : plainB h n = true
  · rw [if_pos hp, if_pos hp, Option.bind_some]
    have h1 := (plain_is.1 hp).1
    exact if_pos (by rw [str_size, h1]; show 32 + 4 ≤ 9223372036854775807; decide)
  · rw [if_neg hp, if_neg hp]
theorem bytes_l (name h : ByteArray) (n : Int) (refs : List ByteArray) (h1 : name.size ≤ 1000000) (h2 : refs.length ≤ 1000000) (h3 : ∀ s ∈ refs, s.size ≤ 1000000) : info_Bytes.f name h n refs = some (bytesE name h n refs) := by
  unfold info_Bytes.f
  rw [if_pos ⟨h1, h2, h3⟩]
theorem at_l (l : List Int) (a : Int) (hb : okB l) (hl : l.length ≤ 1000000) : info_At.f l a = some (atF l a) := by
  unfold info_At.f
  rw [if_pos ⟨hb, hl⟩]
def ones : ByteArray := strOfNums (List.replicate 32 1)
def nameZ : ByteArray := ⟨#[48, 48, 48, 48, 48, 48, 48, 48, 48, 48, 48, 48, 48, 48, 48, 48, 48, 48, 48, 48, 48, 48, 48, 48, 48, 48, 48, 48, 48, 48, 48, 48, 45, 97]⟩
theorem nameZ_ok : nameB nameZ = true := by decide +kernel
theorem hash_ev : Ev (fun k => chandlerylaw22_hash.f k) ones := by
  have hst : ∀ i (hi : i < 32) k, chandlerylaw22_hash.l0 (k + 1) (List.replicate i 1 ++ List.replicate (32 - i) 0) (i : Int) = chandlerylaw22_hash.l0 k (List.replicate (i + 1) 1 ++ List.replicate (32 - (i + 1)) 0) ((i + 1 : Nat) : Int) := fun i hi k => by
    rw [chandlerylaw22_hash.l0, if_pos (by omega), if_pos (by omega), if_pos (by simp; omega), w1 (n := 32) hi (by omega), Int.toNat_natCast]
    congr 1
    have e : 32 - i = (32 - (i + 1)) + 1 := by omega
    rw [e, List.replicate_succ, List.set_append_right _ _ (by simp), List.length_replicate, Nat.sub_self, List.set_cons_zero, List.replicate_succ', List.append_assoc]
    rfl
  have hg : Ev ((fun i k => chandlerylaw22_hash.l0 k (List.replicate i 1 ++ List.replicate (32 - i) 0) (i : Int)) 0) ones := ev_go (fun i k => chandlerylaw22_hash.l0 k (List.replicate i 1 ++ List.replicate (32 - i) 0) (i : Int)) 32 hst (Ev.step (f := fun _ => some ones) (fun k => by
    show chandlerylaw22_hash.l0 (k + 1) _ _ = _
    rw [chandlerylaw22_hash.l0, if_neg (by decide)]
    rfl) (Ev.now _))
  refine Ev.congr (fun k => ?_) hg
  unfold chandlerylaw22_hash.f
  rw [if_pos (by decide)]
  rfl
theorem ones_size : ones.size = 32 := by unfold ones; rw [str_size, List.length_replicate]
theorem fineZ : Fine nameZ ones 258 [nameZ] := by
  refine ⟨nameZ_ok, ones_size, by decide, by decide, ?_⟩
  unfold refsB
  rw [foundB_one, List.all_cons, nameZ_ok]
  rfl
theorem awake_ev : Ev (fun k => chandlerylaw22_awake.f k) true := by
  have hat := at_lay fineZ [] []
  rw [List.append_nil, List.nil_append] at hat
  have hlen := fineZ.len
  have hok : okB (layI nameZ (hexT ones) (258 : Int).toNat [nameZ]) := by
    unfold layI
    exact okB_app (okB_text _) (okB_app (okB_text _) (okB_app (okB_text _) (okB_app (okB_text _) (okB_app (okB_text _) (okB_app (okB_num8 _) (okB_app (okB_text _) (okB_app (okB_num8 _) (by
      simp only [textsOf, List.append_nil]
      exact okB_text _))))))))
  have hby : bytesE nameZ ones 258 [nameZ] = (layI nameZ (hexT ones) (258 : Int).toNat [nameZ], 0) := by
    unfold bytesE
    rw [if_pos (check_fine.2 fineZ)]
  have hval : valueE ones 258 = (ones ++ (⟨#[0, 0, 1, 2]⟩ : ByteArray), 0) := by
    unfold valueE
    rw [if_pos (plain_is.2 ⟨ones_size, by decide, by decide⟩)]
    rfl
  have hp : 0 < (layI nameZ (hexT ones) (258 : Int).toNat [nameZ]).length := by
    unfold layI
    rw [List.length_append, textOf_len]
    unfold len8
    omega
  have hbl := bytes_l nameZ ones 258 [nameZ] (by decide) (by decide) (fun s hs => by rw [List.mem_singleton.1 hs]; decide)
  rw [hby] at hbl
  have hal := at_l (layI nameZ (hexT ones) (258 : Int).toNat [nameZ]) 0 hok (by omega)
  have hat0 : atF (layI nameZ (hexT ones) (258 : Int).toNat [nameZ]) 0 = (nameZ, ones, 258, [nameZ], (((layI nameZ (hexT ones) (258 : Int).toNat [nameZ]).length : Nat) : Int), 0) := by
    have := hat
    simpa using this
  rw [hat0] at hal
  have hv := value_f ones 258 [nameZ]
  rw [hval] at hv
  generalize layI nameZ (hexT ones) (258 : Int).toNat [nameZ] = lay at *
  have hone := ones_size
  unfold chandlerylaw22_awake.f
  refine Ev.bind (f := fun k t => _) hash_ev ?_
  refine Ev.congr (fun k => by rw [Option.bind_some, show (⟨#[48, 48, 48, 48, 48, 48, 48, 48, 48, 48, 48, 48, 48, 48, 48, 48, 48, 48, 48, 48, 48, 48, 48, 48, 48, 48, 48, 48, 48, 48, 48, 48, 45, 97]⟩ : ByteArray) = nameZ from rfl, hv, Option.bind_some, hbl, Option.bind_some, hal, Option.bind_some]) ?_
  refine Ev.bind (f := fun k t => _) hash_ev ?_
  refine Ev.congr (fun k => by rw [if_pos (by rw [hone]; decide), if_pos rfl, if_pos rfl, if_pos rfl, if_pos (by rw [ba_toList]; rfl)]) ?_
  refine Ev.bind (f := fun k t => _) (same_yes ones 258 [nameZ] (by decide)) ?_
  refine Ev.congr (fun k => by rw [if_pos rfl, if_pos rfl, if_pos rfl, decide_eq_true (by show (0 : Int) < (lay.length : Int); omega)]) (Ev.now _)
end Go.Proofs.YthnchdbkgenjhaaDoorX
/- InfoAgain: the pure statement. -/
namespace Go.Proofs.YthnchdbkgenjhaaDoorX
open Go.RowKit Go.Proofs.YthnchdbkgenjhaaDoor.PInfoL Go.Proofs.YthnchdbkgenjhaaDoorW.PrintWords Go.Proofs.YthnchdbkgenjhaaDoorW.PrintLast Go.Proofs.YthnchdbkgenjhaaDoorW.PrintMore
theorem again_at (l : List Int) (a : Int) (hb : okB l) (hl : l.length ≤ 4000) : Ev (fun k => chandlerylaw22_InfoAgain.j1 k l a) true := by
  obtain ⟨⟨nm, h, n, refs, tt, e⟩, hr⟩ : ∃ r, atF l a = r := ⟨_, rfl⟩
  have hal := at_l l a hb (by omega)
  rw [hr] at hal
  by_cases he : e = 0
  · subst he
    obtain ⟨i, q, rfl, rfl, hiq, hql, hf, hcut⟩ := at_back hb hr
    have hbl := bytes_l nm h n refs (by have := name_le hf.name_; omega) (by have := hf.few.1; omega) (fun s hs => by have := name_le (hf.few.2 s hs); omega)
    have hby : bytesE nm h n refs = (layI nm (hexT h) n.toNat refs, 0) := by
      unfold bytesE
      rw [if_pos (check_fine.2 hf)]
    rw [hby] at hbl
    refine Ev.step (f := fun k => (chandlerylaw22_awake.f k).bind fun t270 => (if t270 = true then some true else some false)) (fun k => ?_) (Ev.bind (f := fun k t => _) awake_ev (Ev.congr (fun k => if_pos rfl) (Ev.now _)))
    rw [chandlerylaw22_InfoAgain.j1, hal, Option.bind_some, if_pos rfl, hbl, Option.bind_some]
    congr 1
    funext t
    by_cases ht : t = true
    · rw [if_pos ht, if_pos ht]
      dsimp only
      rw [if_pos rfl, if_pos (by omega), if_pos (by omega), if_pos (by omega), if_pos (by omega), if_pos (by omega), Int.toNat_natCast, Int.toNat_natCast, hcut, beq_self_eq_true]
    · rw [if_neg ht, if_neg ht]
  · refine Ev.step (f := fun k => (chandlerylaw22_awake.f k).bind fun t272 => some t272) (fun k => ?_) (Ev.bind (f := fun k t => _) awake_ev (Ev.now _))
    rw [chandlerylaw22_InfoAgain.j1, hal, Option.bind_some, if_neg he]
theorem again_ev (s : ByteArray) (l : List Int) (a : Int) (hb : okB l) : Ev (fun k => chandlerylaw22_InfoAgain.f k s l a) true := by
  have hyes : Ev (fun k => chandlerylaw22_InfoAgain.j0 k s l a true) true := Ev.step (f := fun _ => some true) (fun k => by rw [chandlerylaw22_InfoAgain.j0, if_pos rfl]) (Ev.now _)
  by_cases h1 : (s.size : Int) > 300
  · exact Ev.congr (fun k => by unfold chandlerylaw22_InfoAgain.f; rw [if_pos h1]) hyes
  by_cases h2 : (l.length : Int) > 4000
  · exact Ev.congr (fun k => by unfold chandlerylaw22_InfoAgain.f; rw [if_neg h1, decide_eq_true h2]) hyes
  refine Ev.congr (f := fun k => chandlerylaw22_InfoAgain.j0 k s l a false) (fun k => by unfold chandlerylaw22_InfoAgain.f; rw [if_neg h1, decide_eq_false h2]) ?_
  have hj := again_at l a hb (by omega)
  obtain ⟨⟨h, n, refs, e⟩, hr⟩ : ∃ r, readE s = r := ⟨_, rfl⟩
  have hrl : info_Read.f s = some (h, n, refs, e) := by
    unfold info_Read.f
    rw [if_pos (by omega), hr]
  refine Ev.step (fun k => ?_) hj
  rw [chandlerylaw22_InfoAgain.j0, if_neg Bool.false_ne_true, hrl, Option.bind_some]
  by_cases he : e = 0
  · subst he
    obtain ⟨hp, hv, rfl⟩ := read_value hr
    rw [if_pos rfl, value_f, Option.bind_some]
    unfold valueE
    rw [if_pos hp, if_pos rfl, if_pos (toList_eq.2 hv)]
  · rw [if_neg he]
end Go.Proofs.YthnchdbkgenjhaaDoorX
namespace Go.Proofs.YthnchdbkgenjhaaDoor.Pure
open Go.RowKit Go.Proofs.YthnchdbkgenjhaaDoor.PInfoL Go.Proofs.YthnchdbkgenjhaaDoorW.PrintWords Go.Proofs.YthnchdbkgenjhaaDoorW.PrintLast
theorem InfoAgain : chandlerylaw22_InfoAgain.Pure := by
  intro s l a hs hl hl2 hw ha
  obtain ⟨k, hk⟩ := Go.Proofs.YthnchdbkgenjhaaDoorX.again_ev s l a (fun x hx => Go.Proofs.YthnchdbkgenjhaaDoorX.u8_of_wf (hw x hx))
  exact ⟨k, hk k (Nat.le_refl _)⟩
end Go.Proofs.YthnchdbkgenjhaaDoor.Pure
