/- Node: Bytes, told the same by both. -/
import Derived.Test.YtjhenmegcgnkgaaQNodex4
import Derived.Test.YtjhenmegcgnkgaaNodeLawsC
set_option linter.unusedVariables false
namespace Go.Proofs.YtjhenmegcgnkgaaX
open Go.RowKit Go.Proofs.Ytjhenmegcgnkgaa.PNode Go.Proofs.YtjhenmegcgnkgaaW.PrintWords Go.Proofs.YtjhenmegcgnkgaaW.PrintLast Go.Proofs.YtjhenmegcgnkgaaW.PrintMore

def tx (s : ByteArray) : List Int := ((s.size : Int) % 256) :: bytesOf s
theorem tx_len (s : ByteArray) : (tx s).length = 1 + s.size := by
  unfold tx
  rw [List.length_cons, bytesOf_length]
  omega
def ch (c : Int) : List Int := [(c / 65536) % 256, (c / 256) % 256, c % 256]
def oP (l : List S42) (H : List Int) : Nat → List Int
  | 0 => H
  | j + 1 => (oP l H j ++ tx (rd_T42 l (j : Int)).f0) ++ tx (rd_T42 l (j : Int)).f1
def oC (l : List Int) (H : List Int) : Nat → List Int
  | 0 => H
  | j + 1 => oC l H j ++ ch (rd l (j : Int))
def oK (l : List ByteArray) (H : List Int) : Nat → List Int
  | 0 => H
  | j + 1 => oK l H j ++ tx (kb l j)
theorem oP_len (l : List S42) (H : List Int) : ∀ j, (oP l H j).length = H.length + sP l j
  | 0 => rfl
  | j + 1 => by
    show ((oP l H j ++ tx (rd_T42 l (j : Int)).f0) ++ tx (rd_T42 l (j : Int)).f1).length = H.length + (sP l j + (2 + (rd_T42 l (j : Int)).f0.size + (rd_T42 l (j : Int)).f1.size))
    rw [List.length_append, List.length_append, oP_len l H j, tx_len, tx_len]
    omega
theorem oC_len (l : List Int) (H : List Int) : ∀ j, (oC l H j).length = H.length + 3 * j
  | 0 => rfl
  | j + 1 => by
    show (oC l H j ++ ch (rd l (j : Int))).length = H.length + 3 * (j + 1)
    rw [List.length_append, oC_len l H j]
    show H.length + 3 * j + 3 = _
    omega
theorem oK_len (l : List ByteArray) (H : List Int) : ∀ j, (oK l H j).length = H.length + sK l j
  | 0 => rfl
  | j + 1 => by
    show (oK l H j ++ tx (kb l j)).length = H.length + (sK l j + (1 + ks l j))
    rw [List.length_append, oK_len l H j, tx_len]
    show _ + (1 + ks l j) = _
    omega
def hd (kind cnt : Int) : List Int := [kind % 256, (cnt / 256) % 256, cnt % 256]
def outN (l1 : List S42) (l2 : List ByteArray) (l3 : List Int) (kind cnt : Int) : List Int := oK l2 (oC l3 (oP l1 (hd kind cnt) l1.length) l3.length) l2.length
theorem outN_len (l1 : List S42) (l2 : List ByteArray) (l3 : List Int) (kind cnt : Int) : (outN l1 l2 l3 kind cnt).length = szN l1 l2 l3 := by
  unfold outN szN
  rw [oK_len, oC_len, oP_len]
  show 3 + _ + _ + _ = _
  omega
def outB (l1 : List S42) (l2 : List ByteArray) (l3 : List Int) (kind cnt : Int) (a1 : Int) : List Int := outN l1 l2 l3 kind cnt ++ List.replicate (a1.toNat - szN l1 l2 l3) 0

theorem text_eq {L : List Int} {s : ByteArray} (h : L.length + 1 + s.size < 140737488355328) : node_text.f L s = some (L ++ tx s) := by
  unfold node_text.f
  rw [if_pos (by omega), Option.bind_some, if_pos (by rw [List.length_append]; show L.length + 1 + _ < _; omega)]
  unfold tx
  rw [List.append_assoc]
  rfl

section
variable (b : Bool) {l1 : List S42} {l2 : List ByteArray} {l3 : List Int} (a1 kind cnt : Int)
theorem nodeK_ev (h : Fit l1 l2 l3) (X : List Int) (hX : X.length ≤ 12000000) (ha : (X.length : Int) + sK l2 l2.length ≤ a1) (ha1 : a1 ≤ 4096) :
    Ev (fun k => node_Bytes.l2 k a1 X l2 (l2.length : Int) 0) (oK l2 X l2.length ++ List.replicate (a1.toNat - (X.length + sK l2 l2.length)) 0, 0) := by
  have hn2 := h.n2
  have hb := sK_le h.k
  refine ev_go (fun i k => node_Bytes.l2 k a1 (oK l2 X i) l2 (l2.length : Int) (i : Int)) l2.length (fun i hi k => ?_) (Ev.step (f := fun _ => some (oK l2 X l2.length ++ List.replicate (a1.toNat - (X.length + sK l2 l2.length)) 0, 0)) (fun k => ?_) (Ev.now _))
  · have h1 := hb i (by omega)
    have h2 := h.k i hi
    have h3 := oK_len l2 X i
    rw [node_Bytes.l2, if_pos (by omega), if_pos (by omega), if_pos (by omega), text_eq (by rw [h3]; have : (rdOf ByteArray.empty l2 (i : Int)).size ≤ 2000 := h2; omega), Option.bind_some, w1 hi (by omega)]
    rfl
  · have h3 := oK_len l2 X l2.length
    have e : wrap64 (a1 - ((oK l2 X l2.length).length : Int)) = a1 - ((X.length + sK l2 l2.length : Nat) : Int) := by
      rw [h3, w64 (by omega) (by omega)]
    have e2 : (a1 - ((X.length + sK l2 l2.length : Nat) : Int)).toNat = a1.toNat - (X.length + sK l2 l2.length) := by omega
    rw [node_Bytes.l2, if_neg (by omega), e, if_pos (by omega), e2, if_pos (by rw [h3]; omega)]
theorem nodeC_ev (h : Fit l1 l2 l3) (X : List Int) (hX : X.length ≤ 11000000) {v : List Int × Int} (hv : Ev (fun k => node_Bytes.l2 k a1 (oC l3 X l3.length) l2 (l2.length : Int) 0) v) :
    Ev (fun k => node_Bytes.l1 k a1 X l3 (l3.length : Int) 0 b l1 l2 l3) v := by
  have hn3 := h.n3
  refine ev_go (fun i k => node_Bytes.l1 k a1 (oC l3 X i) l3 (l3.length : Int) (i : Int) b l1 l2 l3) l3.length (fun i hi k => ?_) (Ev.step (f := fun k => node_Bytes.l2 k a1 (oC l3 X l3.length) l2 (l2.length : Int) 0) (fun k => by rw [node_Bytes.l1, if_neg (by omega)]) hv)
  have h3 := oC_len l3 X i
  rw [node_Bytes.l1, if_pos (by omega), if_pos (by omega), if_pos (by omega), Option.bind_some, if_pos (by rw [h3]; show _ + 3 < _; omega), w1 hi (by omega)]
  rfl
theorem nodeP_ev (h : Fit l1 l2 l3) (X : List Int) (hX : X.length ≤ 1000000) {v : List Int × Int} (hv : Ev (fun k => node_Bytes.l1 k a1 (oP l1 X l1.length) l3 (l3.length : Int) 0 b l1 l2 l3) v) :
    Ev (fun k => node_Bytes.l0 k a1 X l1 (l1.length : Int) 0 b l1 l2 l3) v := by
  have hn1 := h.n1
  have hb := sP_le h.p
  refine ev_go (fun i k => node_Bytes.l0 k a1 (oP l1 X i) l1 (l1.length : Int) (i : Int) b l1 l2 l3) l1.length (fun i hi k => ?_) (Ev.step (f := fun k => node_Bytes.l1 k a1 (oP l1 X l1.length) l3 (l3.length : Int) 0 b l1 l2 l3) (fun k => by rw [node_Bytes.l0, if_neg (by omega)]) hv)
  have h1 := hb i (by omega)
  have h2 : (rd_T42 l1 (i : Int)).f0.size + (rd_T42 l1 (i : Int)).f1.size ≤ 2000 := h.p i hi
  have h3 := oP_len l1 X i
  rw [node_Bytes.l0, if_pos (by omega), if_pos (by omega), if_pos (by omega), text_eq (by rw [h3]; omega), Option.bind_some, text_eq (by rw [List.length_append, tx_len, h3]; omega), Option.bind_some, w1 hi (by omega)]
  rfl
theorem nodeJ_ev (h : Fit l1 l2 l3) (hin : 64 ≤ a1 ∧ a1 ≤ 4096) (hs : (szN l1 l2 l3 : Int) ≤ a1) : Ev (fun k => node_Bytes.j0 k a1 kind cnt b l1 l2 l3) (outB l1 l2 l3 kind cnt a1, 0) := by
  have hb1 := sP_le h.p l1.length (Nat.le_refl _)
  have hn1 := h.n1
  have hn3 := h.n3
  have hsz : szN l1 l2 l3 = 3 + 3 * l3.length + sP l1 l1.length + sK l2 l2.length := rfl
  have e1 : (oP l1 (hd kind cnt) l1.length).length = 3 + sP l1 l1.length := oP_len _ _ _
  have e2 : (oC l3 (oP l1 (hd kind cnt) l1.length) l3.length).length = 3 + sP l1 l1.length + 3 * l3.length := by rw [oC_len, e1]
  have h2 := nodeK_ev a1 h (oC l3 (oP l1 (hd kind cnt) l1.length) l3.length) (by rw [e2]; omega) (by rw [e2]; omega) hin.2
  have e3 : a1.toNat - ((oC l3 (oP l1 (hd kind cnt) l1.length) l3.length).length + sK l2 l2.length) = a1.toNat - szN l1 l2 l3 := by rw [e2]; omega
  rw [e3] at h2
  have h1 := nodeC_ev b a1 h (oP l1 (hd kind cnt) l1.length) (by rw [e1]; omega) h2
  have h0 := nodeP_ev b a1 h (hd kind cnt) (show 3 ≤ _ by omega) h1
  refine Ev.step (f := fun k => node_Bytes.l0 k a1 (hd kind cnt) l1 (l1.length : Int) 0 b l1 l2 l3) (fun k => ?_) h0
  rw [node_Bytes.j0, if_pos (by omega), if_pos (by omega), Option.bind_some, Option.bind_some, if_pos (show (List.replicate 0 (0 : Int)).length + ([kind % 256, (cnt / 256) % 256, cnt % 256] : List Int).length < 140737488355328 from (show (0 + 3 : Nat) < 140737488355328 by omega))]
  rfl

/-! ### the document's -/
theorem ch_eq {c : Int} (h : 1 ≤ c ∧ c ≤ 16777215) : ([(wrap64 (Int.tdiv c 65536)) % 256, (Int.tmod (wrap64 (Int.tdiv c 256)) 256) % 256, (Int.tmod c 256) % 256] : List Int) = ch c := by
  have e1 : Int.tdiv c 65536 = c / 65536 := Int.tdiv_eq_ediv_of_nonneg (by omega)
  have e2 : Int.tdiv c 256 = c / 256 := Int.tdiv_eq_ediv_of_nonneg (by omega)
  have e3 : Int.tmod c 256 = c % 256 := Int.tmod_eq_emod_of_nonneg (by omega)
  have e4 : wrap64 (c / 65536) = c / 65536 := w64 (by omega) (by omega)
  have e5 : wrap64 (c / 256) = c / 256 := w64 (by omega) (by omega)
  have e6 : Int.tmod (c / 256) 256 = (c / 256) % 256 := Int.tmod_eq_emod_of_nonneg (by omega)
  rw [e1, e2, e3, e4, e5, e6]
  unfold ch
  congr 2
  · omega
  · congr 1
    omega
theorem hd_eq {kind cnt : Int} (h : 0 ≤ cnt ∧ cnt ≤ 100000) : ([kind % 256, (wrap64 (Int.tdiv cnt 256)) % 256, (Int.tmod cnt 256) % 256] : List Int) = hd kind cnt := by
  have e2 : Int.tdiv cnt 256 = cnt / 256 := Int.tdiv_eq_ediv_of_nonneg (by omega)
  have e3 : Int.tmod cnt 256 = cnt % 256 := Int.tmod_eq_emod_of_nonneg (by omega)
  have e5 : wrap64 (cnt / 256) = cnt / 256 := w64 (by omega) (by omega)
  rw [e2, e3, e5]
  unfold hd
  congr 2
  congr 1
  omega
end

end Go.Proofs.YtjhenmegcgnkgaaX
