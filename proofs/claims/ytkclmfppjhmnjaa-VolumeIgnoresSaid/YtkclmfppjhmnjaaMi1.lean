/- The contract of volume.Missing. -/
import Derived.Test.YtkclmfppjhmnjaaB42
import Derived.Test.YtkclmfppjhmnjaaCs0
import Derived.Test.YtkclmfppjhmnjaaIns
namespace Go.Proofs.Ytkclmfppjhmnjaa
open Go.RowKit Wire Vol Crc Go.Maps

def missTo (P : List (List Nat)) (k : Nat) : List Nat := (List.range k).filter fun i => decide (P.getD i [] = [])
theorem missTo_all (P : List (List Nat)) : missTo P P.length = missL P := rfl
theorem missTo_yes {P : List (List Nat)} {k : Nat} (h : P.getD k [] = []) : missTo P (k + 1) = missTo P k ++ [k] := by
  unfold missTo; rw [List.range_succ, List.filter_append, List.filter_cons_of_pos (by exact decide_eq_true h), List.filter_nil]
theorem missTo_no {P : List (List Nat)} {k : Nat} (h : P.getD k [] ≠ []) : missTo P (k + 1) = missTo P k := by
  unfold missTo; rw [List.range_succ, List.filter_append, List.filter_cons_of_neg (by simpa using h), List.filter_nil, List.append_nil]
theorem missTo_len (P : List (List Nat)) (k : Nat) : (missTo P k).length ≤ k := by
  unfold missTo
  have := List.length_filter_le (fun i => decide (P.getD i [] = [])) (List.range k)
  rw [List.length_range] at this
  exact this
/-- What Missing answers. -/
def miL (L : List (List Nat)) : List Nat := if clErr L = 0 then missL (clP L) else []
def MiRet (l : List Nat) (er : Nat) (w : World) (e : Ending) (w' : World) : Prop := ∃ v, e = .returned (.tuple #[v, .int .i64 er]) ∧ IO w' w.heap.size v l ∧ Below w.heap.size w w'

set_option maxRecDepth 100000 in
set_option maxHeartbeats 4000000 in
theorem vMissing_any (v : Value) (L : List (List Nat)) (w : World) (hm : Mx w v L) (hBy : BytM L) (hLl : L.length ≤ 1000000000) (hl : ∀ b ∈ L, b.length ≤ 100000000) : Calls Try.prog 33 #[v] w (MiRet (miL L) (clErr L) w) := by
  obtain ⟨i0, hi, hz0, hz1, hz2⟩ := info_parts infoIntV
  have HC := Lib.hid (vcollect_any v L w hm hBy hLl hl)
  have HBy := Lib.hid hBy
  obtain ⟨a, cap, rfl, hcap, _⟩ := hm
  clear hBy hl
  go_enter Try.func33, Try.ntmps33
  go_wp2_with fail
  refine HC.out.mono ?_
  rintro e w1 ⟨mo, rfl, hS, hB1⟩
  obtain ⟨h, hh⟩ : ∃ h, clHd L = h := ⟨_, rfl⟩
  obtain ⟨P, hP⟩ : ∃ P, clP L = P := ⟨_, rfl⟩
  have hOk : clErr L = 0 → SetOk h P := fun hE => by rw [← hh, ← hP]; exact (setOk_cl HBy.out hE).1
  have HmL := Lib.hid (show miL L = if clErr L = 0 then missL P else [] by unfold miL; rw [hP])
  rw [hP] at hS
  rw [hh]
  obtain ⟨er, her⟩ : ∃ er, clErr L = er := ⟨_, rfl⟩
  rw [her] at hS HmL hOk ⊢
  have HEr := Lib.hid her
  have HB1 := Lib.hid hB1
  have HS := Lib.hid hS
  have HOk := Lib.hid hOk
  clear hS hOk hB1 HC hh hP her
  by_cases hE : er = 0
  · subst hE
    obtain ⟨bm, n, D, vs, rfl, hown, hM, hV⟩ := HS.out rfl
    have hal := al w1 (.cells (stL h (.map (some bm))).toArray 115)
    have HO := Lib.hid (hown.alloc (.cells (stL h (.map (some bm))).toArray 115))
    have HV := Lib.hid (hV.new hal)
    have hPl := (HOk.out rfl).len
    have hP64 : P.length ≤ 64 := by have := (HOk.out rfl).dr; omega
    have HJ := Lib.hid (vall_any h bm n D vs P _ HO.out hM HV.out hPl (by omega))
    have HB2 := Lib.hid (HB1.out.trans (hal.mono HB1.out.size))
    obtain ⟨a1, a2, a3, a4, a5⟩ := h
    unfold stV stL hdL at *
    clear hal hown hM hV HS hPl HOk
    go_wp2_with fail
    refine HJ.out.mono ?_
    rintro e w2 ⟨v2, rfl, hX, hB3⟩
    have HX := Lib.hid hX
    obtain ⟨va, vc, rfl, hvc, h2⟩ := hX
    have HB3 := Lib.hid (HB2.out.trans (hB3.mono HB2.out.size))
    clear hB3 HJ HB2 h2
    go_wp2_with fail
    go_loopg [20, 6] P.length (fun gk i o wr => ∃ k : Nat, k + gk = P.length ∧ i = .int .i64 k ∧ Hid (IO wr w2.heap.size o (missTo P k)) ∧ Hid (Below w2.heap.size w2 wr))
    case atStart => exact ⟨0, by omega, rfl, IO.nil _ _, Below.refl _ _⟩
    case round =>
      obtain ⟨k, hgk, rfl, hI, hB⟩ := hrel
      have Hgk := Lib.hid hgk
      have hk : k ≤ P.length := by omega
      clear hgk
      by_cases hlt : k < P.length
      · have hkr := getD_some (l := P) (d := []) hlt
        obtain ⟨b, o, A, C, rfl, hA⟩ : ∃ b o A C, va = some ⟨b, o, none⟩ ∧ MxAt w2 b o P A C := by
          obtain ⟨va', vc', hv, _, h2⟩ := HX.out
          simp only [Value.slice.injEq] at hv
          obtain ⟨rfl, _, _⟩ := hv
          rcases h2 with h | h
          · rw [h] at hlt; simp at hlt
          · exact h
        obtain ⟨x1, _, _, _⟩ := hA.new hB.out k _ hkr
        have hs := hB.out.size
        obtain ⟨oa, oc, rfl⟩ := hI.out.form
        have hml := missTo_len P k
        have i1 : (0 : Int) ≤ (k : Int) := by omega
        have i2 : (k : Int) < (P.length : Int) := by omega
        clear hA hkr
        by_cases h0 : P.getD k [] = []
        · have Hst := Lib.hid (missTo_yes h0)
          have t1 : (((P.getD k []).length : Int) == 0) = true := by rw [h0]; rfl
          generalize missTo P k = M at *
          generalize P.getD k [] = R at *
          clear h0
          go_wp2_with (at_builtin; refine wpList_append_own _ rfl _ _ 70 rfl w2.heap.size 3 i0 (.int .i64 0) 1 8 Try.underlying70 hi hz0 hz1 hz2 rfl (by decide) _ _ _ rfl (show (wr.alloc _).ownsRow w2.heap.size 3 1 _ M.length (M.map iv) from (show wr.ownsRow w2.heap.size 3 1 _ M.length (M.map iv) from hI.out).alloc _) ⟨wr.heap.size, 0, none⟩ 1 1 [iv k] rfl rfl ?c1 ?c2 ?c3 ?c4 ?c5 ?_)
          case c1 => exact cell_one_new _ _ _
          case c2 => intro u hu; simp at hu; subst hu; rfl
          case c3 => unfold maxLen; omega
          case c4 => omega
          case c5 => simp; omega
          intro v' w5 hown hgr _
          obtain ⟨q1, q2⟩ := hI.out.snoc hs hown hgr
          rw [← Hst.out] at q1
          have HI := Lib.hid q1
          have HB5 := Lib.hid (hB.out.trans q2)
          clear hown hgr q1 q2
          go_wp2_with fail
          go_roundg (P.length - k - 1)
          case measure => have := Hgk.out; omega
          case rel => exact ⟨k + 1, by have := Hgk.out; omega, by go_num, HI.out, HB5.out⟩
        · have Hst := Lib.hid (missTo_no h0)
          have t1 : (((P.getD k []).length : Int) == 0) = false := by
            rw [beq_eq_false_iff_ne]
            intro e; apply h0
            exact List.eq_nil_of_length_eq_zero (by omega)
          have HI : Hid (IO wr w2.heap.size (.slice oa (missTo P k).length oc) (missTo P (k + 1))) := by rw [Hst.out]; exact hI
          generalize missTo P k = M at *
          generalize P.getD k [] = R at *
          clear h0 hI
          go_wp2_with fail
          go_roundg (P.length - k - 1)
          case measure => have := Hgk.out; omega
          case rel => exact ⟨k + 1, by have := Hgk.out; omega, by go_num, HI.out, hB.out⟩
      · obtain rfl : k = P.length := by omega
        rw [missTo_all] at hI
        have HE := Lib.hid (HB3.out.trans (hB.out.mono HB3.out.size))
        have HF := Lib.hid (hI.out.base HB3.out.size)
        clear hB hI
        go_wp2_with fail
        go_ret2
        exact ⟨_, by rw [HEr.out]; rfl, by rw [HmL.out]; exact HF.out, HE.out⟩
  · have t1 : ((er : Int) != 0) = true := by rw [bne_iff_ne]; omega
    obtain ⟨a1, a2, a3, a4, a5⟩ := h
    have HE := Lib.hid hE
    clear hE
    unfold stV stL hdL
    have HB2 := Lib.hid (HB1.out.alloc HB1.out.size (.cells #[.int .u32 a1, .int .i64 a2, .int .i64 a3, .int .i64 a4, .int .i64 a5, .map mo] 115))
    go_wp2_with fail
    go_ret2
    exact ⟨_, by rw [HEr.out]; rfl, by rw [HmL.out, if_neg HE.out]; exact IO.nil _ _, HB2.out⟩
end Go.Proofs.Ytkclmfppjhmnjaa
