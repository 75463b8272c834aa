/- The walk of the law VolumeHeaders. -/
import Derived.Test.YtkclmfppjhmnjaaB43
import Derived.Test.YtkclmfppjhmnjaaB39
import Derived.Test.YtkclmfppjhmnjaaB36
namespace Go.Proofs.Ytkclmfppjhmnjaa
open Go.RowKit Wire Vol Crc Go.Maps

set_option maxRecDepth 100000 in
set_option maxHeartbeats 4000000 in
theorem VolumeHeaders_walk (v : Value) (l : List Nat) (w : World) (h : Bs w v l) (hB : Byt l) (_hl : l.length ≤ maxLen) : Calls Try.prog 5 #[v] w fun e w' => e = .returned (.bool true) ∧ Below w.heap.size w w' := by
  have H := Lib.hid h
  have HBy := Lib.hid hB
  obtain ⟨a, cap, rfl, hc, _⟩ := h
  by_cases h3 : 300 < l.length
  · have t1 : decide ((300 : Int) < (l.length : Int)) = true := by simp; omega
    have HA := Lib.hid (awake55_any w)
    clear hB h3
    go_enter Try.func5, Try.ntmps5
    go_wp2_with fail
    refine HA.out.mono ?_
    rintro e w1 ⟨rfl, hB1⟩
    have HB1 := Lib.hid hB1
    clear hB1
    go_wp2_with fail
    go_ret
    exact ⟨rfl, HB1.out⟩
  · have t1 : decide ((300 : Int) < (l.length : Int)) = false := by simp; omega
    have HL := Lib.hid (show l.length ≤ 300 by omega)
    clear hB h3
    go_enter Try.func5, Try.ntmps5
    go_wp2_with fail
    refine (vHeader_any _ l _ H.out HBy.out (by have := HL.out; omega)).mono ?_
    rintro e w1 ⟨vp, rfl, hO1, hB1⟩
    obtain ⟨hh, hhd⟩ : ∃ h, hdOf l = h := ⟨_, rfl⟩
    have HD := Lib.hid hhd
    rw [hhd]
    obtain ⟨a1, a2, a3, a4, a5⟩ := hh
    have hN : Blk (w1.alloc (.cells #[.int .u32 a1, .int .i64 a2, .int .i64 a3, .int .i64 a4, .int .i64 a5] 54)) w1.heap.size 54 (hdL (a1, a2, a3, a4, a5)) := Blk.new w1 54 (hdL (a1, a2, a3, a4, a5)).toArray
    have hB2 := hB1.trans ((al w1 (.cells #[.int .u32 a1, .int .i64 a2, .int .i64 a3, .int .i64 a4, .int .i64 a5] 54)).mono hB1.size)
    have H2 := Lib.hid (H.out.new hB2)
    have O2 := Lib.hid (hO1.bs.new (al w1 (.cells #[.int .u32 a1, .int .i64 a2, .int .i64 a3, .int .i64 a4, .int .i64 a5] 54)))
    have N2 := Lib.hid hN
    have B2 := Lib.hid hB2
    have hf := hO1.form
    obtain ⟨pa, pk, rfl⟩ := hf
    clear hhd hN hB2 hO1 hB1 H
    unfold hdV hdL
    go_wp2_with fail
    generalize w1.alloc (.cells #[.int .u32 a1, .int .i64 a2, .int .i64 a3, .int .i64 a4, .int .i64 a5] 54) = W2 at *
    generalize w1.heap.size = g2 at *
    refine (r5Header_any _ l _ H2.out HBy.out (by have := HL.out; omega)).mono ?_
    rintro e w3 ⟨vq, rfl, hO3, hB3⟩
    rw [HD.out]
    have hN : Blk (w3.alloc (.cells #[.int .u32 a1, .int .i64 a2, .int .i64 a3, .int .i64 a4, .int .i64 a5] 54)) w3.heap.size 54 (hdL (a1, a2, a3, a4, a5)) := Blk.new w3 54 (hdL (a1, a2, a3, a4, a5)).toArray
    have hB4 := hB3.trans ((al w3 (.cells #[.int .u32 a1, .int .i64 a2, .int .i64 a3, .int .i64 a4, .int .i64 a5] 54)).mono hB3.size)
    have O4 := Lib.hid (hO3.bs.new (al w3 (.cells #[.int .u32 a1, .int .i64 a2, .int .i64 a3, .int .i64 a4, .int .i64 a5] 54)))
    have P4 := Lib.hid (O2.out.new hB4)
    have N4 := Lib.hid hN.range
    have M4 := Lib.hid (N2.out.below hB4 N2.out.lt).range
    have B4 := Lib.hid (B2.out.trans (hB4.mono B2.out.size))
    obtain ⟨qa, qk, rfl⟩ := hO3.form
    have HPb := Lib.hid (hdP_byt HBy.out)
    have t2 : ((hdErr l : Int) == (hdErr l : Int)) = true := by simp
    clear hN hB4 hO3 hB3 H2 O2 N2 B2
    unfold hdV hdL
    go_wp2_with (first
      | ((with_reducible show wpList _ _ _ (Oper.mk _ (Op.load 54 (.tmp 3)) _ _ _ _ :: _) _ _); refine wpList_load_mid rfl 54 (.tmp 3) rfl g2 0 rfl (hdL (a1, a2, a3, a4, a5)) _ M4.out Try.underlying54 rfl sizeVol ?_)
      | ((with_reducible show wpList _ _ _ (Oper.mk _ (Op.load 54 (.tmp 6)) _ _ _ _ :: _) _ _); refine wpList_load_mid rfl 54 (.tmp 6) rfl w3.heap.size 0 rfl (hdL (a1, a2, a3, a4, a5)) _ N4.out Try.underlying54 rfl sizeVol ?_)
      | ((with_reducible show wpList _ _ _ (Oper.mk _ (Op.binOp .eql 54 _ _ _) _ _ _ _ :: _) _ _); refine wpList_eq_hd rfl (.tmp 25) (.tmp 26) _ rfl (a1, a2, a3, a4, a5) (a1, a2, a3, a4, a5) true rfl rfl (decide_eq_true rfl) ?_))
    refine (bEqual_any _ _ (hdP l) (hdP l) _ P4.out O4.out HPb.out HPb.out).mono ?_
    rintro e w5 ⟨rfl, hw5⟩
    rw [decide_eq_true rfl]
    have B5 := Lib.hid (show Below w.heap.size w w5 by rw [← hw5]; exact B4.out)
    have HA := Lib.hid (awake55_any w5)
    clear hw5 N4 M4 P4 O4 B4
    go_wp2_with fail
    refine HA.out.mono ?_
    rintro e w6 ⟨rfl, hB6⟩
    have B6 := Lib.hid (B5.out.trans (hB6.mono B5.out.size))
    clear hB6 HA B5
    go_wp2_with fail
    go_ret
    exact ⟨rfl, B6.out⟩
end Go.Proofs.Ytkclmfppjhmnjaa
