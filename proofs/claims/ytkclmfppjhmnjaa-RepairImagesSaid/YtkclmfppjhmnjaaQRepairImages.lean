/- append(s, make([]byte, n)...) where s has no room. -/
/- Contracts of the reference's Same (at disks without pending writes) and of chapter 59's awake. -/
/- The contract of chapter 59's awake. -/
/- The walk of the law RepairRestores. -/
/- The contract of the reference's Check of a disk. -/
/- The contract of the reference's Restore. -/
/- The contracts of the reference's fits and Copy of a disk. -/
/- The contract of the reference's Sync of a disk. -/
/- The contract of the reference's Read of all pages of a disk that is in order. -/
/- The contract of the reference's Image. -/
/- The contracts of Protect and of the reference's Protect. -/
/- The walk of the law VolumeSplits. -/
/- The walk of the law RepairImages. -/
/- How a disk is opened. -/
/- Arguments: a pair of ints. -/
/- For every input the law RepairImages of the program returns true and leaves its arguments as they were: the given statement Rows.RepairImagesSaid. No condition. -/
import Derived.Test.YtkclmfppjhmnjaaB01
import Derived.Lib.AppendZeros
import Derived.Test.YtkclmfppjhmnjaaB20
import Derived.Test.YtkclmfppjhmnjaaB18
import Derived.Test.YtkclmfppjhmnjaaB09
import Derived.Test.YtkclmfppjhmnjaaB40
import Derived.BigQuiet
import Derived.Test.YtkclmfppjhmnjaaB39
import Derived.Deep.RegionHeldLaw
import Derived.Deep.AppendSrc
import Derived.Deep.Upon
import Derived.Deep.AppendLies
import Derived.Test.YtkclmfppjhmnjaaB11
import Derived.Test.YtkclmfppjhmnjaaB38
import Derived.Test.YtkclmfppjhmnjaaB36
import Derived.Test.YtkclmfppjhmnjaaB41
import Derived.Test.YtkclmfppjhmnjaaB43
import Derived.Test.YtkclmfppjhmnjaaB04
import Derived.Test.YtkclmfppjhmnjaaB08
import Derived.Test.YtkclmfppjhmnjaaB44
import Derived.Test.YtkclmfppjhmnjaaRows
import Derived.WalkKit
import Derived.ProofKit
import Derived.OpenShut
import Derived.ShutString
import Derived.ChangeOld
import Derived.Below
namespace Go.Proofs.Ytkclmfppjhmnjaa
open Go.RowKit

theorem run_append_zeros {P : Program} (w : World) (t tn ty e : TypeId) (i : TypeInfo) (z : Value) (kk kn : IntKind) (ht : P.underlying t = some (.slice e)) (htn : P.underlying tn = some (.int kn)) (hi : P.info? e = some i) (hz : i.zero = some z)
    (n k c : Nat) (h0 : 0 < n) (hs : i.size = 1) (hby : i.bytes = 1) (hn : k + n ≤ 1000000000) (hc : c < k + n) (hc2 : c < 256) (ad : Addr) (old : List Value) (hl : old.length = k) (hold : ∀ j v, old[j]? = some v → w.cell? (ad.add j) = some v) :
    (Builtin.append_ #[t, tn] ty #[.slice (some ad) k c, .int kk n]).run P w =
      .ok (.slice (some ⟨w.heap.size, 0, none⟩) (k + n) (grownCap w (k + n) c e)) (w.drew.alloc (.cells (old.toArray ++ Builtin.zeroCells z.cells n ++ Builtin.zeroCells z.cells (grownCap w (k + n) c e - (k + n))) e)) := by
  have hn0 : n ≠ 0 := by omega
  have hw : IntKind.i64.wrap (n : Int) = n := by rw [IntKind.wrap_i64]; omega
  have h63' : ¬ (9223372036854775807 < (k : Int) + (n : Int)) := by omega
  have hnx : Builtin.nextslicecap (k + n) c ≤ 4 * (k + n) := by
    unfold Builtin.nextslicecap
    split
    · omega
    · first | omega | (rw [if_pos hc2]; omega)
  have h48' : ¬ (281474976710656 < Builtin.nextslicecap (k + n) c) := by omega
  have h48i : ¬ (281474976710656 < (n : Int)) := by omega
  have hneg : ¬ ((n : Int) < 0) := by omega
  have hfit : ¬ (k + n ≤ c) := by omega
  have hload := run_loadCells_list (P := P) w.drew ad old (fun j v hv => by rw [World.cell?_drew]; exact hold j v hv)
  rw [hl] at hload
  simp [Builtin.append_, run_underlying ht, run_underlying htn, sizeOf, typeInfo, zeroValue, hi, hz, asInt, asIntOf, hw, hn0, hneg, hs, hby, h63', h48', h48i, hfit, Question.forced, Builtin.firstCells, hload, newRow, grownCap]
end Go.Proofs.Ytkclmfppjhmnjaa

namespace Go.Proofs.Ytkclmfppjhmnjaa
open Go.RowKit Img Wire

theorem disk_cells (w : World) (va vb : Value) : (w.alloc (.cells #[va, vb] 25)).cell? ⟨w.heap.size, 0, none⟩ = some va ∧ (w.alloc (.cells #[va, vb] 25)).cell? ⟨w.heap.size, 1, none⟩ = some vb ∧ Below w.heap.size w (w.alloc (.cells #[va, vb] 25)) :=
  ⟨(Blk.new w 25 #[va, vb]).cell rfl, (Blk.new w 25 #[va, vb]).cell rfl, (Below.refl _ _).alloc (Nat.le_refl _) _⟩

set_option maxRecDepth 100000 in
set_option maxHeartbeats 400000 in
theorem Same48_nil (va vb : Value) (a b : List (List Nat)) (w : World) (h1 : Pgs w va 16 a) (h2 : Pgs w vb 16 b) (ha : P16 a) (hb : P16 b) (hl : a.length ≤ 1000000000) :
    Calls Try.prog 22 #[.agg #[va, .slice none 0 0], .agg #[vb, .slice none 0 0]] w fun e w' => e = .returned (.bool (decide (a = b))) ∧ Below w.heap.size w w' := by
  obtain ⟨c0, c1, hB0⟩ := disk_cells w va (.slice none 0 0)
  obtain ⟨d0, d1, hB1⟩ := disk_cells (w.alloc (.cells #[va, .slice none 0 0] 25)) vb (.slice none 0 0)
  have hB := hB0.trans (hB1.mono hB0.size)
  have e0 := (hB1.cell (p := ⟨w.heap.size, 0, none⟩) (World.block_lt_of_cell? _ _ c0)).trans c0
  have e1 := (hB1.cell (p := ⟨w.heap.size, 1, none⟩) (World.block_lt_of_cell? _ _ c1)).trans c1
  have HC := Lib.hid (SamePages_any va vb a b _ (h1.new hB) (h2.new hB) ha hb hl)
  have HB := Lib.hid hB
  rw [show (w.alloc (.cells #[va, .slice none 0 0] 25)).heap.size = w.heap.size + 1 by simp] at d0 d1
  obtain ⟨a1, k1, rfl, _, _⟩ := h1
  obtain ⟨a2, k2, rfl, _, _⟩ := h2
  clear hB0 hB1 hB c0 c1 ha hb
  cases hx : decide (a = b) with
  | true =>
    rw [hx] at HC
    clear hx
    go_enter Try.func22, Try.ntmps22
    go_wp2_with fail
    refine HC.out.mono ?_
    rintro e w' ⟨rfl, n, rfl⟩
    go_wp2_with fail
    go_loop [5] (fun i => i = .int .i64 0) (fun _ => 0)
    case atStart => rfl
    case round =>
      subst hrel
      go_wp2_with fail
      go_ret
      exact ⟨rfl, below_drewN HB.out n⟩
  | false =>
    rw [hx] at HC
    clear hx
    go_enter Try.func22, Try.ntmps22
    go_wp2_with fail
    refine HC.out.mono ?_
    rintro e w' ⟨rfl, n, rfl⟩
    go_wp2_with fail
    go_ret
    exact ⟨rfl, below_drewN HB.out n⟩

/-- The pages of the example. -/
def pg0 : List (List Nat) := List.replicate 3 zp
def pg1 : List (List Nat) := [zp, 7 :: List.replicate 15 0, zp]
theorem im0 : imErr pg0 [] = 0 ∧ imRes pg0 [] = [3] := by decide +kernel
theorem im1 : imErr pg1 [] = 0 ∧ imRes pg1 [] = 3 :: (zp ++ 7 :: List.replicate 15 0) := by decide +kernel
theorem re1 : reErr (3 :: (zp ++ 7 :: List.replicate 15 0)) = 0 ∧ rePg (3 :: (zp ++ 7 :: List.replicate 15 0)) = pg1 := by decide +kernel
theorem re2 : reErr (3 :: List.replicate 16 0) = 3 := by decide +kernel
theorem re3 : reErr [0] = 2 := by decide +kernel
end Go.Proofs.Ytkclmfppjhmnjaa

namespace Go.Proofs.Ytkclmfppjhmnjaa
open Go.RowKit Img Wire

/-- The 33 bytes of the example. -/
def b33 : List Nat := 3 :: (zp ++ 7 :: List.replicate 15 0)
structure Aw (b0 : Nat) (v2 v4 vs5 : Value) (r6 : Nat) (W : World) : Prop where
  p1 : Bs W v2 [3]
  p2 : Bs W v4 b33
  p3 : W.cell? ⟨b0 + 1, 0, none⟩ = some (.slice (some ⟨b0, 0, none⟩) 3 3)
  p4 : W.cell? ⟨b0 + 1, 1, none⟩ = some (.slice none 0 0)
  p5 : Pgs W (.slice (some ⟨b0, 0, none⟩) 3 3) 16 pg1
  p6 : Pgs W vs5 16 pg1
  p7 : W.cell? ⟨r6, 0, none⟩ = some vs5
  p8 : W.cell? ⟨r6, 1, none⟩ = some (.slice none 0 0)
theorem cell_new {W W' : World} (k : Below W.heap.size W W') {p : Addr} {v : Value} (h : W.cell? p = some v) : W'.cell? p = some v := (k.cell (World.block_lt_of_cell? W p h)).trans h
theorem Aw.new {b0 : Nat} {v2 v4 vs5 : Value} {r6 : Nat} {W W' : World} (h : Aw b0 v2 v4 vs5 r6 W) (k : Below W.heap.size W W') : Aw b0 v2 v4 vs5 r6 W' :=
  ⟨h.p1.new k, h.p2.new k, cell_new k h.p3, cell_new k h.p4, h.p5.new k, h.p6.new k, cell_new k h.p7, cell_new k h.p8⟩
theorem aw_start (w : World) :
    Blk ((w.alloc (.cells (z16 3) 82)).alloc (.cells #[.slice (some ⟨w.heap.size, 0, none⟩) 3 3, .slice none 0 0] 25)) w.heap.size 82 (pgc pg0) ∧
    Blk ((w.alloc (.cells (z16 3) 82)).alloc (.cells #[.slice (some ⟨w.heap.size, 0, none⟩) 3 3, .slice none 0 0] 25)) (w.heap.size + 1) 25 [.slice (some ⟨w.heap.size, 0, none⟩) 3 3, .slice none 0 0] ∧
    Below w.heap.size w ((w.alloc (.cells (z16 3) 82)).alloc (.cells #[.slice (some ⟨w.heap.size, 0, none⟩) 3 3, .slice none 0 0] 25)) := by
  refine ⟨(Blk.new w 82 (z16 3)).alloc _, ?_, ((Below.refl _ _).alloc (Nat.le_refl _) _).alloc (by simp) _⟩
  have h := Blk.new (w.alloc (.cells (z16 3) 82)) 25 #[.slice (some ⟨w.heap.size, 0, none⟩) 3 3, .slice none 0 0]
  rw [show (w.alloc (.cells (z16 3) 82)).heap.size = w.heap.size + 1 by simp] at h
  exact h
theorem pg0_16 : P16 pg0 := by unfold P16; decide
theorem pg1_16 : P16 pg1 := by unfold P16; decide
theorem pgs_blk {w : World} {g n : Nat} {l : List (List Nat)} (hb : Blk w g 82 (pgc l)) (h : P16 l) (hn : l.length = n) : Pgs w (.slice (some ⟨g, 0, none⟩) n n) 16 l :=
  ⟨_, n, by rw [hn], by omega, Or.inr ⟨g, 0, rfl, (show Blk w g 82 (l.flatten.map bv) from hb).row.page h⟩⟩
theorem pds_nil (w : World) : Pds w (.slice none 0 0) [] := ⟨none, 0, rfl, Nat.le_refl _, Or.inl rfl⟩
theorem set16 : (pgc pg0).set 16 (.int .u8 7) = pgc pg1 := rfl
theorem b33_byt : Byt b33 := by unfold Byt; decide
theorem one_bs (w : World) (x : Nat) : Bs (w.alloc (.cells #[.int .u8 x] 5)) (.slice (some ⟨w.heap.size, 0, none⟩) 1 1) [x] :=
  ⟨_, 1, rfl, Nat.le_refl _, Or.inr ⟨w.heap.size, 0, rfl, (show Blk (w.alloc (.cells #[.int .u8 x] 5)) w.heap.size 5 ([x].map bv) from Blk.new w 5 #[.int .u8 x]).row⟩⟩

theorem zeroCells_one (z : Value) (n : Nat) : Builtin.zeroCells #[z] n = (List.replicate n z).toArray := by
  apply Array.ext
  · simp [Builtin.zeroCells]
  · intro i h1 h2
    simp [Builtin.zeroCells, Nat.mod_one]
theorem apz_cells (k : Nat) : [Value.int .u8 3].toArray ++ Builtin.zeroCells (Value.cells (.int .u8 0)) 16 ++ Builtin.zeroCells (Value.cells (.int .u8 0)) k = ((3 :: List.replicate 16 0).map bv ++ List.replicate k (Value.int .u8 0)).toArray := by
  rw [show Value.cells (.int .u8 0) = #[.int .u8 0] from rfl, zeroCells_one, zeroCells_one, List.append_toArray, List.append_toArray]
  rfl
theorem apz_bs (w : World) (k c : Nat) (hc : 17 ≤ c) : Bs (w.alloc (.cells ([Value.int .u8 3].toArray ++ Builtin.zeroCells (Value.cells (.int .u8 0)) 16 ++ Builtin.zeroCells (Value.cells (.int .u8 0)) k) 5)) (.slice (some ⟨w.heap.size, 0, none⟩) 17 c) (3 :: List.replicate 16 0) := by
  refine ⟨_, c, rfl, hc, Or.inr ⟨w.heap.size, 0, rfl, ?_⟩⟩
  refine Blk.row (T := 5) ⟨List.replicate k (Value.int .u8 0), ?_⟩
  rw [apz_cells]
  show (w.heap.push _)[w.heap.size]? = _
  simp
theorem wpList_z17 {ops : Array Oper} {rest : List Oper} {o : Oper} {a : Act} {Q : Exit → Act → World → Prop} {W : World} (hgd : o.guard = none) (s x : Operand)
    (ho : o.op = .call { callee := .builtin .append, args := #[s, x], argTypes := #[26, 3] }) (hs : a.eval s = .slice (some ⟨W.heap.size, 0, none⟩) 1 1) (hx : a.eval x = .int .i64 16)
    (h : ∀ g c w', Bs w' (.slice (some ⟨g, 0, none⟩) 17 c) (3 :: List.replicate 16 0) → Below W.heap.size W w' → wpList Try.prog ops Q rest (a.put o.dst (.slice (some ⟨g, 0, none⟩) 17 c)) w') : wpList Try.prog ops Q (o :: rest) a (W.alloc (.cells #[.int .u8 3] 5)) := by
  obtain ⟨i0, hi, hz0, hz1, hz2⟩ := info_parts infoByte
  refine Lib.wpList_append_run _ hgd s x 26 3 ho _ _ hs hx _ _ (run_append_zeros (W.alloc (.cells #[.int .u8 3] 5)) 26 3 _ 5 i0 (.int .u8 0) .i64 .i64 Try.underlying26 Try.underlying3 hi hz0 16 1 1 (by decide) hz1 hz2 (by decide) (by decide) (by decide) ⟨W.heap.size, 0, none⟩ [.int .u8 3] rfl (cell1 _ _ _)) ?_
  exact h _ _ _ (apz_bs (W.alloc (.cells #[.int .u8 3] 5)).drew _ _ (grownCap_ge (W.alloc (.cells #[.int .u8 3] 5)) (1 + 16) 1 5))
    ((((Below.refl _ _).alloc (Nat.le_refl _) _).drew).alloc (by show W.heap.size ≤ (W.alloc _).heap.size; simp) _)
theorem z17_byt : Byt (3 :: List.replicate 16 0) := by unfold Byt; decide

set_option maxRecDepth 100000 in
set_option maxHeartbeats 4000000 in
theorem awake59_any (w : World) : Calls Try.prog 12 #[] w fun e w' => e = .returned (.bool true) ∧ Below w.heap.size w w' := by
  obtain ⟨i0, hi, hz0, hz1, hz2⟩ := info_parts infoByte
  have mk : ∀ w, (Instr.makeSlice 22 (.int .i64 3) (.int .i64 3)).run Try.prog w = .ok (.slice (some ⟨w.heap.size, 0, none⟩) 3 3) (w.alloc (.cells (z16 3) 82)) := fun w => mkPages 3 (by omega) w
  obtain ⟨hS, hD, hB⟩ := aw_start w
  have c0 := hD.cell (i := 0) rfl
  have c1 := hD.cell (i := 1) rfl
  have HS := Lib.hid hS
  have HD := Lib.hid hD
  have HB := Lib.hid hB
  clear hS hD hB
  go_enter Try.func12, Try.ntmps12
  go_wp2_with fail
  generalize (w.alloc (.cells (z16 3) 82)).alloc (.cells #[.slice (some ⟨w.heap.size, 0, none⟩) 3 3, .slice none 0 0] 25) = W1 at *
  refine (Image_any _ _ pg0 [] _ (pgs_blk HS.out pg0_16 rfl) pg0_16 (by decide) (pds_nil _) (by intro p hp; cases hp) (by decide)).mono ?_
  rintro e w2 ⟨v2, rfl, hO2, hB2⟩
  rw [im0.1]
  rw [im0.2] at hO2
  have HS2 := Lib.hid (HS.out.below hB2 HS.out.lt)
  have HD2 := Lib.hid (HD.out.below hB2 HD.out.lt)
  have HB2 := Lib.hid (HB.out.trans (hB2.mono HB.out.size))
  have hlt1 := HS.out.lt
  have d0 := HD2.out.cell (i := 0) rfl
  have d1 := HD2.out.cell (i := 1) rfl
  have x16 := HS2.out.cell (i := 16) (v := .int .u8 0) rfl
  have f16 := HS2.out.frozen 16
  have HS3 := Lib.hid (show Blk (w2.setCell ⟨w.heap.size, 16, none⟩ (.int .u8 7)) w.heap.size 82 (pgc pg1) from HS2.out.setCell (i := 16) (by decide) (.int .u8 7))
  have HD3 := Lib.hid (show Blk (w2.setCell ⟨w.heap.size, 16, none⟩ (.int .u8 7)) (w.heap.size + 1) 25 _ from HD2.out.setCell_other (p := ⟨w.heap.size, 16, none⟩) (by show w.heap.size + 1 ≠ w.heap.size; omega) _)
  have HB3 := Lib.hid (HB2.out.setCell (p := ⟨w.heap.size, 16, none⟩) (Nat.le_refl _) (.int .u8 7))
  have HV2 := Lib.hid (show Bs (w2.setCell ⟨w.heap.size, 16, none⟩ (.int .u8 7)) v2 [3] from
    hO2.bs.kept (S := fun k => k = w.heap.size) ((Kept.refl (fun k => k = w.heap.size) w2).setCell (p := ⟨w.heap.size, 16, none⟩) (fun _ => rfl) _) (fun g hg _ h => by have := hO2.block g hg; omega))
  obtain ⟨a2, k2, rfl⟩ := hO2.form
  clear hO2 hB2 HS HD c0 c1
  go_wp2_with fail
  generalize w2.setCell ⟨w.heap.size, 16, none⟩ (.int .u8 7) = W3 at *
  refine (Image_any _ _ pg1 [] _ (pgs_blk HS3.out pg1_16 rfl) pg1_16 (by decide) (pds_nil _) (by intro p hp; cases hp) (by decide)).mono ?_
  rintro e w4 ⟨v4, rfl, hO4, hB4⟩
  rw [im1.1]
  rw [im1.2] at hO4
  have HV4 := Lib.hid (show Bs w4 v4 b33 from hO4.bs)
  have HV24 := Lib.hid (HV2.out.new hB4)
  have HS4 := Lib.hid (HS3.out.below hB4 HS3.out.lt)
  have HD4 := Lib.hid (HD3.out.below hB4 HD3.out.lt)
  have HB4 := Lib.hid (HB3.out.trans (hB4.mono HB3.out.size))
  obtain ⟨a4, k4, hv4⟩ := hO4.form
  have hv4' : v4 = .slice a4 33 k4 := hv4
  subst hv4'
  clear hv4 hO4 hB4 HV2 HS3 HD3 HB3 d0 d1 x16 f16 HS2 HD2 HB2
  go_wp2_with fail
  refine (Restore_any _ b33 _ HV4.out b33_byt (by decide)).mono ?_
  rintro e w5 ⟨vs5, rfl, hP5, hB5⟩
  rw [show reErr b33 = 0 from re1.1]
  rw [show rePg b33 = pg1 from re1.2] at hP5
  obtain ⟨e0, e1, hB6⟩ := disk_cells w5 vs5 (.slice none 0 0)
  have hB56 := hB5.trans (hB6.mono hB5.size)
  have HD5 := HD4.out.below hB56 HD4.out.lt
  have HA := Lib.hid (show Aw w.heap.size (.slice a2 1 k2) (.slice a4 33 k4) vs5 w5.heap.size (w5.alloc (.cells #[vs5, .slice none 0 0] 25)) from
    ⟨HV24.out.new hB56, HV4.out.new hB56, HD5.cell (i := 0) rfl, HD5.cell (i := 1) rfl, pgs_blk (HS4.out.below hB56 HS4.out.lt) pg1_16 rfl, hP5.new hB6, e0, e1⟩)
  have HB6 := Lib.hid (HB4.out.trans (hB56.mono HB4.out.size))
  obtain ⟨a5, k5, hv5, _, _⟩ := hP5
  have hv5' : vs5 = .slice a5 3 k5 := hv5
  subst hv5'
  clear hv5
  clear hB5 hB6 hB56 HD5 HV24 HV4 HS4 HD4 HB4 e0 e1
  go_upto_region 6 with (fail)
  generalize w5.alloc (.cells #[.slice a5 3 k5, .slice none 0 0] 25) = W6 at *
  go_wp2_with (at_builtin; refine wpList_z17 rfl _ _ rfl rfl rfl ?_)
  intro g7 c7 w7 hV7 hB7
  have HV7 := Lib.hid hV7
  have HA7 := Lib.hid (HA.out.new hB7)
  have HB7 := Lib.hid (HB6.out.trans (hB7.mono HB6.out.size))
  clear hV7 hB7 HA HB6
  go_wp2_with fail
  refine (Restore_any _ (3 :: List.replicate 16 0) _ HV7.out z17_byt (by decide)).mono ?_
  rintro e w8 ⟨vs8, rfl, hP8, hB8⟩
  rw [re2]
  rw [rePg_no re2 (by decide)] at hP8
  obtain ⟨_, _, hB9⟩ := disk_cells w8 vs8 (.slice none 0 0)
  have hB89 := hB8.trans (hB9.mono hB8.size)
  have HA9 := Lib.hid (HA7.out.new hB89)
  have HB9 := Lib.hid (HB7.out.trans (hB89.mono HB7.out.size))
  obtain ⟨a8, k8, hv8, _, _⟩ := hP8
  have hv8' : vs8 = .slice a8 0 k8 := hv8
  subst hv8'
  clear hv8
  clear hB8 hB9 hB89 HA7 HB7 HV7
  go_upto_region 7 with (fail)
  generalize w8.alloc (.cells #[.slice a8 0 k8, .slice none 0 0] 25) = W9 at *
  have hB10 := (Below.refl W9.heap.size W9).alloc (Nat.le_refl _) (.cells #[.int .u8 0] 5)
  have HV10 := Lib.hid (one_bs W9 0)
  have HA10 := Lib.hid (HA9.out.new hB10)
  have HB10 := Lib.hid (HB9.out.trans (hB10.mono HB9.out.size))
  clear hB10 HA9 HB9
  go_wp2_with fail
  refine (Restore_any _ [0] _ HV10.out (by unfold Byt; decide) (by decide)).mono ?_
  rintro e w11 ⟨vs11, rfl, hP11, hB11⟩
  rw [re3]
  rw [rePg_no re3 (by decide)] at hP11
  obtain ⟨_, _, hB12⟩ := disk_cells w11 vs11 (.slice none 0 0)
  have hB112 := hB11.trans (hB12.mono hB11.size)
  have HA12 := Lib.hid (HA10.out.new hB112)
  have HB12 := Lib.hid (HB10.out.trans (hB112.mono HB10.out.size))
  obtain ⟨a11, k11, hv11, _, _⟩ := hP11
  have hv11' : vs11 = .slice a11 0 k11 := hv11
  subst hv11'
  clear hv11 hB11 hB12 hB112 HA10 HB10 HV10
  go_upto_region 8 with (fail)
  generalize w11.alloc (.cells #[.slice a11 0 k11, .slice none 0 0] 25) = W12 at *
  have hB13 := (Below.refl W12.heap.size W12).alloc (Nat.le_refl _) (.cells #[.int .u8 3] 5)
  have HV13 := Lib.hid (one_bs W12 3)
  have HA13 := Lib.hid (HA12.out.new hB13)
  have HB13 := Lib.hid (HB12.out.trans (hB13.mono HB12.out.size))
  clear hB13 HA12 HB12
  go_wp2_with fail
  refine (bEqual_any _ _ [3] [3] _ HA13.out.p1 HV13.out (by unfold Byt; decide) (by unfold Byt; decide)).mono ?_
  rintro e w14 ⟨rfl, rfl⟩
  generalize W12.alloc (.cells #[.int .u8 3] 5) = W13 at *
  obtain ⟨b4, o4, rfl, h4⟩ : ∃ b4 o4, a4 = some ⟨b4, o4, none⟩ ∧ RowAt W13 b4 o4 b33 := by
    obtain ⟨a', c', e1, _, e3⟩ := HA13.out.p2
    simp only [Value.slice.injEq] at e1
    rcases e3 with h | ⟨b, o, ha, h⟩
    · cases h
    · exact ⟨b, o, by rw [e1.1, ha], h⟩
  have y0 := h4 0 3 rfl
  have y17 := h4 17 7 rfl
  rw [Nat.add_zero] at y0
  unfold bv at y0 y17
  have z0 := HA13.out.p3
  have z1 := HA13.out.p4
  have z2 := HA13.out.p7
  have z3 := HA13.out.p8
  rw [show decide (([3] : List Nat) = [3]) = true from rfl]
  clear h4
  go_wp2_with fail
  refine (Same48_nil _ _ pg1 pg1 _ HA13.out.p6 HA13.out.p5 pg1_16 pg1_16 (by decide)).mono ?_
  rintro e w15 ⟨rfl, hB15⟩
  rw [show decide (pg1 = pg1) = true from decide_eq_true rfl]
  have HB15 := Lib.hid (HB13.out.trans (hB15.mono HB13.out.size))
  clear hB15
  go_wp2_with fail
  go_ret
  exact ⟨rfl, HB15.out⟩
end Go.Proofs.Ytkclmfppjhmnjaa

namespace Go.Proofs.Ytkclmfppjhmnjaa
open Go.RowKit Img Wire

theorem enc_byt' {n : Nat} (h : n ≤ 8192) : Byt (enc n) := fun x hx => enc_byt (Nat.lt_of_le_of_lt h (by decide)) x hx
theorem imRes_byt {l : List (List Nat)} {q : List (Int × List Nat)} (hl : BytM l) (hq : ∀ p ∈ q, Byt p.2) : Byt (imRes l q) := by
  unfold imRes
  split
  · rename_i h
    have hd : dkErr l.length q = 0 := by
      unfold imErr at h
      split at h
      · assumption
      · exact h
    obtain ⟨h1, h2, _⟩ := dkErr_ok hd
    have hc : BytM (cont l q) := cont_all hl hq
    intro x hx
    unfold imgB at hx
    rcases List.mem_append.1 hx with hx | hx
    · rw [cont_length] at hx; exact enc_byt' h2 x hx
    · obtain ⟨r, hr, hxr⟩ := List.mem_flatten.1 hx
      exact hc r (List.mem_of_mem_take hr) x hxr
  · intro x hx; cases hx
theorem im_re {l : List (List Nat)} {q : List (Int × List Nat)} (h16 : P16 l) (hq16 : Q16 q) (h : imErr l q = 0) : reErr (imRes l q) = 0 ∧ rePg (imRes l q) = cont l q ∧ dkErr l.length q = 0 := by
  have hr : imRes l q = imgB (cont l q) := by unfold imRes; rw [if_pos h]
  unfold imErr at h
  split at h
  · rename_i hd
    split at h
    · cases h
    · rename_i hL
      obtain ⟨h1, h2, _⟩ := dkErr_ok hd
      obtain ⟨k1, k2⟩ := re_img (l := cont l q) (cont_all h16 (fun p hp => hq16 p hp)) (by rw [cont_length]; exact h1) (by rw [cont_length]; exact h2) (by omega)
      rw [hr]
      exact ⟨k1, k2, hd⟩
  · rename_i hd; exact absurd h hd
theorem imRes_len (l : List (List Nat)) (q : List (Int × List Nat)) : (imRes l q).length ≤ 65536 := by
  unfold imRes
  split
  · rename_i h
    unfold imErr at h
    split at h
    · split at h
      · cases h
      · omega
    · rename_i hd; exact absurd h hd
  · exact Nat.zero_le _
theorem imErr_le (l : List (List Nat)) (q : List (Int × List Nat)) : imErr l q ≤ 5 := by
  unfold imErr dkErr
  repeat' split
  all_goals omega
theorem re_im {b : List Nat} (hb : Byt b) (h : reErr b = 0) : imErr (rePg b) [] = 0 ∧ imRes (rePg b) [] = b ∧ P16 (rePg b) ∧ (rePg b).length ≤ 8192 := by
  obtain ⟨h1, h2, h3, h4, h5⟩ := img_re hb h
  have hd : dkErr (rePg b).length [] = 0 := by
    unfold dkErr
    rw [h2, if_neg]
    rintro (h | h | ⟨p, hp, _⟩)
    · omega
    · omega
    · cases hp
  have he : imErr (rePg b) [] = 0 := by
    unfold imErr
    rw [if_pos hd, if_neg]
    show ¬ 65536 < (imgB (rePg b)).length
    rw [h1]; omega
  refine ⟨he, ?_, ?_, by omega⟩
  · unfold imRes; rw [if_pos he]; exact h1
  · have : rePg b = pagesOf (rdRest b) (rdNum b) := by unfold rePg; rw [if_pos h]
    rw [this]; exact pagesOf_16 _ _

set_option maxRecDepth 100000 in
set_option maxHeartbeats 8000000 in
theorem RepairRestores_walk (vs vp : Value) (l : List (List Nat)) (q : List (Int × List Nat)) (vb : Value) (b : List Nat) (w : World) (hv : Pgs w vs 16 l) (h16 : P16 l) (hBl : BytM l) (hl : l.length ≤ maxLen) (hq : Pds w vp q) (hq16 : Q16 q) (hBq : ∀ p ∈ q, Byt p.2) (hqn : q.length ≤ maxLen) (hb : Bs w vb b) (hBb : Byt b) (hbl : b.length ≤ maxLen) :
    Calls Try.prog 3 #[.agg #[vs, vp], vb] w fun e w' => e = .returned (.bool true) ∧ Below w.heap.size w w' := by
  obtain ⟨c0, c1, hB0⟩ := disk_cells w vs vp
  have HV := Lib.hid (hv.new hB0)
  have HQ := Lib.hid (hq.new hB0)
  have HBb := Lib.hid (hb.new hB0)
  have HB0 := Lib.hid hB0
  have HBk := Lib.hid (Blk.new w 25 #[vs, vp])
  have H16 := Lib.hid h16
  have HBl := Lib.hid hBl
  have Hq16 := Lib.hid hq16
  have HBq := Lib.hid hBq
  have HBy := Lib.hid hBb
  obtain ⟨av, cv, rfl, hcv, _⟩ := hv
  obtain ⟨aq, cq, rfl, hcq, _⟩ := hq
  obtain ⟨ab, cb, rfl, hcb, _⟩ := hb
  unfold maxLen at hl hqn hbl
  have hz0 : w.heap.size < (w.alloc (.cells #[.slice av l.length cv, .slice aq q.length cq] 25)).heap.size := by simp
  clear h16 hBl hq16 hBq hBb hB0
  go_enter Try.func3, Try.ntmps3
  go_wp2_with fail
  generalize w.alloc (.cells #[.slice av l.length cv, .slice aq q.length cq] 25) = W0 at *
  refine (Few48_any av aq l.length q.length cv cq _ hl hqn).mono ?_
  rintro e w1 ⟨rfl, hB1⟩
  have HB1 := Lib.hid (HB0.out.trans (hB1.mono HB0.out.size))
  have HBb1 := Lib.hid (HBb.out.new hB1)
  by_cases hf : ¬ (l.length ≤ 500 ∧ q.length ≤ 200)
  · rw [decide_eq_false hf]
    clear hf hB1
    go_wp2_with fail
    refine (awake59_any _).mono ?_
    rintro e w2 ⟨rfl, hB2⟩
    have HB2 := Lib.hid (HB1.out.trans (hB2.mono HB1.out.size))
    clear hB2
    go_wp2_with fail
    go_ret
    exact ⟨rfl, HB2.out⟩
  have hf' := Classical.not_not.1 hf
  rw [decide_eq_true hf']
  obtain ⟨hf1, hf2⟩ := hf'
  clear hf
  by_cases hb3 : 300 < b.length
  · have t1 : decide ((300 : Int) < (b.length : Int)) = true := by simp; omega
    clear hb3 hB1
    go_wp2_with fail
    refine (awake59_any _).mono ?_
    rintro e w2 ⟨rfl, hB2⟩
    have HB2 := Lib.hid (HB1.out.trans (hB2.mono HB1.out.size))
    clear hB2
    go_wp2_with fail
    go_ret
    exact ⟨rfl, HB2.out⟩
  have t1 : decide ((300 : Int) < (b.length : Int)) = false := by simp; omega
  have HV1 := Lib.hid (HV.out.new hB1)
  have HQ1 := Lib.hid (HQ.out.new hB1)
  have HBk1 := Lib.hid (HBk.out.below hB1 hz0)
  have c0' := HBk1.out.cell (i := 0) rfl
  have c1' := HBk1.out.cell (i := 1) rfl
  have hz1 := HBk1.out.lt
  clear hB1 HV HQ HBb HBk c0 c1 HB0
  go_wp2_with fail
  refine (Image_any _ _ l q _ HV1.out H16.out (by omega) HQ1.out Hq16.out (by omega)).mono ?_
  rintro e w2 ⟨v2, rfl, hO2, hB2⟩
  have HB2 := Lib.hid (HB1.out.trans (hB2.mono HB1.out.size))
  have HBb2 := Lib.hid (HBb1.out.new hB2)
  have HV2 := Lib.hid (HV1.out.new hB2)
  have HQ2 := Lib.hid (HQ1.out.new hB2)
  have HBk2 := Lib.hid (HBk1.out.below hB2 hz1)
  have d0 := HBk2.out.cell (i := 0) rfl
  have d1 := HBk2.out.cell (i := 1) rfl
  have hz2 := HBk2.out.lt
  have HO2 := Lib.hid hO2
  have HIm := Lib.hid (fun h => im_re (l := l) (q := q) H16.out Hq16.out h)
  have HIb := Lib.hid (imRes_byt HBl.out HBq.out)
  obtain ⟨a2, k2, rfl⟩ := hO2.form
  clear hO2 hB2 HV1 HQ1 HBb1 HBk1 c0' c1' HB1
  go_upto_if 30 with (fail)
  go_cut [] (fun wx => Hid (Bs wx (.slice ab b.length cb) b ∧ Below w.heap.size w wx))
  case first =>
    have hle := imErr_le l q
    have HLn := Lib.hid (imRes_len l q)
    by_cases hE : imErr l q = 0
    · obtain ⟨j1, j2, j3⟩ := HIm.out hE
      have J1 := Lib.hid j1
      have J2 := Lib.hid j2
      have t2 : ((imErr l q : Int) == 0) = true := by rw [hE]; rfl
      obtain ⟨e1, e2⟩ := dr_all l q
      rw [if_pos j3] at e2
      rw [j3] at e1
      have E1 := Lib.hid e1
      have E2 := Lib.hid e2
      have HC16 := Lib.hid (show P16 (cont l q) from cont_all H16.out (fun p hp => Hq16.out p hp))
      have HCl := Lib.hid (cont_length l q)
      clear j1 j2 j3 hE HIm e1 e2
      generalize imErr l q = xe at *
      go_wp2_with fail
      refine (Restore_any _ (imRes l q) _ HO2.out.bs HIb.out (by have := HLn.out; omega)).mono ?_
      rintro e w3 ⟨v3, rfl, hP3, hB3⟩
      rw [J1.out]
      rw [J2.out] at hP3
      obtain ⟨x0, x1, hB4⟩ := disk_cells w3 v3 (.slice none 0 0)
      have hB34 := hB3.trans (hB4.mono hB3.size)
      have hz4 := hB34.size
      have HP4 := Lib.hid (hP3.new hB4)
      have HBk4 := Lib.hid (HBk2.out.below hB34 hz2)
      have y0 := HBk4.out.cell (i := 0) rfl
      have y1 := HBk4.out.cell (i := 1) rfl
      have HV4 := Lib.hid (HV2.out.new hB34)
      have HQ4 := Lib.hid (HQ2.out.new hB34)
      have HBb4 := Lib.hid (HBb2.out.new hB34)
      have HB4 := Lib.hid (HB2.out.trans (hB34.mono HB2.out.size))
      have X0 := Lib.hid x0
      have X1 := Lib.hid x1
      obtain ⟨a3, k3, rfl, _, _⟩ := hP3
      have Hzw := Lib.hid (show w3.heap.size < (w3.alloc (.cells #[.slice a3 (cont l q).length k3, .slice none 0 0] 25)).heap.size by simp)
      clear hB3 hB4 hB34 x0 x1 d0 d1
      go_wp2_with fail
      generalize w3.alloc (.cells #[.slice a3 (cont l q).length k3, .slice none 0 0] 25) = W4 at *
      refine (dRead_any _ _ l q 0 l.length _ HV4.out H16.out (by omega) HQ4.out Hq16.out (by omega) (by decide)).mono ?_
      rintro e w5 ⟨v5, rfl, hO5, hB5⟩
      rw [E1.out]
      rw [E2.out] at hO5
      have x0 := cell_new hB5 X0.out
      have x1 := cell_new hB5 X1.out
      have HP5 := Lib.hid (HP4.out.new hB5)
      have HBb5 := Lib.hid (HBb4.out.new hB5)
      have HB5 := Lib.hid (HB4.out.trans (hB5.mono HB4.out.size))
      have HQ5 := Lib.hid (hO5.pgs HC16.out)
      obtain ⟨a5, k5, rfl, _, _⟩ := hO5.pgs HC16.out
      clear hO5 hB5 y0 y1 HV4 HQ4 HBk4 HP4 HB4 HBb4
      go_wp2_with fail
      refine (SamePages_any _ _ (cont l q) (cont l q) _ HP5.out HQ5.out HC16.out HC16.out (by have := HCl.out; omega)).mono ?_
      rintro e w6 ⟨rfl, n6, rfl⟩
      rw [decide_eq_true rfl]
      go_wp2_with fail
      go_meet
      exact ⟨HBb5.out, below_drewN HB5.out n6⟩
    · have t2 : ((imErr l q : Int) == 0) = false := by rw [beq_eq_false_iff_ne]; omega
      clear hE HIm
      go_wp2_with fail
      go_meet
      exact ⟨HBb2.out, HB2.out⟩
  case rest =>
  obtain ⟨hBx, hB⟩ := hcut.out
  have HBx := Lib.hid hBx
  have HB := Lib.hid hB
  clear hcut hBx hB HBb2 HB2 HV2 HQ2 HBk2 HO2 HIm HIb d0 d1
  go_wp2_with fail
  refine (Restore_any _ b _ HBx.out HBy.out (by omega)).mono ?_
  rintro e w3 ⟨v3, rfl, hP3, hB3⟩
  obtain ⟨x0, x1, hB4⟩ := disk_cells w3 v3 (.slice none 0 0)
  have hB34 := hB3.trans (hB4.mono hB3.size)
  have HP4 := Lib.hid (hP3.new hB4)
  have HB4 := Lib.hid (HB.out.trans (hB34.mono HB.out.size))
  have HBb4 := Lib.hid (HBx.out.new hB34)
  obtain ⟨a3, k3, rfl, _, _⟩ := hP3
  clear hB3 hB4 hB34
  by_cases hE : reErr b = 0
  · obtain ⟨j1, j2, j3, j4⟩ := re_im HBy.out hE
    have J1 := Lib.hid j1
    have J2 := Lib.hid j2
    have J3 := Lib.hid j3
    have J4 := Lib.hid j4
    rw [hE]
    clear j1 j2 j3 j4 hE
    go_wp2_with fail
    generalize w3.alloc (.cells #[.slice a3 (rePg b).length k3, .slice none 0 0] 25) = W4 at *
    refine (Image_any _ _ (rePg b) [] _ HP4.out J3.out (by have := J4.out; omega) (pds_nil _) (by intro p hp; cases hp) (by decide)).mono ?_
    rintro e w5 ⟨v5, rfl, hO5, hB5⟩
    rw [J1.out]
    rw [J2.out] at hO5
    have HO5 := Lib.hid hO5.bs
    have HBb5 := Lib.hid (HBb4.out.new hB5)
    have HB5 := Lib.hid (HB4.out.trans (hB5.mono HB4.out.size))
    obtain ⟨a5, k5, rfl⟩ := hO5.form
    clear hO5 hB5
    go_wp2_with fail
    refine (bEqual_any _ _ b b _ HO5.out HBb5.out HBy.out HBy.out).mono ?_
    rintro e w6 ⟨rfl, rfl⟩
    rw [decide_eq_true rfl]
    go_wp2_with fail
    refine (awake59_any _).mono ?_
    rintro e w7 ⟨rfl, hB7⟩
    have HB7 := Lib.hid (HB5.out.trans (hB7.mono HB5.out.size))
    clear hB7
    go_wp2_with fail
    go_ret
    exact ⟨rfl, HB7.out⟩
  · have t2 : ((reErr b : Int) != 0) = true := by rw [bne_iff_ne]; omega
    have hle : reErr b ≤ 9 := by
      unfold reErr
      rcases rdErr_cases b with h | h | h <;> (repeat' split) <;> omega
    generalize reErr b = xe at *
    clear hE
    go_wp2_with fail
    generalize w3.alloc (.cells #[.slice a3 (rePg b).length k3, .slice none 0 0] 25) = W4 at *
    refine (awake59_any _).mono ?_
    rintro e w7 ⟨rfl, hB7⟩
    have HB7 := Lib.hid (HB4.out.trans (hB7.mono HB4.out.size))
    clear hB7
    go_wp2_with fail
    go_ret
    exact ⟨rfl, HB7.out⟩
end Go.Proofs.Ytkclmfppjhmnjaa

namespace Go.Proofs.Ytkclmfppjhmnjaa
open Go.RowKit Img

theorem inQ_snoc {n : Nat} {q : List (Int × List Nat)} {k : Nat} {p : Int × List Nat} (h : InQ n (q.take k)) (hp : q[k]? = some p) (h1 : 0 ≤ p.1) (h2 : p.1 < (n : Int)) : InQ n (q.take (k + 1)) := fun x hx => by
  rw [List.take_add_one, hp, Option.toList_some] at hx
  rcases List.mem_append.1 hx with hx | hx
  · exact h x hx
  · rw [List.mem_singleton.1 hx]; exact ⟨h1, h2⟩
theorem outB_no {n : Nat} {q : List (Int × List Nat)} (h : InQ n q) : outB n q = false := decide_eq_false (by rintro ⟨p, hp, hx⟩; have := h p hp; omega)
theorem outB_yes {n : Nat} {q : List (Int × List Nat)} {p : Int × List Nat} (hp : p ∈ q) (h : p.1 < 0 ∨ (n : Int) ≤ p.1) : outB n q = true := decide_eq_true ⟨p, hp, h⟩

set_option maxRecDepth 100000 in
set_option maxHeartbeats 4000000 in
theorem r48Check_any (a : Option Addr) (n cap : Nat) (vp : Value) (q : List (Int × List Nat)) (w : World) (hn : q.length ≤ 1000000000) (hq : Pds w vp q) (hnb : n ≤ 1000000000) :
    Calls Try.prog 43 #[.agg #[.slice a n cap, vp]] w fun e w' => e = .returned (.int .i64 (dkErr n q)) ∧ Below w.heap.size w w' := by
  have hB := al w (.cells #[.slice a n cap, vp] 25)
  have c0 : (w.alloc (.cells #[.slice a n cap, vp] 25)).cell? ⟨w.heap.size, 0, none⟩ = some (.slice a n cap) := (Blk.new w 25 #[.slice a n cap, vp]).cell rfl
  have c1 : (w.alloc (.cells #[.slice a n cap, vp] 25)).cell? ⟨w.heap.size, 1, none⟩ = some vp := (Blk.new w 25 #[.slice a n cap, vp]).cell rfl
  have HQ := Lib.hid (hq.new hB)
  have HB := Lib.hid hB
  obtain ⟨aq, cq, rfl, hcq, _⟩ := hq
  have hz0 : w.heap.size < (w.alloc (.cells #[.slice a n cap, .slice aq q.length cq] 25)).heap.size := by simp
  clear hB
  by_cases h1 : n < 1
  · have t1 : decide ((n : Int) < 1) = true := by simp; omega
    have E := Lib.hid (dkErr_bad (q := q) (Or.inl h1))
    go_enter Try.func43, Try.ntmps43
    go_wp2_with fail
    go_ret
    exact ⟨by rw [E.out]; rfl, HB.out⟩
  have t1 : decide ((n : Int) < 1) = false := by simp; omega
  by_cases h2 : 8192 < n
  · have t2 : decide ((8192 : Int) < (n : Int)) = true := by simp; omega
    have E := Lib.hid (dkErr_bad (q := q) (Or.inr h2))
    go_enter Try.func43, Try.ntmps43
    go_wp2_with fail
    go_ret
    exact ⟨by rw [E.out]; rfl, HB.out⟩
  have t2 : decide ((8192 : Int) < (n : Int)) = false := by simp; omega
  have E := Lib.hid (dkErr_out (q := q) (show 1 ≤ n by omega) (by omega))
  go_enter Try.func43, Try.ntmps43
  go_wp2_with fail
  generalize w.alloc (.cells #[.slice a n cap, .slice aq q.length cq] 25) = W0 at *
  go_loopg [3] q.length (fun gk i wr => ∃ k : Nat, k + gk = q.length ∧ i = .int .i64 k ∧ Hid (InQ n (q.take k)) ∧ Hid (Below W0.heap.size W0 wr))
  case atStart => exact ⟨0, by omega, rfl, (fun p hp => by rw [List.take_zero] at hp; cases hp), Below.refl _ _⟩
  case round =>
    obtain ⟨k, hgk, rfl, hI, hBr⟩ := hrel
    have Hgk := Lib.hid hgk
    have hkn : k ≤ q.length := by omega
    have d0 := cell_nw hBr.out c0 hz0
    have d1 := cell_nw hBr.out c1 hz0
    have HBe := Lib.hid (HB.out.trans (hBr.out.mono HB.out.size))
    clear hgk
    by_cases hlt : k < q.length
    · have hpk := List.getElem?_eq_getElem hlt
      obtain ⟨⟨z, r⟩, hpd⟩ : ∃ p, q[k] = p := ⟨_, rfl⟩
      rw [hpd] at hpk
      obtain ⟨bq, oq, haq, hPd⟩ : ∃ b o, aq = some ⟨b, o, none⟩ ∧ PdAt W0 b o q := by
        obtain ⟨a', c', e1, _, e3⟩ := HQ.out
        simp only [Value.slice.injEq] at e1
        rcases e3 with h | ⟨b, o, ha, h⟩
        · rw [h] at hlt; simp at hlt
        · exact ⟨b, o, by rw [e1.1, ha], h⟩
      subst haq
      have x0 : wr.cell? ⟨bq, oq + k * 17, none⟩ = some (.int .i64 z) := (range_new (hPd k _ hpk) hBr.out) 0 _ rfl
      have Hmem := Lib.hid (List.mem_of_getElem? hpk)
      have Hpk := Lib.hid hpk
      have i1 : (0 : Int) ≤ (k : Int) := by omega
      have i2 : (k : Int) < (q.length : Int) := by omega
      clear hpk hpd hPd
      by_cases hz : z < 0
      · have t3 : decide (z < 0) = true := decide_eq_true hz
        have Hou := Lib.hid (outB_yes (n := n) Hmem.out (Or.inl hz))
        clear hz
        go_wp2_with fail
        go_quiet (fail)
        go_wp2_with fail
        go_ret
        exact ⟨by rw [E.out, Hou.out]; rfl, below_drewN HBe.out _⟩
      · have t3 : decide (z < 0) = false := decide_eq_false hz
        by_cases hz2 : (n : Int) ≤ z
        · have t4 : decide ((n : Int) ≤ z) = true := decide_eq_true hz2
          have Hou := Lib.hid (outB_yes (n := n) Hmem.out (Or.inr hz2))
          clear hz hz2
          go_wp2_with fail
          go_quiet (fail)
          go_wp2_with fail
          go_ret
          exact ⟨by rw [E.out, Hou.out]; rfl, below_drewN HBe.out _⟩
        · have t4 : decide ((n : Int) ≤ z) = false := decide_eq_false hz2
          have HI := Lib.hid (inQ_snoc hI.out Hpk.out (show (0 : Int) ≤ z by omega) (show z < (n : Int) by omega))
          clear hz hz2
          go_wp2_with fail
          go_quiet (fail)
          go_wp2_with fail
          go_roundg (q.length - k - 1)
          case measure => have := Hgk.out; omega
          case rel => exact ⟨k + 1, by have := Hgk.out; omega, by go_num, HI.out, below_drewN hBr.out _⟩
    · have hI2 := hI.out
      rw [List.take_of_length_le (by omega)] at hI2
      have Hou := Lib.hid (outB_no hI2)
      go_wp2_with fail
      go_ret
      exact ⟨by rw [E.out, Hou.out]; rfl, HBe.out⟩
end Go.Proofs.Ytkclmfppjhmnjaa

namespace Go.Proofs.Ytkclmfppjhmnjaa
open Go.RowKit Img Wire

theorem re_start2 (w1 : World) (n : Nat) (rest : List Nat) (B : Obj) (xs : List Value) (hB : B = .cells xs.toArray 25) :
    Blk ((w1.alloc (.cells (z16 n) 82)).alloc B) w1.heap.size 82 (pgc (pagesTo rest n 0)) ∧
    Blk ((w1.alloc (.cells (z16 n) 82)).alloc B) (w1.heap.size + 1) 25 xs ∧
    Below w1.heap.size w1 ((w1.alloc (.cells (z16 n) 82)).alloc B) := by
  subst hB
  refine ⟨?_, ?_, ?_⟩
  · have h := (Blk.new w1 82 (z16 n)).alloc (.cells xs.toArray 25)
    rw [z16_pgc, ← pagesTo_zero rest n] at h
    exact h
  · have h := Blk.new (w1.alloc (.cells (z16 n) 82)) 25 xs.toArray
    rw [show (w1.alloc (.cells (z16 n) 82)).heap.size = w1.heap.size + 1 by simp] at h
    exact h
  · exact ((Below.refl _ _).alloc (Nat.le_refl _) _).alloc (by simp) _

set_option maxRecDepth 100000 in
set_option maxHeartbeats 4000000 in
theorem r59Restore_any (v : Value) (b : List Nat) (w : World) (h : Bs w v b) (hb : Byt b) (hl : b.length ≤ 1000000000) : Calls Try.prog 19 #[v] w (DiskErr (rePg b) (reErr b) w) := by
  have hB := (Below.refl w.heap.size w).alloc (Nat.le_refl _) (.cells #[.slice none 0 0, .slice none 0 0] 25)
  have Hb0 := Lib.hid (Blk.new w 25 #[.slice none 0 0, .slice none 0 0])
  have HB := Lib.hid hB
  have H := Lib.hid (h.new hB)
  have HBy := Lib.hid hb
  obtain ⟨a, cap, rfl, hcap, _⟩ := h
  have hz0 : w.heap.size < (w.alloc (.cells #[.slice none 0 0, .slice none 0 0] 25)).heap.size := by simp
  clear hB hb
  by_cases hL : 65536 < b.length
  · have t1 : decide ((65536 : Int) < (b.length : Int)) = true := by simp; omega
    have E := Lib.hid (reErr_long hL)
    have HD := Lib.hid (disk_set Hb0.out rfl HB.out (Nat.le_refl _) (.slice none 0 0) (.slice none 0 0))
    have Hth := Lib.hid (Hb0.out.there (o := 0) (n := 2) (Nat.le_refl _))
    clear hL
    go_enter Try.func19, Try.ntmps19
    go_wp2_with (refine wpList_store_mid rfl 25 _ _ rfl w.heap.size 0 #[.slice none 0 0, .slice none 0 0] rfl rfl Hth.out sizeDisk (two_one _ _ rfl rfl) ?_)
    (try simp only [Exit.inBlock, Exit.then])
    refine bodyPost_ret (results_disk rfl _ _ w.heap.size (.slice none 0 0) (.slice none 0 0) rfl HD.out.1 HD.out.2.1) rfl ?_
    exact ⟨_, by rw [E.out]; rfl, by rw [rePg_no E.out (by decide)]; exact Pgs.nil _, HD.out.2.2⟩
  have t1 : decide ((65536 : Int) < (b.length : Int)) = false := by simp; omega
  have hL' : b.length ≤ 65536 := by omega
  clear hL
  go_enter Try.func19, Try.ntmps19
  go_wp2_with fail
  generalize w.alloc (.cells #[.slice none 0 0, .slice none 0 0] 25) = W0 at *
  refine (r2Int_any _ b _ H.out HBy.out hl).mono ?_
  rintro e w1 ⟨vr, rfl, hO, hB1⟩
  have HO := Lib.hid hO
  have Hb1 := Lib.hid (Hb0.out.below hB1 hz0)
  have HB1 := Lib.hid (HB.out.trans (hB1.mono HB.out.size))
  have Hth := Lib.hid (Hb1.out.there (o := 0) (n := 2) (Nat.le_refl _))
  have HD := Lib.hid (disk_set Hb1.out rfl HB1.out (Nat.le_refl _) (.slice none 0 0) (.slice none 0 0))
  obtain ⟨ar, cr, rfl⟩ := hO.form
  have hz1 := hB1.size
  clear hO hB1
  by_cases hE : rdErr b = 0
  · rw [hE]
    by_cases hN : rdNum b < 1 ∨ 8192 < rdNum b
    · have E := Lib.hid (reErr_num hL' hE hN)
      generalize rdNum b = n at *
      rcases (show n < 1 ∨ (1 ≤ n ∧ 8192 < n) by omega) with h1 | ⟨h0, h1⟩
      · have t2 : decide ((n : Int) < 1) = true := by simp; omega
        clear h1 hN
        go_wp2_with (refine wpList_store_mid rfl 25 _ _ rfl w.heap.size 0 #[.slice none 0 0, .slice none 0 0] rfl rfl Hth.out sizeDisk (two_one _ _ rfl rfl) ?_)
        (try simp only [Exit.inBlock, Exit.then])
        refine bodyPost_ret (results_disk rfl _ _ w.heap.size (.slice none 0 0) (.slice none 0 0) rfl HD.out.1 HD.out.2.1) rfl ?_
        exact ⟨_, by rw [E.out]; rfl, by rw [rePg_no E.out (by decide)]; exact Pgs.nil _, HD.out.2.2⟩
      · have t2 : decide ((n : Int) < 1) = false := by simp; omega
        have t3 : decide ((8192 : Int) < (n : Int)) = true := by simp; omega
        clear h1 h0 hN
        go_wp2_with (refine wpList_store_mid rfl 25 _ _ rfl w.heap.size 0 #[.slice none 0 0, .slice none 0 0] rfl rfl Hth.out sizeDisk (two_one _ _ rfl rfl) ?_)
        (try simp only [Exit.inBlock, Exit.then])
        refine bodyPost_ret (results_disk rfl _ _ w.heap.size (.slice none 0 0) (.slice none 0 0) rfl HD.out.1 HD.out.2.1) rfl ?_
        exact ⟨_, by rw [E.out]; rfl, by rw [rePg_no E.out (by decide)]; exact Pgs.nil _, HD.out.2.2⟩
    have HF := Lib.hid (fun h3 => reErr_form hL' hE hN h3)
    have HLs := Lib.hid (fun h3 => reErr_last hL' hE hN h3)
    have hrl := rdRest_length b
    have HPg := Lib.hid (show rePg b = if reErr b = 0 then pagesOf (rdRest b) (rdNum b) else [] from rfl)
    generalize rdNum b = n at *
    generalize rdRest b = rest at *
    generalize reErr b = xe at *
    generalize rePg b = xp at *
    have t2 : decide ((n : Int) < 1) = false := by simp; omega
    have t3 : decide ((8192 : Int) < (n : Int)) = false := by simp; omega
    have hn1 : 1 ≤ n := by omega
    have hn2 : n ≤ 8192 := by omega
    clear hN hE
    obtain ⟨m, hm⟩ : ∃ m, rest.length = m := ⟨_, rfl⟩
    obtain ⟨rm, hrm⟩ : ∃ rm : Nat, (m : Int) % 16 = (rm : Int) := ⟨m % 16, by omega⟩
    obtain ⟨qm, hqm⟩ : ∃ qm : Nat, (m : Int) / 16 = (qm : Int) := ⟨m / 16, by omega⟩
    rw [hm] at HF HLs hrl HO ⊢
    have Hm := Lib.hid hm
    have hqb : qm ≤ 65536 := by omega
    by_cases hr : rm ≠ 0
    · have t4 : ((rm : Int) != 0) = true := by simp; omega
      have E := Lib.hid (HF.out (Or.inl (by omega)))
      clear hr
      go_wp2_with (refine wpList_store_mid rfl 25 _ _ rfl w.heap.size 0 #[.slice none 0 0, .slice none 0 0] rfl rfl Hth.out sizeDisk (two_one _ _ rfl rfl) ?_)
      (try simp only [Exit.inBlock, Exit.then])
      refine bodyPost_ret (results_disk rfl _ _ w.heap.size (.slice none 0 0) (.slice none 0 0) rfl HD.out.1 HD.out.2.1) rfl ?_
      exact ⟨_, by rw [E.out]; rfl, by rw [HPg.out, if_neg (by rw [E.out]; decide)]; exact Pgs.nil _, HD.out.2.2⟩
    have t4 : ((rm : Int) != 0) = false := by simp; omega
    by_cases hqn : n < qm
    · have t5 : decide ((n : Int) < (qm : Int)) = true := by simp; omega
      have E := Lib.hid (HF.out (Or.inr (by omega)))
      clear hr
      go_wp2_with (refine wpList_store_mid rfl 25 _ _ rfl w.heap.size 0 #[.slice none 0 0, .slice none 0 0] rfl rfl Hth.out sizeDisk (two_one _ _ rfl rfl) ?_)
      (try simp only [Exit.inBlock, Exit.then])
      refine bodyPost_ret (results_disk rfl _ _ w.heap.size (.slice none 0 0) (.slice none 0 0) rfl HD.out.1 HD.out.2.1) rfl ?_
      exact ⟨_, by rw [E.out]; rfl, by rw [HPg.out, if_neg (by rw [E.out]; decide)]; exact Pgs.nil _, HD.out.2.2⟩
    have t5 : decide ((n : Int) < (qm : Int)) = false := by simp; omega
    have HX := Lib.hid (HLs.out (by omega))
    have hqn' : qm ≤ n := by omega
    have hm16 := Lib.hid (show m = qm * 16 by omega)
    have hmk := mkPages n (by omega)
    have hdq := Lib.hid (show rest.length / 16 = qm by omega)
    clear hr HF HLs HD Hth hm
    obtain ⟨hS, hO, hB3⟩ := re_start2 w1 n rest (.cells #[.slice (some ⟨w1.heap.size, 0, none⟩) n n, .slice none 0 0] 25) _ rfl
    have HS := Lib.hid hS
    have HO3 := Lib.hid hO
    have HB3 := Lib.hid hB3
    clear hS hO hB3
    go_upto_region 12 with (fail)
    generalize (w1.alloc (.cells (z16 n) 82)).alloc (.cells #[.slice (some ⟨w1.heap.size, 0, none⟩) n n, .slice none 0 0] 25) = W3 at *
    have hR1 := Hb1.out.lt
    go_wp2_with fail
    clear hrm hqm t4 t5
    go_loopg [8] qm (fun gk i wr => ∃ j : Nat, j + gk = qm ∧ i = .int .i64 j ∧ Hid (Blk wr w1.heap.size 82 (pgc (pagesTo rest n j))) ∧ Hid (Kept (fun k => k = w1.heap.size) W3 wr))
    case atStart => exact ⟨0, by omega, rfl, HS.out, Kept.refl _ _⟩
    case round =>
      obtain ⟨j, hgk, rfl, hSj, hKj⟩ := hrel
      have Hgk := Lib.hid hgk
      have hjq : j ≤ qm := by omega
      clear hgk
      have HOj := Lib.hid (HO3.out.kept hKj.out (by omega))
      have c0 := HOj.out.cell (i := 0) rfl
      by_cases hlt : j < qm
      · obtain ⟨gR, har, hgR, hrow, hcr⟩ : ∃ gR, ar = some ⟨gR, 0, none⟩ ∧ gR < w1.heap.size ∧ RowAt w1 gR 0 rest ∧ m ≤ cr := by
          have hbs := HO.out
          rcases hbs.2 with ⟨h, h0⟩ | ⟨g, cap', cur, hv, hb', hg, hn', _⟩
          · have := Hm.out; have := hm16.out; omega
          · simp only [Value.slice.injEq] at hv
            obtain ⟨h1, h2, h3⟩ := hv
            subst h1 h3
            have hh : Blk w1 g 5 (rest.map bv) := Blk.of_owns (by have h := hbs; unfold BO at h; rw [Hm.out] at h; exact h)
            exact ⟨g, rfl, hh.lt, hh.row, by have := Hm.out; omega⟩
        subst har
        have Hsrc := Lib.hid (show RowAt wr gR (j * 16) (chunk rest j) by
          have h := (((hrow.new HB3.out).kept hKj.out (by omega)).drop (j * 16)).take 16
          rw [Nat.zero_add] at h
          exact h)
        have hc16 := chunk_16 (r := rest) (k := j) (by have := Hm.out; have := hm16.out; omega)
        have hjm : j * 16 + 16 ≤ m := by have := hm16.out; omega
        clear hrow
        have hjn : j < n := by omega
        have hp16 := pagesTo_16 (r := rest) (n := n) (k := j) (by have := Hm.out; have := hm16.out; omega)
        have hpl : j * 16 + 16 ≤ (pgc (pagesTo rest n j)).length := by rw [pgc_length hp16, pagesTo_length]; omega
        obtain ⟨J, hJ⟩ : ∃ J, j * 16 = J := ⟨_, rfl⟩
        have e1 : IntKind.i64.wrap (16 * (j : Int)) = (J : Int) := by rw [IntWalk.i64_in _ (by omega)]; omega
        have e2 : IntKind.i64.wrap ((j : Int) * 16) = (J : Int) := by rw [IntWalk.i64_in _ (by omega)]; omega
        rw [hJ] at Hsrc hjm
        have Hn := Lib.hid (show ((chunk rest j).map bv).length = Nat.min (m - J) 16 by rw [List.length_map, hc16]; exact (Nat.min_eq_right (by omega)).symm)
        have Hsrc2 := Lib.hid (show ∀ i v, ((chunk rest j).map bv)[i]? = some v → wr.cell? ((⟨gR, J, none⟩ : Addr).add i) = some v from Hsrc.out.src (Below.refl _ _))
        have Hth := Lib.hid (show wr.there w1.heap.size (j * 16) ((chunk rest j).map bv).length from hSj.out.there (by rw [List.length_map, hc16]; exact hpl))
        have Hone := Lib.hid (bv_one (chunk rest j))
        have hle : (J : Int) ≤ (m : Int) := by omega
        have hne2 : ¬ (cr = J) := by omega
        have i1 : (0 : Int) ≤ (j : Int) := by omega
        have i2 : (j : Int) < (n : Int) := by omega
        have HJ := Lib.hid hJ
        have Hpl := Lib.hid hpl
        have Hp16 := Lib.hid hp16
        have HS4 := Lib.hid (show Blk (wr.drew.setCells w1.heap.size (j * 16) ((chunk rest j).map bv)) w1.heap.size 82 (pgc (pagesTo rest n (j + 1))) by
          rw [pagesTo_succ, pgc_set Hp16.out (by rw [pagesTo_length]; exact hjn) hc16]
          exact hSj.out.drew.setCells (by rw [List.length_map, hc16]; exact hpl))
        have HK4 := Lib.hid (show Kept (fun k => k = w1.heap.size) W3 (wr.drew.setCells w1.heap.size (j * 16) ((chunk rest j).map bv)) from kept_setCells hKj.out.drew (fun _ => rfl) _ _)
        clear hJ hpl hp16
        go_upto_region 15 with (fail)
        go_region_law (refine step_copy_cells rfl (.tmp 55) (.tmp 59) 26 26 rfl 5 Try.underlying26 sizeByte w1.heap.size (j * 16) 16 16 ⟨gR, J, none⟩ (m - J) (cr - J) rfl rfl ((chunk rest j).map bv) Hn.out (by exact Hsrc2.out) (by exact Hth.out) Hone.out ?_)
        generalize wr.drew.setCells w1.heap.size (j * 16) ((chunk rest j).map bv) = W4 at *
        clear Hn Hsrc2 Hth Hone Hsrc c0
        go_wp2_with fail
        go_roundg (qm - j - 1)
        case measure => have := Hgk.out; omega
        case rel => exact ⟨j + 1, by have := Hgk.out; omega, by go_num, HS4.out, HK4.out⟩
      · obtain rfl : j = qm := by omega
        have hbR := (Hb1.out.below HB3.out hR1).kept hKj.out (by omega)
        have HbR := Lib.hid hbR
        have Hth := Lib.hid (hbR.there (o := 0) (n := 2) (Nat.le_refl _))
        have HBr := Lib.hid (show Below w.heap.size w wr from (HB1.out.trans (HB3.out.mono HB1.out.size)).trans (hKj.out.below (by have := HB1.out.size; have := HB3.out.size; omega) (fun k hk => by have := HB1.out.size; omega)))
        have c1 := HOj.out.cell (i := 1) rfl
        have HPg' := Lib.hid (show pagesOf rest n = pagesTo rest n j by unfold pagesOf pagesTo; rw [hdq.out])
        have Hp16 := Lib.hid (pagesTo_16 (r := rest) (n := n) (k := j) (by have := Hm.out; have := hm16.out; omega))
        have RO := Lib.hid HOj.out.range
        clear hbR
        have hl0 := Lib.hid (show lastZ rest ↔ (j ≠ 0 ∧ chunk rest (j - 1) = zp) by unfold lastZ; rw [hdq.out])
        by_cases hj0 : j = 0
        · have E := Lib.hid (show xe = 0 by rw [HX.out, if_neg (fun h => (hl0.out.1 h).1 hj0)])
          have t6 : decide ((0 : Int) < (j : Int)) = false := by simp; omega
          have HD := Lib.hid (disk_set HbR.out rfl HBr.out (Nat.le_refl _) (.slice (some ⟨w1.heap.size, 0, none⟩) n n) (.slice none 0 0))
          have HSf := Lib.hid (show Blk (wr.setCells w.heap.size 0 [.slice (some ⟨w1.heap.size, 0, none⟩) n n, .slice none 0 0]) w1.heap.size 82 (pgc (pagesTo rest n j)) from hSj.out.setCells_other (by omega))
          go_wp2_with (first
            | ((with_reducible show wpList _ _ _ (Oper.mk _ (Op.load 25 (.tmp 7)) _ _ _ _ :: _) _ _); refine wpList_load_mid rfl 25 (.tmp 7) rfl (w1.heap.size + 1) 0 rfl [.slice (some ⟨w1.heap.size, 0, none⟩) n n, .slice none 0 0] _ RO.out Try.underlying25 rfl sizeDisk ?_)
            | ((with_reducible show wpList _ _ _ (Oper.mk _ (Op.store _ _ _) _ _ _ _ :: _) _ _); refine wpList_store_mid rfl 25 _ _ rfl w.heap.size 0 #[.slice (some ⟨w1.heap.size, 0, none⟩) n n, .slice none 0 0] rfl rfl Hth.out sizeDisk (two_one _ _ rfl rfl) ?_))
          (try simp only [Exit.inBlock, Exit.then])
          refine bodyPost_ret (results_disk rfl _ _ w.heap.size (.slice (some ⟨w1.heap.size, 0, none⟩) n n) (.slice none 0 0) rfl HD.out.1 HD.out.2.1) rfl ?_
          refine ⟨_, by rw [E.out]; rfl, ?_, HD.out.2.2⟩
          rw [HPg.out, if_pos E.out, HPg'.out]
          exact ⟨_, n, by rw [pagesTo_length], by rw [pagesTo_length]; exact Nat.le_refl _, Or.inr ⟨w1.heap.size, 0, rfl, (show Blk _ _ _ ((pagesTo rest n j).flatten.map bv) from HSf.out).row.page Hp16.out⟩⟩
        · obtain ⟨p, hp⟩ : ∃ p, j = p + 1 := ⟨j - 1, by omega⟩
          have t6 : decide ((0 : Int) < (j : Int)) = true := by simp; omega
          have e3 : IntKind.i64.wrap ((j : Int) - 1) = (p : Int) := by rw [IntWalk.i64_in _ (by omega)]; omega
          have e4 : (j : Int) - 1 = (p : Int) := by omega
          have i1 : (0 : Int) ≤ (p : Int) := by omega
          have i2 : (p : Int) < (n : Int) := by omega
          have hl16 := chunk_16 (r := rest) (k := p) (by have := Hm.out; have := hm16.out; omega)
          have Hps := Lib.hid (page_size hl16)
          have hget : (pagesTo rest n j)[p]? = some (chunk rest p) := by
            unfold pagesTo
            rw [List.getElem?_map, List.getElem?_range (by omega), Option.map_some, if_pos (by omega)]
          have Hrg := Lib.hid (show wr.rangeAt w1.heap.size (p * 16) ((chunk rest p).map bv) by
            have h := (show Blk wr w1.heap.size 82 ((pagesTo rest n j).flatten.map bv) from hSj.out).row.page Hp16.out p _ hget
            rw [Nat.zero_add] at h
            exact h.range)
          have Hl1 := Lib.hid (show lastZ rest ↔ chunk rest p = zp by
            have := hl0.out
            rw [show j - 1 = p by omega] at this
            exact this.trans ⟨fun h => h.2, fun h => ⟨hj0, h⟩⟩)
          by_cases hzz : chunk rest p = zp
          · have Hd := Lib.hid (decide_eq_true hzz)
            have E := Lib.hid (show xe = 3 by rw [HX.out, if_pos (Hl1.out.2 hzz)])
            have HD := Lib.hid (disk_set HbR.out rfl HBr.out (Nat.le_refl _) (.slice none 0 0) (.slice none 0 0))
            clear hzz hget hp hj0
            go_wp2_with (first
              | (refine wpList_load_want (by rfl) 82 _ rfl w1.heap.size (p * 16) rfl ((chunk rest p).map bv) _ Hrg.out Try.underlying82 rfl Hps.out ?_)
              | (refine wpList_eq_page (by rfl) _ _ _ rfl (chunk rest p) zp rfl rfl hl16 zp_length true Hd.out ?_)
              | ((with_reducible show wpList _ _ _ (Oper.mk _ (Op.store _ _ _) _ _ _ _ :: _) _ _); refine wpList_store_mid rfl 25 _ _ rfl w.heap.size 0 #[.slice none 0 0, .slice none 0 0] rfl rfl Hth.out sizeDisk (two_one _ _ rfl rfl) ?_))
            (try simp only [Exit.inBlock, Exit.then])
            refine bodyPost_ret (results_disk rfl _ _ w.heap.size (.slice none 0 0) (.slice none 0 0) rfl HD.out.1 HD.out.2.1) rfl ?_
            exact ⟨_, by rw [E.out]; rfl, by rw [HPg.out, if_neg (by rw [E.out]; decide)]; exact Pgs.nil _, HD.out.2.2⟩
          · have Hd := Lib.hid (decide_eq_false hzz)
            have E := Lib.hid (show xe = 0 by rw [HX.out, if_neg (fun h => hzz (Hl1.out.1 h))])
            have HD := Lib.hid (disk_set HbR.out rfl HBr.out (Nat.le_refl _) (.slice (some ⟨w1.heap.size, 0, none⟩) n n) (.slice none 0 0))
            have HSf := Lib.hid (show Blk (wr.setCells w.heap.size 0 [.slice (some ⟨w1.heap.size, 0, none⟩) n n, .slice none 0 0]) w1.heap.size 82 (pgc (pagesTo rest n j)) from hSj.out.setCells_other (by omega))
            clear hzz hget hp hj0
            go_wp2_with (first
              | (refine wpList_load_want (by rfl) 82 _ rfl w1.heap.size (p * 16) rfl ((chunk rest p).map bv) _ Hrg.out Try.underlying82 rfl Hps.out ?_)
              | (refine wpList_eq_page (by rfl) _ _ _ rfl (chunk rest p) zp rfl rfl hl16 zp_length false Hd.out ?_)
              | ((with_reducible show wpList _ _ _ (Oper.mk _ (Op.load 25 (.tmp 7)) _ _ _ _ :: _) _ _); refine wpList_load_mid rfl 25 (.tmp 7) rfl (w1.heap.size + 1) 0 rfl [.slice (some ⟨w1.heap.size, 0, none⟩) n n, .slice none 0 0] _ RO.out Try.underlying25 rfl sizeDisk ?_)
              | ((with_reducible show wpList _ _ _ (Oper.mk _ (Op.store _ _ _) _ _ _ _ :: _) _ _); refine wpList_store_mid rfl 25 _ _ rfl w.heap.size 0 #[.slice (some ⟨w1.heap.size, 0, none⟩) n n, .slice none 0 0] rfl rfl Hth.out sizeDisk (two_one _ _ rfl rfl) ?_))
            (try simp only [Exit.inBlock, Exit.then])
            refine bodyPost_ret (results_disk rfl _ _ w.heap.size (.slice (some ⟨w1.heap.size, 0, none⟩) n n) (.slice none 0 0) rfl HD.out.1 HD.out.2.1) rfl ?_
            refine ⟨_, by rw [E.out]; rfl, ?_, HD.out.2.2⟩
            rw [HPg.out, if_pos E.out, HPg'.out]
            exact ⟨_, n, by rw [pagesTo_length], by rw [pagesTo_length]; exact Nat.le_refl _, Or.inr ⟨w1.heap.size, 0, rfl, (show Blk _ _ _ ((pagesTo rest n j).flatten.map bv) from HSf.out).row.page Hp16.out⟩⟩
  · have hne : ((rdErr b : Int) != 0) = true := by simp; omega
    have E := Lib.hid (reErr_rd hL' hE)
    have E0 := Lib.hid hE
    have hbd : rdErr b ≤ 9 := by rcases rdErr_cases b with h | h | h <;> omega
    generalize rdErr b = x at *
    generalize rdNum b = n at *
    clear hE
    go_wp2_with (refine wpList_store_mid rfl 25 _ _ rfl w.heap.size 0 #[.slice none 0 0, .slice none 0 0] rfl rfl Hth.out sizeDisk (two_one _ _ rfl rfl) ?_)
    (try simp only [Exit.inBlock, Exit.then])
    refine bodyPost_ret (results_disk rfl _ _ w.heap.size (.slice none 0 0) (.slice none 0 0) rfl HD.out.1 HD.out.2.1) rfl ?_
    exact ⟨_, by rw [E.out]; rfl, by rw [rePg_no E.out E0.out]; exact Pgs.nil _, HD.out.2.2⟩
end Go.Proofs.Ytkclmfppjhmnjaa

namespace Go.Proofs.Ytkclmfppjhmnjaa
open Go.RowKit Img

set_option maxRecDepth 100000 in
set_option maxHeartbeats 4000000 in
theorem r48fits_any (a : Option Addr) (n cap : Nat) (vp : Value) (w : World) :
    Calls Try.prog 74 #[.agg #[.slice a n cap, vp], .int .i64 0, .int .i64 n] w fun e w' => e = .returned (.bool true) ∧ Below w.heap.size w w' := by
  have hB := (Below.refl w.heap.size w).alloc (Nat.le_refl _) (.cells #[.slice a n cap, vp] 25)
  have c0 : (w.alloc (.cells #[.slice a n cap, vp] 25)).cell? ⟨w.heap.size, 0, none⟩ = some (.slice a n cap) := (Blk.new w 25 #[.slice a n cap, vp]).cell rfl
  have HB := Lib.hid hB
  clear hB
  have e1 : IntKind.i64.wrap ((n : Int) - (n : Int)) = 0 := by rw [IntWalk.i64_in _ (by omega)]; omega
  go_enter Try.func74, Try.ntmps74
  go_wp2_with fail
  go_ret
  exact ⟨rfl, HB.out⟩

/-- Something, or nothing, is appended to an empty slice of the call's own: the result's block. -/
theorem run_append_new {P : Program} (w W0 : World) (hk : Below W0.heap.size W0 w) (t ty e : TypeId) (i : TypeInfo) (z : Value) (size bytes : Nat) (ht : P.underlying t = some (.slice e)) (hi : P.info? e = some i) (hz : i.zero = some z) (hsize : i.size = size) (hby : i.bytes = bytes)
    (b : Nat) (a : Option Addr) (m c : Nat) (news : List Value) (hl : news.length = m * size) (hnews : m = 0 ∨ ∃ ad, a = some ad ∧ ∀ w', Below W0.heap.size W0 w' → ∀ j u, news[j]? = some u → w'.cell? (ad.add j) = some u) (h1 : ∀ u ∈ news, u.oneCell' = true)
    (h63 : m ≤ 1000000000) (hbytes : Builtin.nextslicecap m 0 * bytes ≤ 281474976710656) :
    ∃ g cap w', (Builtin.append_ #[t, t] ty #[.slice (some ⟨b, 0, none⟩) 0 0, .slice a m c]).run P w = .ok (.slice (some ⟨g, 0, none⟩) m cap) w' ∧ m ≤ cap ∧ (0 < m → W0.heap.size ≤ g ∧ Blk w' g e news) ∧ Below w.heap.size w w' := by
  by_cases h0 : m = 0
  · subst h0
    rw [Nat.zero_mul] at hl
    obtain rfl := List.eq_nil_of_length_eq_zero hl
    refine ⟨b, 0, w, ?_, Nat.le_refl _, fun h => absurd h (by decide), Below.refl _ _⟩
    cases a with
    | none => exact run_append_nothing w t t ty e i ht hi _ 0 0 (Nat.le_refl _) _ (Src.ofNil w ht c)
    | some ad => exact run_append_nothing w t t ty e i ht hi _ 0 0 (Nat.le_refl _) _ (Src.ofSlice w ht ad 0 c [] (by simp) (by intro j u hu; cases hu) (by intro u hu; cases hu))
  · obtain ⟨ad, rfl, hn⟩ := hnews.resolve_left h0
    have hr := run_append_grow_src (P := P) w t t ty e i z ht hi hz (some ⟨b, 0, none⟩) 0 0 [] (run_firstCells_some w.drew i.size 0 ⟨b, 0, none⟩ 0 0 [] (by simp) (by intro j u hu; cases hu)) (.slice (some ad) m c) m news (Src.ofSlice w ht ad m c news (by rw [hsize]; exact hl) (hn w hk) h1) (by omega) (by omega) (by rw [Nat.zero_add, hby]; exact hbytes)
    rw [Nat.zero_add] at hr
    refine ⟨_, _, _, hr, ?_, fun _ => ⟨hk.size, ?_⟩, ?_⟩
    · exact grownCap_ge w m 0 e
    · have h := Blk.new w.drew e ((([] : List Value) ++ news).toArray ++ Builtin.zeroCells z.cells (grownCap w m 0 e - m))
      obtain ⟨r, hr'⟩ := h
      refine ⟨(Builtin.zeroCells z.cells (grownCap w m 0 e - m)).toList ++ r, ?_⟩
      have hx : w.drew.heap.size = w.heap.size := rfl
      rw [hx] at hr'
      rw [hr']
      simp [List.append_assoc]
    · exact (Below.refl w.heap.size w).drew.alloc (by simp) _

/-- As a step of a region that draws its order. -/
theorem step_append_new {P : Program} {ops : Array Oper} {o : Oper} {a : Act} {w : World} {K : Act → World → Prop} {Q : Exit → Act → World → Prop} {E : Prop} (hgd : o.guard = none) (s x : Operand) (t : TypeId)
    (ho : o.op = .call { callee := .builtin .append, args := #[s, x], argTypes := #[t, t] })
    (W0 : World) (hk : Below W0.heap.size W0 w) (e : TypeId) (i : TypeInfo) (z : Value) (size bytes : Nat) (ht : P.underlying t = some (.slice e)) (hi : P.info? e = some i) (hz : i.zero = some z) (hsize : i.size = size) (hby : i.bytes = bytes)
    (b : Nat) (hs : a.eval s = .slice (some ⟨b, 0, none⟩) 0 0) (ax : Option Addr) (m c : Nat) (hx : a.eval x = .slice ax m c) (news : List Value) (hl : news.length = m * size) (hnews : m = 0 ∨ ∃ ad, ax = some ad ∧ ∀ w', Below W0.heap.size W0 w' → ∀ j u, news[j]? = some u → w'.cell? (ad.add j) = some u) (h1 : ∀ u ∈ news, u.oneCell' = true)
    (h63 : m ≤ 1000000000) (hbytes : m * bytes ≤ 140737488355328)
    (h : ∀ g cap w', m ≤ cap → (0 < m → W0.heap.size ≤ g ∧ Blk w' g e news) → Below w.heap.size w w' → K (a.put o.dst (.slice (some ⟨g, 0, none⟩) m cap)) w') :
    if Region.wanted o (yielded ops a.tmps) = true then Oper.wp P o a w K Q else E := by
  have hw : Region.wanted o (yielded ops a.tmps) = true := by simp [Region.wanted, hgd]
  rw [if_pos hw]
  obtain ⟨g, cap, w', hr, r1, r2, r3⟩ := run_append_new w W0 hk t o.type e i z size bytes ht hi hz hsize hby b ax m c news hl hnews h1 h63 (by
    rcases Nat.eq_zero_or_pos m with h0 | h0
    · subst h0; simp only [Builtin.nextslicecap]; simp
    · exact growslice_fits h0 hbytes)
  unfold Oper.wp execOp
  simp only [ho, resolve, invoke, builtin, Sem.run_bind, Sem.run_pure, Result.andThen_ok, List.map_toArray, List.map_cons, List.map_nil, hs, hx, hr]
  exact h g cap w' r1 r2 r3

theorem noPds (w : World) : (Instr.buildSlice 23 0 #[]).run Try.prog w = .ok (.slice (some ⟨w.heap.size, 0, none⟩) 0 0) (w.alloc (.cells #[] 96)) := by kernel_rfl
theorem infoPd : (Try.prog.info? 96).map (fun i => (i.zero, i.size, i.bytes)) = some (some (.agg (#[.int .i64 0] ++ Array.replicate 16 (.int .u8 0))), 17, 24) := by kernel_rfl

theorem pdc_length {q : List (Int × List Nat)} (h : Q16 q) : (q.flatMap pdv).length = q.length * 17 := by
  induction q with
  | nil => rfl
  | cons p q ih => rw [List.flatMap_cons, List.length_append, pdv_len (h p (List.mem_cons_self ..)), ih (fun x hx => h x (List.mem_cons_of_mem _ hx)), List.length_cons]; omega
theorem pdc_src {w w' : World} {b o : Nat} {q : List (Int × List Nat)} (h16 : Q16 q) (h : PdAt w b o q) (k : Below w.heap.size w w') : ∀ j u, (q.flatMap pdv)[j]? = some u → w'.cell? ((⟨b, o, none⟩ : Addr).add j) = some u := by
  induction q generalizing o with
  | nil => intro j u hu; cases hu
  | cons p q ih =>
    intro j u hu
    have hp := pdv_len (h16 p (List.mem_cons_self ..))
    rw [List.flatMap_cons] at hu
    by_cases hj : j < (pdv p).length
    · rw [List.getElem?_append_left hj] at hu
      have := range_new (h 0 p rfl) k j u hu
      rw [Nat.zero_mul, Nat.add_zero] at this
      rw [Addr.add_lit]
      exact this
    · rw [List.getElem?_append_right (by omega)] at hu
      have h2 : PdAt w b (o + 17) q := fun i x hx => by
        have := h (i + 1) x (by simpa using hx)
        rw [show o + (i + 1) * 17 = o + 17 + i * 17 by omega] at this
        exact this
      have := ih (fun x hx => h16 x (List.mem_cons_of_mem _ hx)) h2 (j - (pdv p).length) u hu
      rw [hp] at this
      have e : (⟨b, o + 17, none⟩ : Addr).add (j - 17) = (⟨b, o, none⟩ : Addr).add j := by
        rw [Addr.add_lit, Addr.add_lit, show o + 17 + (j - 17) = o + j by omega]
      rw [e] at this
      exact this

/-- What the reference's Copy leaves. -/
def CpRet (l : List (List Nat)) (w : World) (e : Ending) (w' : World) : Prop := ∃ g cap gq nq cq, e = .returned (.agg #[.slice (some ⟨g, 0, none⟩) l.length cap, .slice (some ⟨gq, 0, none⟩) nq cq]) ∧ w.heap.size ≤ g ∧ l.length ≤ cap ∧ Blk w' g 82 (pgc l) ∧ Below w.heap.size w w'

/-- What stands in a cell, whatever it is. -/
def atC (w : World) (b o : Nat) : Value := (w.cell? ⟨b, o, none⟩).getD undef
theorem atC_of {w : World} {b o : Nat} {v : Value} (h : w.cell? ⟨b, o, none⟩ = some v) : w.cell? ⟨b, o, none⟩ = some (atC w b o) := by unfold atC; rw [h]; rfl
theorem bl_dr {W0 W : World} (h : Below W0.heap.size W0 W) : Below W0.heap.size W0 W.drew := h.drew
theorem bl_al {W0 W : World} (h : Below W0.heap.size W0 W) (o : Obj) : Below W0.heap.size W0 (W.alloc o) := h.alloc h.size o
theorem bl_th {W0 W W' : World} (h : Below W0.heap.size W0 W) (k : Below W.heap.size W W') : Below W0.heap.size W0 W' := h.trans (k.mono h.size)

theorem cp_end {w W0 wa X : World} {R g : Nat} {l : List (List Nat)} {a b : Value} (hB : Below R w W0) (h1 : R + 1 < W0.heap.size) (hb : Blk wa g 82 (pgc l)) (hg : W0.heap.size ≤ g) (ho : Blk W0 (R + 1) 25 [a, b]) (k1 : Below wa.heap.size wa X) (k2 : Below W0.heap.size W0 X) (x y : Value) :
    Blk ((X.setCell ⟨R + 1, 0, none⟩ x).setCell ⟨R + 1, 1, none⟩ y) (R + 1) 25 [x, y] ∧ Blk ((X.setCell ⟨R + 1, 0, none⟩ x).setCell ⟨R + 1, 1, none⟩ y) g 82 (pgc l) ∧ Below R w ((X.setCell ⟨R + 1, 0, none⟩ x).setCell ⟨R + 1, 1, none⟩ y) := by
  refine ⟨((ho.below k2 h1).setCell (i := 0) (by simp) x).setCell (i := 1) (by simp) y, ((hb.below k1 hb.lt).setCell_other (p := ⟨R + 1, 0, none⟩) (by simp only; omega) x).setCell_other (p := ⟨R + 1, 1, none⟩) (by simp only; omega) y, ?_⟩
  exact ((hB.trans (k2.mono (by omega))).setCell (p := ⟨R + 1, 0, none⟩) (by simp) x).setCell (p := ⟨R + 1, 1, none⟩) (by simp) y

set_option maxRecDepth 100000 in
set_option maxHeartbeats 4000000 in
theorem r48Copy_any (vs vp : Value) (l : List (List Nat)) (q : List (Int × List Nat)) (w : World) (hv : Pgs w vs 16 l) (h16 : P16 l) (h1 : 1 ≤ l.length) (hl : l.length ≤ 8192) (hq : Pds w vp q) (hq16 : Q16 q) (hqn : q.length ≤ 1000000000) :
    Calls Try.prog 102 #[.agg #[vs, vp]] w (CpRet l w) := by
  have q1 := noPages
  have q2 := noPds
  obtain ⟨i0, hi, hz0, hz1, hz2⟩ := info_parts infoPage
  obtain ⟨j0, hj, hj0, hj1, hj2⟩ := info_parts infoPd
  have hB := ((Below.refl w.heap.size w).alloc (Nat.le_refl _) (.cells #[vs, vp] 25)).alloc (by simp) (.cells #[.slice none 0 0, .slice none 0 0] 25)
  have HB := Lib.hid hB
  have HV := Lib.hid (hv.new hB)
  have HQ := Lib.hid (hq.new hB)
  have Hb0 := Lib.hid ((Blk.new w 25 #[vs, vp]).alloc (.cells #[.slice none 0 0, .slice none 0 0] 25))
  have Hb1 := Lib.hid (show Blk ((w.alloc (.cells #[vs, vp] 25)).alloc (.cells #[.slice none 0 0, .slice none 0 0] 25)) (w.heap.size + 1) 25 [.slice none 0 0, .slice none 0 0] by
    have h := Blk.new (w.alloc (.cells #[vs, vp] 25)) 25 #[.slice none 0 0, .slice none 0 0]
    rw [show (w.alloc (.cells #[vs, vp] 25)).heap.size = w.heap.size + 1 by simp] at h
    exact h)
  obtain ⟨av, cv, rfl, hcv, hvr⟩ := hv
  obtain ⟨aq, cq, rfl, hcq, hqr⟩ := hq
  have H16 := Lib.hid h16
  have Hq16 := Lib.hid hq16
  clear hvr hqr hB h16 hq16
  go_enter Try.func102, Try.ntmps102
  go_upto_region 1 with (fail)
  generalize (w.alloc (.cells #[.slice av l.length cv, .slice aq q.length cq] 25)).alloc (.cells #[.slice none 0 0, .slice none 0 0] 25) = W0 at *
  have c0 := Hb0.out.cell (i := 0) (v := .slice av l.length cv) rfl
  have c1 := Hb0.out.cell (i := 1) (v := .slice aq q.length cq) rfl
  have hb1 := Hb1.out.lt
  have HS := Lib.hid (fun (w' : World) (hb : Below W0.heap.size W0 w') => (⟨(Hb0.out.below hb (by omega)).cell (i := 0) rfl, (Hb0.out.below hb (by omega)).cell (i := 1) rfl, atC_of ((Hb1.out.below hb hb1).cell (i := 0) rfl), atC_of ((Hb1.out.below hb hb1).cell (i := 1) rfl), (Hb1.out.below hb hb1).frozen _, (Hb1.out.below hb hb1).frozen _⟩ :
    w'.cell? ⟨w.heap.size, 0, none⟩ = some (.slice av l.length cv) ∧ w'.cell? ⟨w.heap.size, 1, none⟩ = some (.slice aq q.length cq) ∧ w'.cell? ⟨w.heap.size + 1, 0, none⟩ = some (atC w' (w.heap.size + 1) 0) ∧ w'.cell? ⟨w.heap.size + 1, 1, none⟩ = some (atC w' (w.heap.size + 1) 1) ∧ w'.frozen? ⟨w.heap.size + 1, 0, none⟩ = false ∧ w'.frozen? ⟨w.heap.size + 1, 1, none⟩ = false))
  have HU := Lib.hid (fun (w' : World) (x y : Value) (hb : Below W0.heap.size W0 w') => 
    have b1 := (((Hb1.out.below hb hb1).setCell (i := 0) (by simp) x).setCell (i := 1) (by simp) y)
    have b0 := (((Hb0.out.below hb (by omega)).setCell_other (p := ⟨w.heap.size + 1, 0, none⟩) (by simp) x).setCell_other (p := ⟨w.heap.size + 1, 1, none⟩) (by simp) y)
    (⟨b0.cell (i := 0) rfl, b0.cell (i := 1) rfl, atC_of (b1.cell (i := 0) rfl), atC_of (b1.cell (i := 1) rfl), b1.frozen _, b1.frozen _⟩ :
    (fun (w' : World) => w'.cell? ⟨w.heap.size, 0, none⟩ = some (.slice av l.length cv) ∧ w'.cell? ⟨w.heap.size, 1, none⟩ = some (.slice aq q.length cq) ∧ w'.cell? ⟨w.heap.size + 1, 0, none⟩ = some (atC w' (w.heap.size + 1) 0) ∧ w'.cell? ⟨w.heap.size + 1, 1, none⟩ = some (atC w' (w.heap.size + 1) 1) ∧ w'.frozen? ⟨w.heap.size + 1, 0, none⟩ = false ∧ w'.frozen? ⟨w.heap.size + 1, 1, none⟩ = false) ((w'.setCell ⟨w.heap.size + 1, 0, none⟩ x).setCell ⟨w.heap.size + 1, 1, none⟩ y)))
  have HlP := Lib.hid (show (pgc l).length = l.length * 16 from pgc_length H16.out)
  have H1P := Lib.hid (show ∀ u ∈ pgc l, u.oneCell' = true from bv_one _)
  have HsP := Lib.hid (show l.length = 0 ∨ ∃ ad, av = some ad ∧ ∀ w', Below W0.heap.size W0 w' → ∀ j u, (pgc l)[j]? = some u → w'.cell? (ad.add j) = some u by
    obtain ⟨a', c', e1, _, e3⟩ := HV.out
    simp only [Value.slice.injEq] at e1
    rcases e3 with h | ⟨b, o, ha, hp⟩
    · left; rw [h]; rfl
    · right; exact ⟨⟨b, o, none⟩, by rw [e1.1, ha], fun w' hb => (hp.flat H16.out).src hb⟩)
  have HlQ := Lib.hid (show (q.flatMap pdv).length = q.length * 17 from pdc_length Hq16.out)
  have H1Q := Lib.hid (show ∀ u ∈ q.flatMap pdv, u.oneCell' = true from fun u hu => by
    obtain ⟨p, _, hx⟩ := List.mem_flatMap.1 hu
    exact pdv_one p u hx)
  have HsQ := Lib.hid (show q.length = 0 ∨ ∃ ad, aq = some ad ∧ ∀ w', Below W0.heap.size W0 w' → ∀ j u, (q.flatMap pdv)[j]? = some u → w'.cell? (ad.add j) = some u by
    obtain ⟨a', c', e1, _, e3⟩ := HQ.out
    simp only [Value.slice.injEq] at e1
    rcases e3 with h | ⟨b, o, ha, hp⟩
    · left; rw [h]; rfl
    · right; exact ⟨⟨b, o, none⟩, by rw [e1.1, ha], fun w' hb => pdc_src Hq16.out hp hb⟩)
  go_region_held_law (fun w' => w'.cell? ⟨w.heap.size, 0, none⟩ = some (.slice av l.length cv) ∧ w'.cell? ⟨w.heap.size, 1, none⟩ = some (.slice aq q.length cq) ∧ w'.cell? ⟨w.heap.size + 1, 0, none⟩ = some (atC w' (w.heap.size + 1) 0) ∧ w'.cell? ⟨w.heap.size + 1, 1, none⟩ = some (atC w' (w.heap.size + 1) 1) ∧ w'.frozen? ⟨w.heap.size + 1, 0, none⟩ = false ∧ w'.frozen? ⟨w.heap.size + 1, 1, none⟩ = false)
    (first | exact HU.out _ _ _ (by repeat (first | exact Below.refl _ _ | apply bl_dr | apply bl_al | refine bl_th ?_ hBa | refine bl_th ?_ hBb)) | exact HS.out _ (by repeat (first | exact Below.refl _ _ | apply bl_dr | apply bl_al | refine bl_th ?_ hBa | refine bl_th ?_ hBb)))
    (first
      | (refine step_append_new rfl (.tmp 3) (.tmp 5) 22 rfl W0 (by repeat (first | exact Below.refl _ _ | apply bl_dr | apply bl_al | refine bl_th ?_ hBb)) 82 i0 _ 16 16 Try.underlying22 hi hz0 hz1 hz2 _ rfl av l.length cv rfl (pgc l) HlP.out HsP.out H1P.out (by omega) (by omega) ?_; intro ga ca wa hca hba hBa)
      | (refine step_append_new rfl (.tmp 7) (.tmp 9) 23 rfl W0 (by repeat (first | exact Below.refl _ _ | apply bl_dr | apply bl_al | refine bl_th ?_ hBa)) 96 j0 _ 17 24 Try.underlying23 hj hj0 hj1 hj2 _ rfl aq q.length cq rfl (q.flatMap pdv) HlQ.out HsQ.out H1Q.out (by omega) (by omega) ?_; intro gb cb wb hcb hbb hBb))
  all_goals
    obtain ⟨hga, hblk⟩ := hba (by omega)
    have hE := Lib.hid (fun (X : World) (x y : Value) (k1 : Below wa.heap.size wa X) (k2 : Below W0.heap.size W0 X) => cp_end HB.out hb1 hblk hga Hb1.out k1 k2 x y)
    have hgw : w.heap.size ≤ ga := by have := HB.out.size; omega
    clear hba hbb hblk
    go_wp2_with fail
    refine bodyPost_ret (results_mid rfl _ _ (w.heap.size + 1) [.slice (some ⟨ga, 0, none⟩) l.length ca, .slice (some ⟨gb, 0, none⟩) q.length cb] _ rfl (hE.out _ _ _ (by repeat (first | exact Below.refl _ _ | apply bl_dr | apply bl_al | refine bl_th ?_ hBb)) (by repeat (first | exact Below.refl _ _ | apply bl_dr | apply bl_al | refine bl_th ?_ hBa | refine bl_th ?_ hBb))).1.range Try.underlying25 rfl sizeDisk) rfl ?_
    exact ⟨ga, ca, gb, _, cb, rfl, hgw, hca, (hE.out _ _ _ (by repeat (first | exact Below.refl _ _ | apply bl_dr | apply bl_al | refine bl_th ?_ hBb)) (by repeat (first | exact Below.refl _ _ | apply bl_dr | apply bl_al | refine bl_th ?_ hBa | refine bl_th ?_ hBb))).2⟩
end Go.Proofs.Ytkclmfppjhmnjaa

namespace Go.Proofs.Ytkclmfppjhmnjaa
open Go.RowKit Img

/-- The load of a row or a struct among the quiet operations of a region that draws its order. -/
theorem wpStill_load_mid {P : Program} {ops : Array Oper} {w : World} {Q : Act → Prop} {rest : List Oper} {op : Oper} {a : Act} (hgd : op.guard = none) (ty : TypeId) (x : Operand) (ho : op.op = .load ty x)
    (b o : Nat) (hx : a.eval x = .pointer (some ⟨b, o, none⟩)) (cs : List Value) (d : TypeDesc) (hc : w.rangeAt b o cs)
    (hu : P.underlying ty = some d) (hd : d.isRow = true) (hi : (P.info? ty).map (·.size) = some cs.length)
    (h : wpStill P ops w Q rest (a.put op.dst (.agg cs.toArray))) : wpStill P ops w Q (op :: rest) a :=
  wpStill_step fun K hK => by
    have hw : Region.wanted op (yielded ops a.tmps) = true := by simp [Region.wanted, hgd]
    rw [if_pos hw]
    unfold Oper.still execOp
    simp only [ho, hx, Instr.loadAt, Instr.sureAddr, Sem.run_bind, Sem.run_pure, Result.andThen_ok, run_loadVar_mid w b o ty cs d hc hu hd hi]
    rw [Oper.stillUpon_value]
    exact hK _ h

/-- What the reference's Sync leaves. -/
def SyRet (l : List (List Nat)) (w : World) (e : Ending) (w' : World) : Prop := ∃ g cap, e = .returned (.agg #[.slice (some ⟨g, 0, none⟩) l.length cap, .slice none 0 0]) ∧ w.heap.size ≤ g ∧ l.length ≤ cap ∧ Blk w' g 82 (pgc l) ∧ Below w.heap.size w w'

set_option maxRecDepth 100000 in
set_option maxHeartbeats 4000000 in
theorem r48Sync_any (vs vp : Value) (l : List (List Nat)) (q : List (Int × List Nat)) (w : World) (hv : Pgs w vs 16 l) (h16 : P16 l) (h1 : 1 ≤ l.length) (hl : l.length ≤ 8192) (hq : Pds w vp q) (hq16 : Q16 q) (hqn : q.length ≤ 1000000000) (hin : InQ l.length q) :
    Calls Try.prog 75 #[.agg #[vs, vp]] w (SyRet (cont l q) w) := by
  have hB := ((Below.refl w.heap.size w).alloc (Nat.le_refl _) (.cells #[vs, vp] 25)).alloc (by simp) (.cells #[.slice none 0 0, .slice none 0 0] 25)
  have HB := Lib.hid hB
  have HV := Lib.hid (hv.new hB)
  have HQ := Lib.hid (hq.new hB)
  have Hb0 := Lib.hid ((Blk.new w 25 #[vs, vp]).alloc (.cells #[.slice none 0 0, .slice none 0 0] 25))
  have Hb1 := Lib.hid (show Blk ((w.alloc (.cells #[vs, vp] 25)).alloc (.cells #[.slice none 0 0, .slice none 0 0] 25)) (w.heap.size + 1) 25 [.slice none 0 0, .slice none 0 0] by
    have h := Blk.new (w.alloc (.cells #[vs, vp] 25)) 25 #[.slice none 0 0, .slice none 0 0]
    rw [show (w.alloc (.cells #[vs, vp] 25)).heap.size = w.heap.size + 1 by simp] at h
    exact h)
  obtain ⟨av, cv, rfl, hcv, hvr⟩ := hv
  obtain ⟨aq, cq, rfl, hcq, hqr⟩ := hq
  have H16 := Lib.hid h16
  have Hq16 := Lib.hid hq16
  have Hin := Lib.hid hin
  clear hvr hqr hB h16 hq16 hin
  go_enter Try.func75, Try.ntmps75
  go_upto_region 1 with (fail)
  generalize (w.alloc (.cells #[.slice av l.length cv, .slice aq q.length cq] 25)).alloc (.cells #[.slice none 0 0, .slice none 0 0] 25) = W0 at *
  have c0 := Hb0.out.cell (i := 0) (v := .slice av l.length cv) rfl
  have c1 := Hb0.out.cell (i := 1) (v := .slice aq q.length cq) rfl
  have hb1 := Hb1.out.lt
  go_wp2_with fail
  refine (r48Copy_any _ _ l q _ HV.out H16.out h1 hl HQ.out Hq16.out hqn).mono ?_
  rintro e w1 ⟨g, cap, gq, nq, cq', rfl, hg, hc, hblk, hB1⟩
  have Hblk := Lib.hid hblk
  have HB1 := Lib.hid hB1
  have hg2 : g < w1.heap.size := hblk.lt
  have hz1 : W0.heap.size ≤ w1.heap.size := hB1.size
  have HN := Lib.hid (new_set w1 25 #[.slice none 0 0, .slice none 0 0] (vs := [.slice (some ⟨g, 0, none⟩) l.length cap, .slice (some ⟨gq, 0, none⟩) nq cq']) rfl)
  have Hth := Lib.hid ((Blk.new w1 25 #[.slice none 0 0, .slice none 0 0]).there (o := 0) (n := 2) (by simp))
  clear hblk hB1 c0 c1
  go_upto_region 2 with (first
    | ((with_reducible show wpList _ _ _ (Oper.mk _ (Op.store _ _ _) _ _ _ _ :: _) _ _); refine wpList_store_mid rfl 25 _ _ rfl w1.heap.size 0 #[.slice (some ⟨g, 0, none⟩) l.length cap, .slice (some ⟨gq, 0, none⟩) nq cq'] rfl rfl Hth.out sizeDisk (two_one _ _ rfl rfl) ?_))
  generalize (w1.alloc (.cells #[.slice none 0 0, .slice none 0 0] 25)).setCells w1.heap.size 0 [.slice (some ⟨g, 0, none⟩) l.length cap, .slice (some ⟨gq, 0, none⟩) nq cq'] = W3 at *
  have HB3 := Lib.hid (HB1.out.trans (HN.out.2.mono hz1))
  have hz3 : W0.heap.size ≤ W3.heap.size := HB3.out.size
  have HR0 := Lib.hid (Hb0.out.below HB3.out (by omega))
  have HR1 := Lib.hid (Hb1.out.below HB3.out hb1)
  have HDk := Lib.hid HN.out.1
  have hD3 : w1.heap.size < W3.heap.size := HDk.out.lt
  have Hgk0 := Lib.hid (Hblk.out.below HN.out.2 hg2)
  have HQ3 := Lib.hid (HQ.out.new HB3.out)
  clear Hth HN
  go_wp2_with fail
  go_loopg [4] q.length (fun gk i wr => ∃ k : Nat, k + gk = q.length ∧ i = .int .i64 k ∧ Hid (Blk wr g 82 (pgc (cont l (q.take k)))) ∧ Hid (Kept (fun x => x = g) W3 wr))
  case atStart => exact ⟨0, by omega, rfl, Hgk0.out, Kept.refl _ _⟩
  case round =>
    obtain ⟨k, hgk, rfl, hbk, hKr⟩ := hrel
    have Hgk := Lib.hid hgk
    have hkn : k ≤ q.length := by omega
    clear hgk
    have HR0r := Lib.hid (HR0.out.kept hKr.out (by omega))
    have HDr := Lib.hid (HDk.out.kept hKr.out (by omega))
    have c1 := HR0r.out.cell (i := 1) (v := .slice aq q.length cq) rfl
    have d0 := HDr.out.cell (i := 0) (v := .slice (some ⟨g, 0, none⟩) l.length cap) rfl
    by_cases hlt : k < q.length
    · have hpk := List.getElem?_eq_getElem hlt
      obtain ⟨⟨z, r⟩, hpd⟩ : ∃ p, q[k] = p := ⟨_, rfl⟩
      rw [hpd] at hpk
      obtain ⟨bq, oq, haq, hPd⟩ : ∃ b o, aq = some ⟨b, o, none⟩ ∧ PdAt W0 b o q := by
        obtain ⟨a', c', e1, _, e3⟩ := HQ.out
        simp only [Value.slice.injEq] at e1
        rcases e3 with h | ⟨b, o, ha, h⟩
        · rw [h] at hlt; simp at hlt
        · exact ⟨b, o, by rw [e1.1, ha], h⟩
      subst haq
      have hr16 := Hq16.out _ (List.mem_of_getElem? hpk)
      have hrg0 := hPd k _ hpk
      have Hrg := Lib.hid (show wr.rangeAt bq (oq + k * 17) (pdv (z, r)) from fun j v hv => by
        have h0 := hrg0 j v hv
        have hlt0 := World.block_lt_of_cell? W0 ⟨bq, oq + k * 17 + j, none⟩ h0
        exact hKr.out.cell ((HB3.out.cell (p := ⟨bq, oq + k * 17 + j, none⟩) hlt0).trans h0) (by simp only at hlt0 ⊢; omega))
      obtain ⟨hz1', hz2'⟩ := Hin.out _ (List.mem_of_getElem? hpk)
      simp only at hr16 hz1' hz2'
      obtain ⟨n, rfl⟩ : ∃ n : Nat, z = n := ⟨z.toNat, by omega⟩
      have hnl : n < l.length := by omega
      have x0 : wr.cell? ⟨bq, oq + k * 17, none⟩ = some (.int .i64 n) := Hrg.out 0 _ rfl
      have Hr2 := Lib.hid (show wr.rangeAt bq (oq + k * 17 + 1) (r.map bv) by
        intro j v hv
        have := Hrg.out (j + 1) v hv
        rw [show oq + k * 17 + (j + 1) = oq + k * 17 + 1 + j by omega] at this
        exact this)
      have Htk := Lib.hid (show cont l (q.take (k + 1)) = (cont l (q.take k)).set n r by rw [List.take_add_one, hpk]; exact cont_snoc l (q.take k) _)
      have Hcl := Lib.hid (show P16 (cont l (q.take k)) ∧ (cont l (q.take k)).length = l.length from ⟨cont_all H16.out (fun p hp => Hq16.out p (List.mem_of_mem_take hp)), cont_length _ _⟩)
      have hlc : n * 16 + 16 ≤ (pgc (cont l (q.take k))).length := by rw [pgc_length Hcl.out.1, Hcl.out.2]; omega
      have Hth2 := Lib.hid (hbk.out.drew.there (o := n * 16) (n := (r.map bv).toArray.size) (by simp [hr16]; exact hlc))
      have Hps := Lib.hid (page_size hr16)
      have Hps2 := Lib.hid (show (Try.prog.info? 82).map (·.size) = some (r.map bv).toArray.size by rw [List.size_toArray]; exact Hps.out)
      have Hone2 := Lib.hid (all_oneCell_toArray (bv_one r))
      have Hbk3 := Lib.hid (show Blk (wr.drew.setCells g (n * 16) (r.map bv)) g 82 (pgc (cont l (q.take (k + 1)))) by
        rw [Htk.out, pgc_set Hcl.out.1 (by rw [Hcl.out.2]; exact hnl) hr16]
        exact hbk.out.drew.setCells (by rw [List.length_map, hr16]; exact hlc))
      have HK3 := Lib.hid (kept_setCells hKr.out.drew (fun _ => rfl) (n * 16) (r.map bv) : Kept (fun x => x = g) W3 (wr.drew.setCells g (n * 16) (r.map bv)))
      have i1 : (0 : Int) ≤ (k : Int) := by omega
      have i2 : (k : Int) < (q.length : Int) := by omega
      have i3 : (0 : Int) ≤ (n : Int) := by omega
      have i4 : (n : Int) < (l.length : Int) := by omega
      clear hlc Hrg hrg0 hpk hpd hPd hz1' hz2'
      go_wp2_with fail
      go_still_tail 15, (by kernel_rfl)
      refine wpStill_load_mid rfl 82 (.tmp 26) rfl bq (oq + k * 17 + 1) rfl (r.map bv) _ Hr2.out Try.underlying82 rfl Hps.out ?_
      repeat still_step
      refine wpStill_nil ?_
      change wpList _ _ _ _ _ wr.drew
      go_wp2_with (refine wpList_store_mid rfl 82 _ _ rfl g (n * 16) (r.map bv).toArray rfl rfl Hth2.out Hps2.out Hone2.out ?_)
      go_roundg (q.length - k - 1)
      case measure => have := Hgk.out; omega
      case rel => exact ⟨k + 1, by have := Hgk.out; omega, by go_num, Hbk3.out, HK3.out⟩
    · have hk := hbk.out
      rw [List.take_of_length_le (by omega)] at hk
      have HR1r := Lib.hid (HR1.out.kept hKr.out (by omega))
      have d1 := HDr.out.cell (i := 1) (v := .slice (some ⟨gq, 0, none⟩) nq cq') rfl
      have f1 := HDr.out.frozen 1
      have Hk := Lib.hid hk
      have HBr := Lib.hid (HB.out.trans ((HB3.out.trans (hKr.out.below (B := W0.heap.size) (by omega) (fun j hj e => by omega))).mono (by have := HB.out.size; omega)))
      clear hk hbk
      have HRs := Lib.hid (HR1r.out.setCell_other (p := ⟨w1.heap.size, 1, none⟩) (by simp only; omega) (.slice none 0 0))
      have Hks := Lib.hid (Hk.out.setCell_other (p := ⟨w1.heap.size, 1, none⟩) (by simp only; omega) (.slice none 0 0))
      have HBs := Lib.hid (HBr.out.setCell (p := ⟨w1.heap.size, 1, none⟩) (by have := HB.out.size; simp only; omega) (.slice none 0 0))
      have Hth := Lib.hid (HRs.out.there (o := 0) (n := 2) (by simp))
      have HRe := Lib.hid (show Blk ((wr.setCell ⟨w1.heap.size, 1, none⟩ (.slice none 0 0)).setCells (w.heap.size + 1) 0 [.slice (some ⟨g, 0, none⟩) l.length cap, .slice none 0 0]) (w.heap.size + 1) 25 [.slice (some ⟨g, 0, none⟩) l.length cap, .slice none 0 0] from HRs.out.setCells (o := 0) (vs := [.slice (some ⟨g, 0, none⟩) l.length cap, .slice none 0 0]) (by simp))
      have Hke := Lib.hid (Hks.out.setCells_other (b := w.heap.size + 1) (o := 0) (vs := [.slice (some ⟨g, 0, none⟩) l.length cap, .slice none 0 0]) (by omega))
      have HBe := Lib.hid (below_setCells HBs.out (b := w.heap.size + 1) (by omega) 0 [.slice (some ⟨g, 0, none⟩) l.length cap, .slice none 0 0])
      clear Hk HBr HR1r HRs Hks HBs
      go_wp2_with ((with_reducible show wpList _ _ _ (Oper.mk _ (Op.store _ _ (Operand.tmp 30)) _ _ _ _ :: _) _ _); refine wpList_store_mid rfl 25 _ _ rfl (w.heap.size + 1) 0 #[.slice (some ⟨g, 0, none⟩) l.length cap, .slice none 0 0] rfl rfl Hth.out sizeDisk (two_one _ _ rfl rfl) ?_)
      (try simp only [Exit.inBlock, Exit.then])
      refine bodyPost_ret (results_mid rfl _ _ (w.heap.size + 1) [.slice (some ⟨g, 0, none⟩) l.length cap, .slice none 0 0] _ rfl HRe.out.range Try.underlying25 rfl sizeDisk) rfl ?_
      exact ⟨g, cap, by rw [cont_length], by have := HB.out.size; omega, by rw [cont_length]; exact hc, Hke.out, HBe.out⟩
end Go.Proofs.Ytkclmfppjhmnjaa

namespace Go.Proofs.Ytkclmfppjhmnjaa
open Go.RowKit Img

theorem fieldDisk0 (w : World) (a : Option Addr) (n c : Nat) (y : Value) : (Instr.field 25 (.agg #[.slice a n c, y]) 0).run Try.prog w = .ok (.slice a n c) w := by kernel_rfl

set_option maxRecDepth 100000 in
set_option maxHeartbeats 4000000 in
theorem r48Read_any (vs vp : Value) (l : List (List Nat)) (q : List (Int × List Nat)) (w : World) (hv : Pgs w vs 16 l) (h16 : P16 l) (hq : Pds w vp q) (hq16 : Q16 q) (hqn : q.length ≤ 1000000000) (hE : dkErr l.length q = 0) :
    Calls Try.prog 44 #[.agg #[vs, vp], .int .i64 0, .int .i64 l.length] w (PgErr (cont l q) 0 w) := by
  have qq := noPages
  have qf := fieldDisk0
  obtain ⟨i0, hi, hz0', hz1', hz2'⟩ := info_parts infoPage
  have hB := (Below.refl w.heap.size w).alloc (Nat.le_refl _) (.cells #[vs, vp] 25)
  have Hbk := Lib.hid (Blk.new w 25 #[vs, vp])
  have HV := Lib.hid (hv.new hB)
  have HQ := Lib.hid (hq.new hB)
  have HB := Lib.hid hB
  obtain ⟨av, cv, rfl, hcv, _⟩ := hv
  obtain ⟨aq, cq, rfl, hcq, _⟩ := hq
  have H16 := Lib.hid h16
  have Hq16 := Lib.hid hq16
  have hzz : w.heap.size < (w.alloc (.cells #[.slice av l.length cv, .slice aq q.length cq] 25)).heap.size := by simp
  have Hagg := Lib.hid (fun (W : World) (h : Blk W w.heap.size 25 [.slice av l.length cv, .slice aq q.length cq]) => (⟨h.cell (i := 0) rfl, h.cell (i := 1) rfl⟩ : W.cell? ⟨w.heap.size, 0, none⟩ = some (.slice av l.length cv) ∧ W.cell? ⟨w.heap.size, 1, none⟩ = some (.slice aq q.length cq)))
  obtain ⟨c0, c1⟩ := Hagg.out _ Hbk.out
  obtain ⟨hn1, hn2, hin⟩ := dkErr_ok hE
  have Hin := Lib.hid hin
  have HE := Lib.hid hE
  clear h16 hq16 hB hin hE
  go_enter Try.func44, Try.ntmps44
  go_wp2_with fail
  generalize w.alloc (.cells #[.slice av l.length cv, .slice aq q.length cq] 25) = W0 at *
  refine (r48Check_any av l.length cv _ q _ hqn HQ.out (by omega)).mono ?_
  rintro e w1 ⟨rfl, hB1⟩
  rw [HE.out]
  have Hb1 := Lib.hid (Hbk.out.below hB1 hzz)
  obtain ⟨d0, d1⟩ := Hagg.out _ Hb1.out
  have HV1 := Lib.hid (HV.out.new hB1)
  have HQ1 := Lib.hid (HQ.out.new hB1)
  have HB1 := Lib.hid (HB.out.trans (hB1.mono HB.out.size))
  have hz1 : w.heap.size < w1.heap.size := Hb1.out.lt
  clear hB1 c0 c1 HV HQ
  go_wp2_with fail
  refine (r48fits_any av l.length cv _ _).mono ?_
  rintro e w2 ⟨rfl, hB2⟩
  have Hb2 := Lib.hid (Hb1.out.below hB2 hz1)
  have HV2 := Lib.hid (HV1.out.new hB2)
  have HQ2 := Lib.hid (HQ1.out.new hB2)
  have HB2 := Lib.hid (HB1.out.trans (hB2.mono HB1.out.size))
  have hz2 : w.heap.size < w2.heap.size := Hb2.out.lt
  have hB3 := (Below.refl w2.heap.size w2).alloc (Nat.le_refl _) (.cells #[] 82)
  obtain ⟨f0, f1⟩ := Hagg.out _ (Hb2.out.below hB3 hz2)
  have HV3 := Lib.hid (HV2.out.new hB3)
  have HQ3 := Lib.hid (HQ2.out.new hB3)
  have HO3 := Lib.hid (show PO (w2.alloc (.cells #[] 82)) w2.heap.size (.slice (some ⟨w2.heap.size, 0, none⟩) 0 0) [] from World.ownsRow_made w2 #[] 0 (Nat.le_refl _) (by decide) rfl)
  have HB3 := Lib.hid (HB2.out.trans (hB3.mono HB2.out.size))
  clear hB2 d0 d1 HV1 HQ1 hB3 HV2 HQ2
  go_wp2_with fail
  refine (r48Sync_any _ _ l q _ HV3.out H16.out hn1 hn2 HQ3.out Hq16.out hqn Hin.out).mono ?_
  rintro e w4 ⟨g, cap, rfl, hg, hc, hblk, hB4⟩
  rw [cont_length] at hc ⊢
  have HO4 := Lib.hid (HO3.out.new hB4)
  have HB4 := Lib.hid (HB3.out.trans (hB4.mono HB3.out.size))
  have Hc16 := Lib.hid (show P16 (cont l q) from cont_all H16.out (fun p hp => Hq16.out p hp))
  have Hlen := Lib.hid (show (pgc (cont l q)).length = l.length * 16 by rw [pgc_length Hc16.out, cont_length])
  have Hsrc := Lib.hid (show ∀ j u, (pgc (cont l q))[j]? = some u → w4.cell? ((⟨g, 0, none⟩ : Addr).add j) = some u from fun j u hu => by rw [Addr.add_lit, Nat.zero_add]; exact hblk.cell hu)
  have Hone := Lib.hid (show ∀ u ∈ pgc (cont l q), u.oneCell' = true from bv_one _)
  have hz4 : w2.heap.size ≤ w4.heap.size := by have := hB4.size; simp at this; omega
  have i1 : (0 : Int) ≤ (l.length : Int) := by omega
  have i2 : (l.length : Int) ≤ (cap : Int) := by omega
  have i3 : ¬ (cap = 0) := by omega
  clear hblk hB4 f0 f1
  go_wp2_with (at_builtin; refine wpList_append_own _ rfl _ _ 22 rfl w2.heap.size 82 i0 (.agg (Array.replicate 16 (.int .u8 0))) 16 16 Try.underlying22 hi hz0' hz1' hz2' rfl (by decide) _ 0 [] rfl HO4.out ⟨g, 0, none⟩ l.length cap (pgc (cont l q)) rfl ?c1 ?c2 ?c3 ?c4 ?c5 ?c6 ?_)
  case c1 => exact Hlen.out
  case c2 => exact Hsrc.out
  case c3 => exact Hone.out
  case c4 => unfold maxLen; omega
  case c5 => omega
  case c6 => exact hz4
  intro v' w5 hown hgr _
  have hown' : w5.ownsRow w2.heap.size 82 16 v' l.length (pgc (cont l q)) := by simpa only [Nat.zero_add, List.nil_append] using hown
  have hB5 : Below w2.heap.size w4 w5 := (Below.refl _ _).grown hgr (by omega) (by intro k hk; simp [Value.ownBlock] at hk; omega)
  have HO5 := Lib.hid ((show PO w5 w2.heap.size v' (cont l q) from by unfold PO; rw [cont_length]; exact hown').base (B' := w.heap.size) (by omega))
  have HB5 := Lib.hid (HB4.out.trans (hB5.mono (by omega)))
  clear hown hown' hgr hB5
  go_wp2_with fail
  go_ret2
  exact ⟨v', rfl, HO5.out, HB5.out⟩
end Go.Proofs.Ytkclmfppjhmnjaa

namespace Go.Proofs.Ytkclmfppjhmnjaa
open Go.RowKit Img

set_option maxRecDepth 100000 in
set_option maxHeartbeats 4000000 in
theorem r59Image_any (vs vp : Value) (l : List (List Nat)) (q : List (Int × List Nat)) (w : World) (hv : Pgs w vs 16 l) (h16 : P16 l) (hl : l.length ≤ 1000000000) (hq : Pds w vp q) (hq16 : Q16 q) (hqn : q.length ≤ 1000000000) :
    Calls Try.prog 18 #[.agg #[vs, vp]] w (BsErr (imRes l q) (imErr l q) w) := by
  obtain ⟨i0, hi, hz0, hz1, hz2⟩ := info_parts infoByte
  have hB := (Below.refl w.heap.size w).alloc (Nat.le_refl _) (.cells #[vs, vp] 25)
  have Hbk := Lib.hid (Blk.new w 25 #[vs, vp])
  have HV := Lib.hid (hv.new hB)
  have HQ := Lib.hid (hq.new hB)
  have HB := Lib.hid hB
  obtain ⟨av, cv, rfl, hcv, _⟩ := hv
  obtain ⟨aq, cq, rfl, hcq, _⟩ := hq
  have H16 := Lib.hid h16
  have Hq16 := Lib.hid hq16
  have hzz : w.heap.size < (w.alloc (.cells #[.slice av l.length cv, .slice aq q.length cq] 25)).heap.size := by simp
  have Hagg := Lib.hid (fun (W : World) (h : Blk W w.heap.size 25 [.slice av l.length cv, .slice aq q.length cq]) => (⟨h.cell (i := 0) rfl, h.cell (i := 1) rfl⟩ : W.cell? ⟨w.heap.size, 0, none⟩ = some (.slice av l.length cv) ∧ W.cell? ⟨w.heap.size, 1, none⟩ = some (.slice aq q.length cq)))
  obtain ⟨c0, c1⟩ := Hagg.out _ Hbk.out
  clear h16 hq16 hB
  go_enter Try.func18, Try.ntmps18
  go_wp2_with fail
  generalize w.alloc (.cells #[.slice av l.length cv, .slice aq q.length cq] 25) = W0 at *
  refine (r48Check_any av l.length cv _ q _ hqn HQ.out hl).mono ?_
  rintro e wc ⟨rfl, hBc⟩
  have Hbc := Lib.hid (Hbk.out.below hBc hzz)
  obtain ⟨c0, c1⟩ := Hagg.out _ Hbc.out
  have HVc := Lib.hid (HV.out.new hBc)
  have HQc := Lib.hid (HQ.out.new hBc)
  have HBc := Lib.hid (HB.out.trans (hBc.mono HB.out.size))
  have hzw := HBc.out.size
  clear hBc HV HQ
  by_cases hE : dkErr l.length q = 0
  · rw [hE]
    go_wp2_with fail
    refine (r48Read_any _ _ l q _ HVc.out H16.out HQc.out Hq16.out hqn hE).mono ?_
    rintro e w1 ⟨v1, rfl, hO, hB1⟩
    have HB1 := Lib.hid (HBc.out.trans (hB1.mono HBc.out.size))
    have hzw1 := hB1.size
    clear hB1 c0 c1 HVc HQc
    obtain ⟨hn1, hn2, hin⟩ := dkErr_ok hE
    have hLl := cont_length l q
    have HL16 := Lib.hid (show P16 (cont l q) from cont_all H16.out (fun p hp => Hq16.out p hp))
    have HIE := Lib.hid (show imErr l q = if 65536 < (imgB (cont l q)).length then 5 else 0 by unfold imErr; rw [if_pos hE])
    have HIR := Lib.hid (show imRes l q = if imErr l q = 0 then imgB (cont l q) else [] from rfl)
    have HIL := Lib.hid (imgB_length HL16.out)
    have HIB := Lib.hid (show imgB (cont l q) = Wire.enc l.length ++ ((cont l q).take (cutN (cont l q) l.length)).flatten by unfold imgB; rw [hLl])
    generalize imErr l q = xe at *
    generalize imRes l q = xr at *
    generalize cont l q = L at *
    generalize l.length = n at *
    have HLl := Lib.hid hLl
    have hfur := fur_small hn2
    rw [hLl] at HIL
    have hnum := Wire.num_of (n := n) (Nat.lt_of_le_of_lt hn2 (by decide))
    have Hnum := Lib.hid hnum
    obtain ⟨g, cap, rfl, hg, hc1, hc2, hblk⟩ := hO.some (by intro h; rw [h] at hLl; simp at hLl; omega)
    rw [hLl] at hc1 ⊢
    have Hblk := Lib.hid hblk
    clear hO hblk hE hLl hnum
    go_upto_block 0 with (fail)
    go_cut [7] (fun s6 wx => s6 = .int .i64 (cutN L n) ∧ w1 = wx)
    case first =>
      go_wp2_with fail
      go_loop [7] (fun s6 => ∃ k : Nat, k ≤ n ∧ s6 = .int .i64 k ∧ Hid (cutN L k = cutN L n)) (fun i => (intOf i).toNat)
      case atStart => exact ⟨n, Nat.le_refl _, rfl, rfl⟩
      case round =>
        obtain ⟨k, hk, rfl, hcut⟩ := hrel
        cases k with
        | zero =>
          go_wp2_with fail
          go_meet
          exact ⟨by rw [← hcut.out]; rfl, rfl⟩
        | succ k =>
          have Hrg := Lib.hid (page_range Hblk.out HL16.out (i := k) (by rw [HLl.out]; omega))
          have hr16 := HL16.out _ (List.mem_of_getElem? (getD_some (d := []) (show k < L.length by rw [HLl.out]; omega)))
          have Hps := Lib.hid (page_size hr16)
          obtain ⟨r, hr⟩ : ∃ r, L.getD k [] = r := ⟨_, rfl⟩
          rw [hr] at Hrg hr16 Hps
          by_cases hzr : r = zp
          · have Hd := Lib.hid (decide_eq_true hzr)
            have Hc := Lib.hid (show cutN L k = cutN L n by rw [← hcut.out, cutN_step (by rw [hr, hzr])])
            clear hzr hr hcut
            go_wp2_with (first
              | (refine wpList_load_want (by rfl) 82 _ rfl g (k * 16) rfl (r.map bv) _ Hrg.out Try.underlying82 rfl Hps.out ?_)
              | (refine wpList_eq_page (by rfl) _ _ _ rfl r zp rfl rfl hr16 zp_length true Hd.out ?_))
            go_round
            case rel => exact ⟨k, by omega, by go_num, Hc.out⟩
            case measure => simp [intOf]
          · have Hd := Lib.hid (decide_eq_false hzr)
            have Hc := Lib.hid (show cutN L n = k + 1 by rw [← hcut.out, cutN_stop (by rw [hr]; exact hzr)])
            clear hzr hr hcut
            go_wp2_with (first
              | (refine wpList_load_want (by rfl) 82 _ rfl g (k * 16) rfl (r.map bv) _ Hrg.out Try.underlying82 rfl Hps.out ?_)
              | (refine wpList_eq_page (by rfl) _ _ _ rfl r zp rfl rfl hr16 zp_length false Hd.out ?_))
            go_meet
            exact ⟨by rw [Hc.out]; rfl, rfl⟩
    case rest =>
    obtain ⟨rfl, rfl⟩ := hcut
    have hkn := cutN_le L n
    generalize cutN L n = k at *
    have hkn' : (k : Int) ≤ (cap : Int) := by omega
    go_wp2_with fail
    refine (r2PutInt_any _ [] n _ ⟨none, 0, rfl, Nat.le_refl _, Or.inl rfl⟩ (by simp)).mono ?_
    rintro e w2 ⟨v2, rfl, hO2, hB2⟩
    rw [Hnum.out, List.nil_append] at hO2
    have HO2 := Lib.hid hO2
    have Hb2 := Lib.hid (Hblk.out.below hB2 Hblk.out.lt)
    have HB2 := Lib.hid (HB1.out.trans (hB2.mono HB1.out.size))
    have HBw := Lib.hid hB2
    have Hgb := Lib.hid Hblk.out.lt
    clear hO2 hB2 Hb2 HB2
    go_wp2_with fail
    have hO2f := HO2.out.form
    obtain ⟨a2, c2, rfl⟩ := hO2f
    go_loopg [8, 9] k (fun gk v i wr => ∃ j : Nat, j + gk = k ∧ i = .int .i64 j ∧ Hid (BO wr w1.heap.size v (Wire.enc n ++ (L.take j).flatten)) ∧ Hid (Below w1.heap.size w1 wr))
    case atStart => exact ⟨0, by omega, rfl, by show BO _ _ _ (Wire.enc n ++ []); rw [List.append_nil]; exact HO2.out, HBw.out⟩
    case round =>
      obtain ⟨j, hgk, rfl, hO, hBr⟩ := hrel
      have Hgk := Lib.hid hgk
      have hjk : j ≤ k := by omega
      clear hgk
      obtain ⟨av', cv', rfl⟩ := hO.out.form
      by_cases hlt : j < k
      · have hjL : j < L.length := by rw [HLl.out]; omega
        have hr0 := getD_some (l := L) (d := []) hjL
        have Hbr := Lib.hid (Hblk.out.below hBr.out Hgb.out)
        have Hrg := Lib.hid (page_range Hbr.out HL16.out hjL)
        have hr16 := HL16.out _ (List.mem_of_getElem? hr0)
        obtain ⟨r, hr⟩ : ∃ r, L.getD j [] = r := ⟨_, rfl⟩
        rw [hr] at Hrg hr16 hr0
        have Hps := Lib.hid (page_size hr16)
        have Hone' := Lib.hid (bv_one r)
        have Htk := Lib.hid (show Wire.enc n ++ (L.take (j + 1)).flatten = (Wire.enc n ++ (L.take j).flatten) ++ r by rw [List.take_add_one, hr0]; simp)
        have hpl : (Wire.enc n ++ (L.take j).flatten).length ≤ 1000000 := by
          have h1 := flat_len (n := 16) (l := L.take j) (fun x hx => HL16.out x (List.mem_of_mem_take hx))
          have h2 := List.length_take_le j L
          rw [List.length_append, Wire.enc_length, h1]
          omega
        obtain ⟨p, hp⟩ : ∃ p, Wire.enc n ++ (L.take j).flatten = p := ⟨_, rfl⟩
        rw [hp] at hO Htk hpl ⊢
        clear hr hr0 hjL hp
        have hzr := hBr.out.size
        have HO3 := Lib.hid hO.out
        have HB3 := Lib.hid hBr.out
        have Hsrc := Lib.hid (show ∀ jj u, (r.map bv)[jj]? = some u → wr.cell? ((⟨g, j * 16, none⟩ : Addr).add jj) = some u from fun jj u hu => by rw [Addr.add_lit]; exact Hrg.out jj u hu)
        have i1 : (0 : Int) ≤ (j : Int) := by omega
        have i2 : (j : Int) < (n : Int) := by omega
        go_wp2_with (at_builtin; refine wpList_append_own _ rfl _ _ 26 rfl w1.heap.size 5 i0 (.int .u8 0) 1 1 Try.underlying26 hi hz0 hz1 hz2 rfl (by decide) _ p.length (p.map bv) rfl HO3.out ⟨g, j * 16, none⟩ 16 16 (r.map bv) rfl ?c1 Hsrc.out Hone'.out ?c4 ?c5 ?c6 ?_)
        case c1 => rw [List.length_map, hr16]
        case c4 => unfold maxLen; omega
        case c5 => omega
        case c6 => omega
        intro v5 w5 hown hgr _
        have hO5 : BO w5 w1.heap.size v5 (p ++ r) := by unfold BO; rw [List.length_append, List.map_append, hr16]; exact hown
        have hB5 : Below w1.heap.size w1 w5 := Below.grown HB3.out hgr (by omega) HO3.out.block
        rw [← Htk.out] at hO5
        have HO5 := Lib.hid hO5
        have HB5 := Lib.hid hB5
        clear hown hgr hO5 hB5
        go_wp2_with fail
        go_roundg (k - j - 1)
        case measure => have := Hgk.out; omega
        case rel => exact ⟨j + 1, by have := Hgk.out; omega, by go_num, HO5.out, HB5.out⟩
      · obtain rfl : j = k := by omega
        have hO' := hO.out
        rw [← HIB.out] at hO'
        rw [← HIB.out]
        have HBe := Lib.hid (HB1.out.trans (hBr.out.mono HB1.out.size))
        have HOe := Lib.hid (hO'.base (Nat.le_trans hzw hzw1))
        generalize imgB L = M at *
        clear hO hO'
        by_cases hL : 65536 < M.length
        · have t1 : decide ((65536 : Int) < (M.length : Int)) = true := by simp; omega
          have hx := HIE.out
          rw [if_pos hL] at hx
          have Hx := Lib.hid hx
          clear hx hL
          go_wp2_with fail
          go_ret2
          exact ⟨_, by rw [Hx.out]; rfl, by rw [HIR.out, if_neg (by rw [Hx.out]; decide)]; exact BO.nil _ _, HBe.out⟩
        · have t1 : decide ((65536 : Int) < (M.length : Int)) = false := by simp; omega
          have hx := HIE.out
          rw [if_neg hL] at hx
          have Hx := Lib.hid hx
          clear hx hL
          go_wp2_with fail
          go_ret2
          exact ⟨_, by rw [Hx.out]; rfl, by rw [HIR.out, if_pos Hx.out]; exact HOe.out, HBe.out⟩
  · have HIE := Lib.hid (show imErr l q = dkErr l.length q by unfold imErr; rw [if_neg hE])
    have HD := Lib.hid (show dkErr l.length q = 2 by unfold dkErr at hE ⊢; split at hE; (rename_i h; rw [if_pos h]); exact absurd rfl hE)
    rw [HD.out]
    clear hE
    go_wp2_with fail
    go_ret2
    exact ⟨_, by rw [HIE.out, HD.out]; rfl, by unfold imRes; rw [if_neg (by rw [HIE.out, HD.out]; decide)]; exact BO.nil _ _, HBc.out⟩
end Go.Proofs.Ytkclmfppjhmnjaa

namespace Go.Proofs.Ytkclmfppjhmnjaa
open Go.RowKit Img Wire

/-- What Protect answers. -/
def prErr (l : List (List Nat)) (q : List (Int × List Nat)) (d r : Int) : Nat := if imErr l q = 0 then spErr (imRes l q) d r else imErr l q
def prL (l : List (List Nat)) (q : List (Int × List Nat)) (d r : Int) : List (List Nat) := if imErr l q = 0 then spL (imRes l q) d r else []

set_option maxRecDepth 100000 in
set_option maxHeartbeats 4000000 in
theorem Protect_any (vs vp : Value) (l : List (List Nat)) (q : List (Int × List Nat)) (d r : Int) (w : World) (hv : Pgs w vs 16 l) (h16 : P16 l) (hBl : BytM l) (hl : l.length ≤ 1000000000) (hq : Pds w vp q) (hq16 : Q16 q) (hBq : ∀ p ∈ q, Byt p.2) (hqn : q.length ≤ 1000000000)
    (hd1 : -9223372036854775808 ≤ d) (hd2 : d ≤ 9223372036854775807) (hr1 : -9223372036854775808 ≤ r) (hr2 : r ≤ 9223372036854775807) :
    Calls Try.prog 20 #[.agg #[vs, vp], .int .i64 d, .int .i64 r] w (RowsErr (prL l q d r) (prErr l q d r) w) := by
  have hB := (Below.refl w.heap.size w).alloc (Nat.le_refl _) (.cells #[vs, vp] 25)
  have c0 : (w.alloc (.cells #[vs, vp] 25)).cell? ⟨w.heap.size, 0, none⟩ = some vs := (Blk.new w 25 #[vs, vp]).cell rfl
  have c1 : (w.alloc (.cells #[vs, vp] 25)).cell? ⟨w.heap.size, 1, none⟩ = some vp := (Blk.new w 25 #[vs, vp]).cell rfl
  have HV := Lib.hid (hv.new hB)
  have HQ := Lib.hid (hq.new hB)
  have HB := Lib.hid hB
  obtain ⟨av, cv, rfl, hcv, _⟩ := hv
  obtain ⟨aq, cq, rfl, hcq, _⟩ := hq
  have H16 := Lib.hid h16
  have Hq16 := Lib.hid hq16
  have HBi := Lib.hid (imRes_byt hBl hBq)
  have hil := imRes_len l q
  clear h16 hq16 hB hBl hBq
  go_enter Try.func20, Try.ntmps20
  go_wp2_with fail
  generalize w.alloc (.cells #[.slice av l.length cv, .slice aq q.length cq] 25) = W0 at *
  refine (Image_any _ _ l q _ HV.out H16.out hl HQ.out Hq16.out hqn).mono ?_
  rintro e w1 ⟨v1, rfl, hO, hB1⟩
  have HB1 := Lib.hid (HB.out.trans (hB1.mono HB.out.size))
  have HO1 := Lib.hid hO.bs
  obtain ⟨a1, k1, rfl⟩ := hO.form
  have hie := imErr_le l q
  clear hO hB1 c0 c1 HV HQ
  by_cases hE : imErr l q = 0
  · have X1 := Lib.hid (show prErr l q d r = spErr (imRes l q) d r by unfold prErr; rw [if_pos hE])
    have X2 := Lib.hid (show prL l q d r = spL (imRes l q) d r by unfold prL; rw [if_pos hE])
    rw [hE]
    generalize imRes l q = b at *
    clear hE hie
    go_wp2_with fail
    refine (vSplit_any _ b d r _ HO1.out HBi.out (by omega) hd1 hd2 hr1 hr2).mono ?_
    rintro e w2 ⟨v, hd, rfl, hM, hB2⟩
    have HM := Lib.hid (hM.base HB1.out.size)
    have HB2 := Lib.hid (HB1.out.trans (hB2.mono HB1.out.size))
    clear hM hB2
    go_wp2_with fail
    go_ret2
    exact ⟨v, hd, by rw [X1.out]; rfl, by rw [X2.out]; exact HM.out, HB2.out⟩
  · have X1 := Lib.hid (show prErr l q d r = imErr l q by unfold prErr; rw [if_neg hE])
    have X2 := Lib.hid (show prL l q d r = [] by unfold prL; rw [if_neg hE])
    generalize imErr l q = x at *
    have t1 : ((x : Int) != 0) = true := by simp; omega
    clear hE
    go_wp2_with fail
    go_ret2
    exact ⟨_, [], by rw [X1.out]; rfl, by rw [X2.out]; exact GM.nil _ _, HB1.out⟩

set_option maxRecDepth 100000 in
set_option maxHeartbeats 4000000 in
theorem r59Protect_any (vs vp : Value) (l : List (List Nat)) (q : List (Int × List Nat)) (d r : Int) (w : World) (hv : Pgs w vs 16 l) (h16 : P16 l) (hBl : BytM l) (hl : l.length ≤ 1000000000) (hq : Pds w vp q) (hq16 : Q16 q) (hBq : ∀ p ∈ q, Byt p.2) (hqn : q.length ≤ 1000000000)
    (hd1 : -9223372036854775808 ≤ d) (hd2 : d ≤ 9223372036854775807) (hr1 : -9223372036854775808 ≤ r) (hr2 : r ≤ 9223372036854775807) :
    Calls Try.prog 21 #[.agg #[vs, vp], .int .i64 d, .int .i64 r] w (RowsErr (prL l q d r) (prErr l q d r) w) := by
  have hB := (Below.refl w.heap.size w).alloc (Nat.le_refl _) (.cells #[vs, vp] 25)
  have c0 : (w.alloc (.cells #[vs, vp] 25)).cell? ⟨w.heap.size, 0, none⟩ = some vs := (Blk.new w 25 #[vs, vp]).cell rfl
  have c1 : (w.alloc (.cells #[vs, vp] 25)).cell? ⟨w.heap.size, 1, none⟩ = some vp := (Blk.new w 25 #[vs, vp]).cell rfl
  have HV := Lib.hid (hv.new hB)
  have HQ := Lib.hid (hq.new hB)
  have HB := Lib.hid hB
  obtain ⟨av, cv, rfl, hcv, _⟩ := hv
  obtain ⟨aq, cq, rfl, hcq, _⟩ := hq
  have H16 := Lib.hid h16
  have Hq16 := Lib.hid hq16
  have HBi := Lib.hid (imRes_byt hBl hBq)
  have hil := imRes_len l q
  clear h16 hq16 hB hBl hBq
  go_enter Try.func21, Try.ntmps21
  go_wp2_with fail
  generalize w.alloc (.cells #[.slice av l.length cv, .slice aq q.length cq] 25) = W0 at *
  refine (r59Image_any _ _ l q _ HV.out H16.out hl HQ.out Hq16.out hqn).mono ?_
  rintro e w1 ⟨v1, rfl, hO, hB1⟩
  have HB1 := Lib.hid (HB.out.trans (hB1.mono HB.out.size))
  have HO1 := Lib.hid hO.bs
  obtain ⟨a1, k1, rfl⟩ := hO.form
  have hie := imErr_le l q
  clear hO hB1 c0 c1 HV HQ
  by_cases hE : imErr l q = 0
  · have X1 := Lib.hid (show prErr l q d r = spErr (imRes l q) d r by unfold prErr; rw [if_pos hE])
    have X2 := Lib.hid (show prL l q d r = spL (imRes l q) d r by unfold prL; rw [if_pos hE])
    rw [hE]
    generalize imRes l q = b at *
    clear hE hie
    go_wp2_with fail
    refine (r5Split_any _ b d r _ HO1.out HBi.out (by omega) hd1 hd2 hr1 hr2).mono ?_
    rintro e w2 ⟨v, hd, rfl, hM, hB2⟩
    have HM := Lib.hid (hM.base HB1.out.size)
    have HB2 := Lib.hid (HB1.out.trans (hB2.mono HB1.out.size))
    clear hM hB2
    go_wp2_with fail
    go_ret2
    exact ⟨v, hd, by rw [X1.out]; rfl, by rw [X2.out]; exact HM.out, HB2.out⟩
  · have X1 := Lib.hid (show prErr l q d r = imErr l q by unfold prErr; rw [if_neg hE])
    have X2 := Lib.hid (show prL l q d r = [] by unfold prL; rw [if_neg hE])
    generalize imErr l q = x at *
    have t1 : ((x : Int) != 0) = true := by simp; omega
    clear hE
    go_wp2_with fail
    go_ret2
    exact ⟨_, [], by rw [X1.out]; rfl, by rw [X2.out]; exact GM.nil _ _, HB1.out⟩
end Go.Proofs.Ytkclmfppjhmnjaa

namespace Go.Proofs.Ytkclmfppjhmnjaa
open Go.RowKit Wire Vol Crc

theorem spL_ok {b : List Nat} (hB : Byt b) (data rec : Int) : BytM (spL b data rec) ∧ (spL b data rec).length ≤ 64 ∧ ∀ r ∈ spL b data rec, r.length ≤ 65536 := by
  by_cases hE : spErr b data rec = 0
  · have hL : ¬ 65536 < b.length := fun h => by rw [spErr_long h] at hE; simp at hE
    have hbad : ¬ spBad data rec := fun h => by rw [spErr_bad hL h] at hE; simp at hE
    have hb2 := hbad
    unfold spBad at hb2
    obtain ⟨d, rfl⟩ : ∃ d : Nat, data = d := ⟨data.toNat, by omega⟩
    obtain ⟨r, rfl⟩ : ∃ r : Nat, rec = r := ⟨rec.toNat, by omega⟩
    have hS : spL b (d : Int) (r : Int) = volL b d r := by
      unfold spL
      rw [if_pos hE, Int.toNat_natCast, Int.toNat_natCast]
    obtain ⟨hAr, hAl⟩ := allM_rect hB (show b.length ≤ 65536 by omega) (show 1 ≤ d by omega) (show d + r ≤ 64 by omega)
    rw [hS]
    have hget : ∀ x ∈ volL b d r, ∃ i, (volL b d r)[i]? = some x ∧ i < d + r := fun x hx => by
      obtain ⟨i, hi⟩ := List.mem_iff_getElem?.1 hx
      refine ⟨i, hi, ?_⟩
      have := (List.getElem?_eq_some_iff.1 hi).1
      rw [volL_length, hAl] at this
      exact this
    refine ⟨fun x hx => ?_, by rw [volL_length, hAl]; omega, fun x hx => ?_⟩
    · obtain ⟨i, hi, hlt⟩ := hget x hx
      have hp := getD_some (l := allM b d r) (d := []) (i := i) (by rw [hAl]; exact hlt)
      rw [volL_get hp] at hi
      simp only [Option.some.injEq] at hi
      rw [← hi]
      exact putB_byt (vhd_small (by omega) (by omega) (by omega) (by omega)) (hAr _ (List.mem_of_getElem? hp)).2
    · obtain ⟨i, hi, _⟩ := hget x hx
      by_cases h : x.length ≤ 65536
      · exact h
      · rw [spErr_any hL hbad hi (by omega)] at hE
        simp at hE
  · unfold spL
    rw [if_neg hE]
    exact ⟨fun x hx => by simp at hx, by simp, fun x hx => by simp at hx⟩

set_option maxRecDepth 100000 in
set_option maxHeartbeats 4000000 in
theorem VolumeSplits_walk (v : Value) (l : List Nat) (data rec : Int) (w : World) (h : Bs w v l) (hB : Byt l) (_hl : l.length ≤ maxLen) (hd1 : -9223372036854775808 ≤ data) (hd2 : data ≤ 9223372036854775807) (hr1 : -9223372036854775808 ≤ rec) (hr2 : rec ≤ 9223372036854775807) : Calls Try.prog 6 #[v, .int .i64 data, .int .i64 rec] w fun e w' => e = .returned (.bool true) ∧ Below w.heap.size w w' := by
  have H := Lib.hid h
  have HBy := Lib.hid hB
  obtain ⟨a, cap, rfl, hc, _⟩ := h
  by_cases h3 : 100 < l.length
  · have t1 : decide ((100 : Int) < (l.length : Int)) = true := by simp; omega
    have HA := Lib.hid (awake55_any w)
    clear hB h3
    go_enter Try.func6, Try.ntmps6
    go_wp2_with fail
    refine HA.out.mono ?_
    rintro e w1 ⟨rfl, hB1⟩
    have HB1 := Lib.hid hB1
    clear hB1
    go_wp2_with fail
    go_ret
    exact ⟨rfl, HB1.out⟩
  · have t1 : decide ((100 : Int) < (l.length : Int)) = false := by simp; omega
    have HL := Lib.hid (show l.length ≤ 100 by omega)
    have HD := Lib.hid (And.intro hd1 hd2)
    have HR := Lib.hid (And.intro hr1 hr2)
    clear hB h3 hd1 hd2 hr1 hr2
    go_enter Try.func6, Try.ntmps6
    go_wp2_with fail
    refine (vSplit_any _ l data rec _ H.out HBy.out (by have := HL.out; omega) HD.out.1 HD.out.2 HR.out.1 HR.out.2).mono ?_
    rintro e w1 ⟨v1, hd1, rfl, hG1, hB1⟩
    have H1 := Lib.hid (H.out.new hB1)
    have G1 := Lib.hid hG1.mx
    have B1 := Lib.hid hB1
    clear hG1 hB1 H
    go_wp2_with fail
    refine (r5Split_any _ l data rec _ H1.out HBy.out (by have := HL.out; omega) HD.out.1 HD.out.2 HR.out.1 HR.out.2).mono ?_
    rintro e w2 ⟨v2, hd2, rfl, hG2, hB2⟩
    have G12 := Lib.hid (G1.out.new hB2)
    have G2 := Lib.hid hG2.mx
    have B2 := Lib.hid (B1.out.trans (hB2.mono B1.out.size))
    have hok := spL_ok HBy.out data rec
    have Hok := Lib.hid hok
    have t2 : ((spErr l data rec : Int) == (spErr l data rec : Int)) = true := by simp
    clear hG2 hB2 H1 G1 B1 hok
    generalize spErr l data rec = er at *
    generalize spL l data rec = M at *
    go_wp2_with fail
    refine (r5Same_eq v1 v2 M _ G12.out G2.out Hok.out.1 (by have := Hok.out.2.1; omega) (fun r hr => by have := Hok.out.2.2 r hr; omega)).mono ?_
    rintro e w3 ⟨rfl, hB3⟩
    have B3 := Lib.hid (B2.out.trans (hB3.mono B2.out.size))
    have HA := Lib.hid (awake55_any w3)
    clear hB3 G12 G2 Hok B2
    go_wp2_with fail
    refine HA.out.mono ?_
    rintro e w4 ⟨rfl, hB4⟩
    have B4 := Lib.hid (B3.out.trans (hB4.mono B3.out.size))
    clear hB4 HA B3
    go_wp2_with fail
    go_ret
    exact ⟨rfl, B4.out⟩
end Go.Proofs.Ytkclmfppjhmnjaa

namespace Go.Proofs.Ytkclmfppjhmnjaa
open Go.RowKit Img Wire Vol

theorem prL_ok {l : List (List Nat)} {q : List (Int × List Nat)} (hl : BytM l) (hq : ∀ p ∈ q, Byt p.2) (d r : Int) : BytM (prL l q d r) ∧ (prL l q d r).length ≤ 64 ∧ ∀ x ∈ prL l q d r, x.length ≤ 65536 := by
  unfold prL
  split
  · exact spL_ok (imRes_byt hl hq) d r
  · exact ⟨fun x hx => by simp at hx, by simp, fun x hx => by simp at hx⟩

theorem rePg_ok {b : List Nat} (hb : Byt b) : P16 (rePg b) ∧ (rePg b).length ≤ 8192 := by
  by_cases h : reErr b = 0
  · exact (re_im hb h).2.2
  · have : rePg b = [] := by unfold rePg; rw [if_neg h]
    rw [this]
    exact ⟨fun r hr => (by cases hr), Nat.zero_le _⟩

set_option maxRecDepth 100000 in
set_option maxHeartbeats 8000000 in
theorem RepairImages_walk (vs vp : Value) (l : List (List Nat)) (q : List (Int × List Nat)) (vb : Value) (b : List Nat) (x y : Int) (w : World) (hv : Pgs w vs 16 l) (h16 : P16 l) (hBl : BytM l) (hl : l.length ≤ maxLen) (hq : Pds w vp q) (hq16 : Q16 q) (hBq : ∀ p ∈ q, Byt p.2) (hqn : q.length ≤ maxLen) (hb : Bs w vb b) (hBb : Byt b) (hbl : b.length ≤ maxLen)
    (hx1 : -9223372036854775808 ≤ x) (hx2 : x ≤ 9223372036854775807) (hy1 : -9223372036854775808 ≤ y) (hy2 : y ≤ 9223372036854775807) :
    Calls Try.prog 4 #[.agg #[vs, vp], vb, .agg #[.int .i64 x, .int .i64 y]] w fun e w' => e = .returned (.bool true) ∧ Below w.heap.size w w' := by
  have hB0 := ((Below.refl w.heap.size w).alloc (Nat.le_refl _) (.cells #[vs, vp] 25)).alloc (by simp) (.cells #[.int .i64 x, .int .i64 y] 39)
  have hbk0 := (Blk.new w 25 #[vs, vp]).alloc (.cells #[.int .i64 x, .int .i64 y] 39)
  have hbk1 : Blk ((w.alloc (.cells #[vs, vp] 25)).alloc (.cells #[.int .i64 x, .int .i64 y] 39)) (w.heap.size + 1) 39 [.int .i64 x, .int .i64 y] := by
    have h := Blk.new (w.alloc (.cells #[vs, vp] 25)) 39 #[.int .i64 x, .int .i64 y]
    rw [show (w.alloc (.cells #[vs, vp] 25)).heap.size = w.heap.size + 1 by simp] at h
    exact h
  have HV := Lib.hid (hv.new hB0)
  have HQ := Lib.hid (hq.new hB0)
  have HBb := Lib.hid (hb.new hB0)
  have HB0 := Lib.hid hB0
  have HK0 := Lib.hid hbk0
  have HK1 := Lib.hid hbk1
  have H16 := Lib.hid h16
  have HBl := Lib.hid hBl
  have Hq16 := Lib.hid hq16
  have HBq := Lib.hid hBq
  have HBy := Lib.hid hBb
  have HX := Lib.hid (And.intro hx1 hx2)
  have HY := Lib.hid (And.intro hy1 hy2)
  obtain ⟨av, cv, rfl, hcv, _⟩ := hv
  obtain ⟨aq, cq, rfl, hcq, _⟩ := hq
  obtain ⟨ab, cb, rfl, hcb, _⟩ := hb
  unfold maxLen at hl hqn hbl
  clear h16 hBl hq16 hBq hBb hB0 hbk0 hbk1 hx1 hx2 hy1 hy2
  go_enter Try.func4, Try.ntmps4
  go_upto_region 1 with (fail)
  generalize (w.alloc (.cells #[.slice av l.length cv, .slice aq q.length cq] 25)).alloc (.cells #[.int .i64 x, .int .i64 y] 39) = W0 at *
  have hk0 := HK0.out.lt
  have hk1 := HK1.out.lt
  have HF := Lib.hid (fun (W : World) (k : Below W0.heap.size W0 W) => (⟨(HK0.out.below k hk0).cell (i := 0) rfl, (HK0.out.below k hk0).cell (i := 1) rfl, (HK1.out.below k hk1).cell (i := 0) rfl, (HK1.out.below k hk1).cell (i := 1) rfl⟩ :
    W.cell? ⟨w.heap.size, 0, none⟩ = some (.slice av l.length cv) ∧ W.cell? ⟨w.heap.size, 1, none⟩ = some (.slice aq q.length cq) ∧ W.cell? ⟨w.heap.size + 1, 0, none⟩ = some (.int .i64 x) ∧ W.cell? ⟨w.heap.size + 1, 1, none⟩ = some (.int .i64 y)))
  obtain ⟨c0, c1, c2, c3⟩ := HF.out _ (Below.refl _ _)
  go_wp2_with fail
  refine (Few48_any av aq l.length q.length cv cq _ hl hqn).mono ?_
  rintro e w1 ⟨rfl, hB1⟩
  have hB1' : Below W0.heap.size W0 w1 := hB1
  clear c0 c1 c2 c3
  obtain ⟨c0, c1, c2, c3⟩ := HF.out _ hB1'
  have HB1 := Lib.hid hB1'
  have HE1 := Lib.hid (HB0.out.trans (hB1'.mono HB0.out.size))
  clear hB1 hB1'
  by_cases hf : ¬ (l.length ≤ 500 ∧ q.length ≤ 200)
  · rw [decide_eq_false hf]
    clear hf
    go_wp2_with fail
    refine (awake59_any _).mono ?_
    rintro e w2 ⟨rfl, hB2⟩
    have HB2 := Lib.hid (HE1.out.trans (hB2.mono HE1.out.size))
    clear hB2
    go_wp2_with fail
    go_ret
    exact ⟨rfl, HB2.out⟩
  have hf' := Classical.not_not.1 hf
  rw [decide_eq_true hf']
  obtain ⟨hf1, hf2⟩ := hf'
  clear hf
  by_cases hb3 : 300 < b.length
  · have t1 : decide ((300 : Int) < (b.length : Int)) = true := by simp; omega
    clear hb3
    go_wp2_with fail
    refine (awake59_any _).mono ?_
    rintro e w2 ⟨rfl, hB2⟩
    have HB2 := Lib.hid (HE1.out.trans (hB2.mono HE1.out.size))
    clear hB2
    go_wp2_with fail
    go_ret
    exact ⟨rfl, HB2.out⟩
  have t1 : decide ((300 : Int) < (b.length : Int)) = false := by simp; omega
  have hxc : (8 < x ∧ x ≤ 64) ∨ ¬ 8 < x ∨ (8 < x ∧ ¬ x ≤ 64) := by omega
  have hyc : (8 < y ∧ y ≤ 64) ∨ ¬ 8 < y ∨ (8 < y ∧ ¬ y ≤ 64) := by omega
  have HYc := Lib.hid hyc
  clear hyc
  rcases hxc with ⟨x1, x2⟩ | hxc
  · have t2 : decide ((8 : Int) < x) = true := decide_eq_true x1
    have t3 : decide (x ≤ 64) = true := decide_eq_true x2
    go_wp2_with fail
    refine (awake59_any _).mono ?_
    rintro e w2 ⟨rfl, hB2⟩
    have HB2 := Lib.hid (HE1.out.trans (hB2.mono HE1.out.size))
    clear hB2
    go_wp2_with fail
    go_ret
    exact ⟨rfl, HB2.out⟩
  have Tx : (decide ((8 : Int) < x) = false ∧ decide (x ≤ 64) = true) ∨ (decide ((8 : Int) < x) = true ∧ decide (x ≤ 64) = false) := by
    rcases hxc with h | ⟨h1, h2⟩
    · exact Or.inl ⟨decide_eq_false h, decide_eq_true (by omega)⟩
    · exact Or.inr ⟨decide_eq_true h1, decide_eq_false h2⟩
  clear hxc
  rcases Tx with ⟨t2, t3⟩ | ⟨t2, t3⟩
  all_goals
    rcases HYc.out with ⟨y1, y2⟩ | hyc
    · have t4 : decide ((8 : Int) < y) = true := decide_eq_true y1
      have t5 : decide (y ≤ 64) = true := decide_eq_true y2
      go_wp2_with fail
      refine (awake59_any _).mono ?_
      rintro e w2 ⟨rfl, hB2⟩
      have HB2 := Lib.hid (HE1.out.trans (hB2.mono HE1.out.size))
      clear hB2
      go_wp2_with fail
      go_ret
      exact ⟨rfl, HB2.out⟩
    have Ty : (decide ((8 : Int) < y) = false ∧ decide (y ≤ 64) = true) ∨ (decide ((8 : Int) < y) = true ∧ decide (y ≤ 64) = false) := by
      rcases hyc with h | ⟨h1, h2⟩
      · exact Or.inl ⟨decide_eq_false h, decide_eq_true (by omega)⟩
      · exact Or.inr ⟨decide_eq_true h1, decide_eq_false h2⟩
    clear hyc HYc
    rcases Ty with ⟨t4, t5⟩ | ⟨t4, t5⟩
    all_goals
      go_upto_region 3 with (fail)
      clear t1 t2 t3 t4 t5
      go_wp2_with fail
      refine (Image_any _ _ l q _ (HV.out.new HB1.out) H16.out (by omega) (HQ.out.new HB1.out) Hq16.out (by omega)).mono ?_
      rintro e w2 ⟨v2, rfl, hO2, hB2⟩
      have HO2 := Lib.hid hO2.bs
      have HB2 := Lib.hid (bl_th HB1.out hB2)
      clear c0 c1 c2 c3 HB1 HE1
      obtain ⟨c0, c1, c2, c3⟩ := HF.out _ HB2.out
      obtain ⟨a2, k2, rfl⟩ := hO2.form
      clear hO2 hB2
      go_wp2_with fail
      refine (r59Image_any _ _ l q _ (HV.out.new HB2.out) H16.out (by omega) (HQ.out.new HB2.out) Hq16.out (by omega)).mono ?_
      rintro e w3 ⟨v3, rfl, hO3, hB3⟩
      have HO3 := Lib.hid hO3.bs
      have HO2' := Lib.hid (HO2.out.new hB3)
      have HB3 := Lib.hid (bl_th HB2.out hB3)
      clear c0 c1 c2 c3 HB2 HO2
      obtain ⟨c0, c1, c2, c3⟩ := HF.out _ HB3.out
      obtain ⟨a3, k3, rfl⟩ := hO3.form
      have hie := imErr_le l q
      have HIb := Lib.hid (imRes_byt HBl.out HBq.out)
      have HPk := Lib.hid (prL_ok HBl.out HBq.out x y)
      clear hO3 hB3
      go_wp2_with fail
      refine (Restore_any _ b _ (HBb.out.new HB3.out) HBy.out (by omega)).mono ?_
      rintro e w4 ⟨v4, rfl, hP4, hB4⟩
      obtain ⟨z0, z1, hA4⟩ := disk_cells w4 v4 (.slice none 0 0)
      have hB34 := hB4.trans (hA4.mono hB4.size)
      have HO24 := Lib.hid (HO2'.out.new hB34)
      have HO34 := Lib.hid (HO3.out.new hB34)
      have HP4 := Lib.hid (hP4.new hA4)
      have HB4 := Lib.hid (bl_th HB3.out hB34)
      have Z0 := Lib.hid z0
      have Z1 := Lib.hid z1
      obtain ⟨a4, k4, rfl, _, _⟩ := hP4
      have hz4 : w4.heap.size < (w4.alloc (.cells #[.slice a4 (rePg b).length k4, .slice none 0 0] 25)).heap.size := by simp
      clear c0 c1 c2 c3 hB4 hB34 hA4 z0 z1 HO2' HO3 HB3
      obtain ⟨c0, c1, c2, c3⟩ := HF.out _ HB4.out
      go_wp2_with fail
      generalize w4.alloc (.cells #[.slice a4 (rePg b).length k4, .slice none 0 0] 25) = W4 at *
      refine (r59Restore_any _ b _ (HBb.out.new HB4.out) HBy.out (by omega)).mono ?_
      rintro e w5 ⟨v5, rfl, hP5, hB5⟩
      obtain ⟨z0, z1, hA5⟩ := disk_cells w5 v5 (.slice none 0 0)
      have hB45 := hB5.trans (hA5.mono hB5.size)
      have HO25 := Lib.hid (HO24.out.new hB45)
      have HO35 := Lib.hid (HO34.out.new hB45)
      have HP45 := Lib.hid (HP4.out.new hB45)
      have HP5 := Lib.hid (hP5.new hA5)
      have HB5 := Lib.hid (bl_th HB4.out hB45)
      have ZZ0 := Lib.hid (cell_new hB45 Z0.out)
      have ZZ1 := Lib.hid (cell_new hB45 Z1.out)
      have Y0 := Lib.hid z0
      have Y1 := Lib.hid z1
      obtain ⟨a5, k5, rfl, _, _⟩ := hP5
      clear c0 c1 c2 c3 hB5 hB45 hA5 z0 z1 HO24 HO34 HP4 Z0 Z1 hz4 HB4
      obtain ⟨c0, c1, c2, c3⟩ := HF.out _ HB5.out
      go_wp2_with fail
      generalize w5.alloc (.cells #[.slice a5 (rePg b).length k5, .slice none 0 0] 25) = W5 at *
      refine (Protect_any _ _ l q x y _ (HV.out.new HB5.out) H16.out HBl.out (by omega) (HQ.out.new HB5.out) Hq16.out HBq.out (by omega) HX.out.1 HX.out.2 HY.out.1 HY.out.2).mono ?_
      rintro e w6 ⟨v6, hd6, rfl, hG6, hB6⟩
      have HG6 := Lib.hid hG6.mx
      have HO26 := Lib.hid (HO25.out.new hB6)
      have HO36 := Lib.hid (HO35.out.new hB6)
      have HP46 := Lib.hid (HP45.out.new hB6)
      have HP56 := Lib.hid (HP5.out.new hB6)
      have Z06 := Lib.hid (cell_new hB6 ZZ0.out)
      have Z16 := Lib.hid (cell_new hB6 ZZ1.out)
      have Y06 := Lib.hid (cell_new hB6 Y0.out)
      have Y16 := Lib.hid (cell_new hB6 Y1.out)
      have HB6 := Lib.hid (bl_th HB5.out hB6)
      clear c0 c1 c2 c3 hG6 hB6 HO25 HO35 HP45 HP5 ZZ0 ZZ1 Y0 Y1 HB5
      obtain ⟨c0, c1, c2, c3⟩ := HF.out _ HB6.out
      go_wp2_with fail
      refine (r59Protect_any _ _ l q x y _ (HV.out.new HB6.out) H16.out HBl.out (by omega) (HQ.out.new HB6.out) Hq16.out HBq.out (by omega) HX.out.1 HX.out.2 HY.out.1 HY.out.2).mono ?_
      rintro e w7 ⟨v7, hd7, rfl, hG7, hB7⟩
      have HG7 := Lib.hid hG7.mx
      have HG67 := Lib.hid (HG6.out.new hB7)
      have HO27 := Lib.hid (HO26.out.new hB7)
      have HO37 := Lib.hid (HO36.out.new hB7)
      have HP47 := Lib.hid (HP46.out.new hB7)
      have HP57 := Lib.hid (HP56.out.new hB7)
      have z0 := cell_new hB7 Z06.out
      have z1 := cell_new hB7 Z16.out
      have y0 := cell_new hB7 Y06.out
      have y1 := cell_new hB7 Y16.out
      have HB7 := Lib.hid (bl_th HB6.out hB7)
      have t1 : ((imErr l q : Int) == (imErr l q : Int)) = true := by simp
      have t2 : ((reErr b : Int) == (reErr b : Int)) = true := by simp
      have t3 : ((prErr l q x y : Int) == (prErr l q x y : Int)) = true := by simp
      clear c0 c1 c2 c3 hG7 hB7 HG6 HO26 HO36 HP46 HP56 Z06 Z16 Y06 Y16 HB6
      generalize imErr l q = xi at *
      generalize reErr b = xr at *
      generalize prErr l q x y = xp at *
      go_wp2_with fail
      refine (bEqual_any _ _ (imRes l q) (imRes l q) _ HO27.out HO37.out HIb.out HIb.out).mono ?_
      rintro e w8 ⟨rfl, rfl⟩
      rw [decide_eq_true rfl]
      go_wp2_with fail
      refine (Same48_nil _ _ (rePg b) (rePg b) _ HP47.out HP57.out (rePg_ok HBy.out).1 (rePg_ok HBy.out).1 (by have := (rePg_ok HBy.out).2; omega)).mono ?_
      rintro e w8 ⟨rfl, hB8⟩
      rw [decide_eq_true rfl]
      have HG68 := Lib.hid (HG67.out.new hB8)
      have HG78 := Lib.hid (HG7.out.new hB8)
      have HB8 := Lib.hid (bl_th HB7.out hB8)
      clear hB8 z0 z1 y0 y1 HO27 HO37 HP47 HP57 HG67 HG7 HB7
      go_wp2_with fail
      refine (r5Same_eq _ _ (prL l q x y) _ HG68.out HG78.out HPk.out.1 (by have := HPk.out.2.1; omega) (fun r hr => by have := HPk.out.2.2 r hr; omega)).mono ?_
      rintro e w9 ⟨rfl, hB9⟩
      have HB9 := Lib.hid (bl_th HB8.out hB9)
      clear hB9 HG68 HG78 HB8
      go_wp2_with fail
      refine (awake59_any _).mono ?_
      rintro e w10 ⟨rfl, hB10⟩
      have HBe := Lib.hid (HB0.out.trans ((bl_th HB9.out hB10).mono HB0.out.size))
      clear hB10 HB9
      go_wp2_with fail
      go_ret
      exact ⟨rfl, HBe.out⟩
end Go.Proofs.Ytkclmfppjhmnjaa

namespace Go.Proofs.Ytkclmfppjhmnjaa
open Go.ChangeShapes Go.WideShapes Go.ChangeAt Go.RowKit

set_option maxRecDepth 100000 in
theorem open_pgs_cell {H : Type} {enc : TypeId × Value → H} {W : World} {fuel : Nat} {v : Value} {y : DataW H × List MemPlace} (h : DataW.trod enc Try.prog W 0 (fun _ => true) true fuel 22 [v] = some y) :
    ∃ l : List (List Nat), Pgs W v 16 l ∧ P16 l ∧ BytM l ∧ l.length ≤ maxLen := by
  have hcn : Try.prog.cellsOf 82 = 16 := by kernel_rfl
  rcases Go.Deep.open_slice Try.underlying22 h with ⟨hcs, _⟩ | ⟨a, len, cap, m, q, D, Pl, hcs, _, hl, hm, hmm, _, hi⟩
  · simp only [List.cons.injEq, and_true] at hcs
    subst hcs
    exact ⟨[], ⟨none, 0, rfl, Nat.le_refl _, Or.inl rfl⟩, fun r hr => by simp at hr, fun r hr => by simp at hr, Nat.zero_le _⟩
  · simp only [List.cons.injEq, and_true] at hcs
    subst hcs
    have hlm : len ≤ m := by rw [hmm]; split <;> omega
    have row : ∀ i : Nat, ∃ s : List Nat, i < len → s.length = 16 ∧ Byt s ∧ ∀ (j x : Nat), s[j]? = some x → W.cell? ((a.add (i * 16)).add j) = some (bv x) := by
      intro i
      by_cases hil : i < len
      · obtain ⟨cs', hc, htr⟩ := hi i (by omega)
        rw [hcn] at hc
        obtain ⟨_, hcl, hat⟩ := World.cells?_some hc
        obtain ⟨k1, k2, k3⟩ := open_arr Try.underlying82 Try.underlying5 (by kernel_rfl) hcn htr
        refine ⟨cs'.map vnat, fun _ => ⟨by simpa using k1, k2, fun j x hx => ?_⟩⟩
        have hj := (List.getElem?_eq_some_iff.1 hx).1
        rw [List.length_map, k1] at hj
        rw [hat j hj]
        rw [k3, List.getElem?_map, hx]
        rfl
      · exact ⟨[], fun h => absurd h hil⟩
    obtain ⟨f, hf⟩ := Classical.axiomOfChoice row
    have hget : ∀ (i : Nat) (r : List Nat), ((List.range len).map f)[i]? = some r → i < len ∧ r = f i := by
      intro i r hr
      have h1 := (List.getElem?_eq_some_iff.1 hr).1
      simp only [List.length_map, List.length_range] at h1
      simp [h1] at hr
      exact ⟨h1, hr.symm⟩
    refine ⟨(List.range len).map f, ⟨some a, cap, by simp, by simpa using hl, ?_⟩, ?_, ?_, by simp; omega⟩
    · by_cases h0 : len = 0
      · subst h0; exact Or.inl rfl
      · right
        have h00 := hf 0 (by omega)
        have hpl := addr_plain (h00.2.2 0 _ (List.getElem?_eq_getElem (by omega)))
        have e0 : (a.add (0 * 16)).add 0 = a := by rw [Nat.zero_mul]; unfold Addr.add; simp
        rw [e0] at hpl
        refine ⟨a.block, a.off, by obtain ⟨b, o, s⟩ := a; simp only at hpl; subst hpl; rfl, ?_⟩
        intro i r hr j x hx
        obtain ⟨h1, rfl⟩ := hget i r hr
        have := (hf i h1).2.2 j x hx
        rw [add_plain hpl, add_plain rfl] at this
        exact this
    · intro r hr
      obtain ⟨i, hi⟩ := List.mem_iff_getElem?.1 hr
      obtain ⟨h1, rfl⟩ := hget i r hi
      exact (hf i h1).1
    · intro r hr
      obtain ⟨i, hi⟩ := List.mem_iff_getElem?.1 hr
      obtain ⟨h1, rfl⟩ := hget i r hi
      exact (hf i h1).2.1

set_option maxRecDepth 100000 in
theorem open_pds_cell {H : Type} {enc : TypeId × Value → H} {W : World} {fuel : Nat} {v : Value} {y : DataW H × List MemPlace} (h : DataW.trod enc Try.prog W 0 (fun _ => true) true fuel 23 [v] = some y) :
    ∃ q : List (Int × List Nat), Pds W v q ∧ Q16 q ∧ (∀ p ∈ q, Byt p.2) ∧ q.length ≤ maxLen := by
  have hcn : Try.prog.cellsOf 96 = 17 := by kernel_rfl
  have hcp : Try.prog.cellsOf 82 = 16 := by kernel_rfl
  have hci : Try.prog.cellsOf 3 = 1 := by kernel_rfl
  rcases Go.Deep.open_slice Try.underlying23 h with ⟨hcs, _⟩ | ⟨a, len, cap, m, q, D, Pl, hcs, _, hl, hm, hmm, _, hi⟩
  · simp only [List.cons.injEq, and_true] at hcs
    subst hcs
    exact ⟨[], ⟨none, 0, rfl, Nat.le_refl _, Or.inl rfl⟩, fun r hr => by simp at hr, fun r hr => by simp at hr, Nat.zero_le _⟩
  · simp only [List.cons.injEq, and_true] at hcs
    subst hcs
    have hlm : len ≤ m := by rw [hmm]; split <;> omega
    have row : ∀ i : Nat, ∃ s : Int × List Nat, i < len → s.2.length = 16 ∧ Byt s.2 ∧ ∀ (j : Nat) (x : Value), (pdv s)[j]? = some x → W.cell? ((a.add (i * 17)).add j) = some x := by
      intro i
      by_cases hil : i < len
      · obtain ⟨cs', hc, htr⟩ := hi i (by omega)
        rw [hcn] at hc
        obtain ⟨_, hcl, hat⟩ := World.cells?_some hc
        obtain ⟨y0, y1, n', _, hlen, h0, h1⟩ := trod_struct2 Try.underlying96 htr
        rw [hcn] at hlen
        have h0' : DataW.trod enc Try.prog W 0 (fun _ => true) true n' 3 ((cs'.drop 0).take 1) = some y0 := h0
        have h1' : DataW.trod enc Try.prog W 0 (fun _ => true) true n' 82 ((cs'.drop 1).take 16) = some y1 := h1
        obtain ⟨z, hz, _, _⟩ := DataW.trod_int Try.underlying3 h0'
        obtain ⟨k1, k2, k3⟩ := open_arr Try.underlying82 Try.underlying5 (by kernel_rfl) hcp h1'
        have hcs : cs' = pdv (z, ((cs'.drop 1).take 16).map vnat) := by
          have e1 : cs' = (cs'.drop 0).take 1 ++ (cs'.drop 1).take 16 := by
            rw [List.drop_zero, List.take_of_length_le (l := cs'.drop 1) (by rw [List.length_drop]; omega), List.take_append_drop]
          unfold pdv
          simp only
          rw [← k3]
          rw [hz] at e1
          exact e1
        refine ⟨(z, ((cs'.drop 1).take 16).map vnat), fun _ => ⟨by simp only [List.length_map]; exact k1, k2, fun j x hx => ?_⟩⟩
        rw [← hcs] at hx
        have hj := (List.getElem?_eq_some_iff.1 hx).1
        rw [hat j (by omega), hx]
      · exact ⟨(0, []), fun h => absurd h hil⟩
    obtain ⟨f, hf⟩ := Classical.axiomOfChoice row
    have hget : ∀ (i : Nat) (r : Int × List Nat), ((List.range len).map f)[i]? = some r → i < len ∧ r = f i := by
      intro i r hr
      have h1 := (List.getElem?_eq_some_iff.1 hr).1
      simp only [List.length_map, List.length_range] at h1
      simp [h1] at hr
      exact ⟨h1, hr.symm⟩
    refine ⟨(List.range len).map f, ⟨some a, cap, by simp, by simpa using hl, ?_⟩, ?_, ?_, by simp; omega⟩
    · by_cases h0 : len = 0
      · subst h0; exact Or.inl rfl
      · right
        have h00 := hf 0 (by omega)
        have hpl := addr_plain (h00.2.2 0 _ rfl)
        have e0 : (a.add (0 * 17)).add 0 = a := by rw [Nat.zero_mul]; unfold Addr.add; simp
        rw [e0] at hpl
        refine ⟨a.block, a.off, by obtain ⟨b, o, s⟩ := a; simp only at hpl; subst hpl; rfl, ?_⟩
        intro i r hr j x hx
        obtain ⟨h1, rfl⟩ := hget i r hr
        have := (hf i h1).2.2 j x hx
        rw [add_plain hpl, add_plain rfl] at this
        exact this
    · intro r hr
      obtain ⟨i, hi⟩ := List.mem_iff_getElem?.1 hr
      obtain ⟨h1, rfl⟩ := hget i r hi
      exact (hf i h1).1
    · intro r hr
      obtain ⟨i, hi⟩ := List.mem_iff_getElem?.1 hr
      obtain ⟨h1, rfl⟩ := hget i r hi
      exact (hf i h1).2.1

set_option maxRecDepth 100000 in
theorem open_disk {H : Type} {enc : TypeId × Value → H} {W : World} {base : Nat} {v : Value} {d : DataW H} {p : List MemPlace} (hv : Value.okWide Try.prog W .any base 25 v) (h : DataW.Trod enc Try.prog W 0 (fun _ => true) true 25 v d p) :
    ∃ (vs vp : Value) (l : List (List Nat)) (q : List (Int × List Nat)), v = .agg #[vs, vp] ∧ (Pgs W vs 16 l ∧ P16 l ∧ BytM l ∧ l.length ≤ maxLen) ∧ (Pds W vp q ∧ Q16 q ∧ (∀ p ∈ q, Byt p.2) ∧ q.length ≤ maxLen) := by
  obtain ⟨c0, c1, y0, y1, m, rfl, rfl, rfl, hy0, hy1⟩ := Joins.open_agg2 Try.underlying25 (by kernel_rfl) (by kernel_rfl) hv h
  obtain ⟨l, hl⟩ := open_pgs_cell hy0
  obtain ⟨q, hq⟩ := open_pds_cell hy1
  exact ⟨c0, c1, l, q, rfl, hl, hq⟩
end Go.Proofs.Ytkclmfppjhmnjaa

namespace Go.Proofs.Ytkclmfppjhmnjaa
open Go.ChangeShapes Go.WideShapes Go.ChangeAt Go.RowKit

theorem open_ints {H : Type} {enc : TypeId × Value → H} {P : Program} {W : World} {base : Nat} {spare : Nat → Bool} {held : Bool} {e eb n fuel : Nat} {cs : List Value} {x : DataW H × List MemPlace} (he : P.underlying e = some (.array n eb)) (hb : P.underlying eb = some (.int .i64)) (hce : P.cellsOf eb = 1) (hcn : P.cellsOf e = n)
    (h : DataW.trod enc P W base spare held fuel e cs = some x) : cs.length = n ∧ ∀ (j : Nat) (v : Value), cs[j]? = some v → ∃ z : Int, v = .int .i64 z ∧ -9223372036854775808 ≤ z ∧ z ≤ 9223372036854775807 := by
  obtain ⟨xs, m, _, _, hl, hxl, hx⟩ := DataW.trod_array he h
  rw [hcn] at hl
  refine ⟨hl, fun j v hj => ?_⟩
  have hj1 := (List.getElem?_eq_some_iff.1 hj).1
  have h1 := hx j (by omega)
  rw [hce, Nat.mul_one, List.getElem?_eq_getElem (by omega)] at h1
  obtain ⟨z, hz, _, hw⟩ := DataW.trod_int hb h1
  rw [List.drop_eq_getElem_cons hj1] at hz
  simp only [List.take_succ_cons, List.take_zero, List.cons.injEq, and_true] at hz
  rw [List.getElem?_eq_getElem hj1, Option.some.injEq] at hj
  rw [hj] at hz
  exact ⟨z, hz, i64_bounds hw⟩

set_option maxRecDepth 100000 in
theorem open_int2 {H : Type} {enc : TypeId × Value → H} {W : World} {base : Nat} {v : Value} {d : DataW H} {p : List MemPlace} (hv : Value.okWide Try.prog W .any base 39 v) (h : DataW.Trod enc Try.prog W 0 (fun _ => true) true 39 v d p) :
    ∃ x y : Int, v = .agg #[.int .i64 x, .int .i64 y] ∧ (-9223372036854775808 ≤ x ∧ x ≤ 9223372036854775807) ∧ (-9223372036854775808 ≤ y ∧ y ≤ 9223372036854775807) := by
  have hc : ∃ cs : Array Value, v = .agg cs := by
    simp only [Value.okWide, Try.underlying39] at hv
    obtain ⟨cs, h1, _⟩ := hv
    exact ⟨cs, h1⟩
  obtain ⟨⟨l⟩, rfl⟩ := hc
  obtain ⟨fuel, hf⟩ := h
  obtain ⟨h1, h2⟩ := open_ints Try.underlying39 Try.underlying3 (by kernel_rfl) (by kernel_rfl) hf
  simp only [Value.cells] at h1 h2
  obtain ⟨a, b, rfl⟩ := list_two h1
  obtain ⟨x, rfl, hx⟩ := h2 0 a rfl
  obtain ⟨y, rfl, hy⟩ := h2 1 b rfl
  exact ⟨x, y, rfl, hx, hy⟩
end Go.Proofs.Ytkclmfppjhmnjaa

namespace Go.Proofs.Ytkclmfppjhmnjaa
open Go.ChangeShapes Go.WideShapes Go.ChangeAt Go.RowKit
open Go.ChangeMaps (open_string shut_string)
set_option linter.unusedVariables false

set_option maxRecDepth 100000 in
theorem RepairImages_lifted (os : Os) (started : os.Started) (H : Type) (enc : TypeId × Value → H) :
    ReturnsInHanded {} Try.checked os 4 .any (Rows.repairImagesSpec.pre6 enc Try.prog Try.f4 Rows.repairImagesRow.domain false) (Rows.repairImagesSpec.post enc Try.prog Try.f4 false true false false) := by
  refine returnsInHanded_of_change (C := Try.checked) ownKnobNone started (by kernel_rfl) Try.func4
    (ChangeSpec.witness6 (enc := enc) (C := Try.checked) false ⟨#[], #[.agg #[.slice none 0 0, .slice none 0 0], .slice none 0 0, .agg #[.int .i64 0, .int .i64 0]], []⟩ 8 (by kernel_rfl) (by kernel_rfl) (by kernel_rfl) (by kernel_rfl)) ?_
  intro W base args ds gs before hval0 hW hcnd _
  have hval : ∀ (j : Nat) t v, Try.f4.params[j]? = some t → args[j]? = some v → Value.okWide Try.prog W .any base t v := hval0
  have hW' := hW
  obtain ⟨p, q, hA0, hV, rfl, hfz, hnd⟩ := hW
  have hA : DataW.TrodAll enc Try.prog W 0 (fun _ => true) true Try.f4.params.toList args.toList ds p := hA0
  rw [Try.params4] at hA hval
  obtain ⟨v0, vs0, d0, ds0, p0, q0, hargs, rfl, rfl, h0, r0⟩ := trodAll_cons hA
  obtain ⟨v1, vs1, d1, ds1, p1, q1, rfl, rfl, rfl, h1, r1⟩ := trodAll_cons r0
  obtain ⟨v2, vs2, d2, ds2, p2, q2, rfl, rfl, rfl, h2, r2⟩ := trodAll_cons r1
  obtain ⟨rfl, rfl, rfl⟩ := trodAll_nil r2
  obtain rfl : args = #[v0, v1, v2] := by cases args; simp_all
  obtain ⟨rfl, rfl⟩ := trodVars_none hV
  have k0 := h0
  have lt0 : ∀ x ∈ p0, x.block < W.heap.size := by obtain ⟨m, hm⟩ := k0; exact DataW.trod_lt m _ _ _ hm
  obtain ⟨s0, t0, l0, j0, rfl, D0, E0⟩ := open_disk (hval 0 25 v0 rfl rfl) h0
  have k1 := h1
  have lt1 : ∀ x ∈ p1, x.block < W.heap.size := by obtain ⟨m, hm⟩ := k1; exact DataW.trod_lt m _ _ _ hm
  obtain ⟨m1, M1, B1, L1⟩ := open_bytes (hval 1 26 v1 rfl rfl) h1
  have k2 := h2
  have lt2 : ∀ x ∈ p2, x.block < W.heap.size := by obtain ⟨m, hm⟩ := k2; exact DataW.trod_lt m _ _ _ hm
  obtain ⟨x2, y2, rfl, b2, c2⟩ := open_int2 (hval 2 39 v2 rfl rfl) h2
  clear hA0 hval0
  refine (RepairImages_walk s0 t0 l0 j0 v1 m1 x2 y2 W D0.1 D0.2.1 D0.2.2.1 D0.2.2.2 E0.1 E0.2.1 E0.2.2.1 E0.2.2.2 M1 B1 L1 b2.1 b2.2 c2.1 c2.2).mono fun e W' ⟨he, bel⟩ => ?_
  subst he
  exact ⟨_, rfl, _, _, _, [], _, [], hW', trodAll_mk1 (shut_bool Try.underlying4 _), (trodAll_cons_mk (Below.trod laidOutYes (by kernel_rfl) (of_decide_eq_true (by kernel_rfl)) k0 bel lt0) (trodAll_cons_mk (Below.trod laidOutYes (by kernel_rfl) (of_decide_eq_true (by kernel_rfl)) k1 bel lt1) (trodAll_cons_mk (Below.trod laidOutYes (by kernel_rfl) (of_decide_eq_true (by kernel_rfl)) k2 bel lt2) trodAll_mk0))), rfl, bel.frame _, fun h => by cases h⟩

theorem repairImages_holds : Rows.RepairImagesSaid :=
  OpenClaim.holds_of_wide 4 Try.f4 rfl rfl rfl rfl rfl rfl rfl ⟨rfl, rfl, rfl, rfl, rfl⟩ rfl rfl rfl rfl rfl (by kernel_rfl) Try.func4 (by kernel_rfl)
    (of_decide_eq_true (by kernel_rfl)) (by unfold Func.isWrapper; first | (rw [if_pos (by decide +kernel)]; kernel_rfl) | (rw [if_neg (by decide +kernel)]; exact ⟨rfl, rfl⟩))
    (fun os started H enc _ => RepairImages_lifted os started H enc)
#print axioms repairImages_holds
end Go.Proofs.Ytkclmfppjhmnjaa
