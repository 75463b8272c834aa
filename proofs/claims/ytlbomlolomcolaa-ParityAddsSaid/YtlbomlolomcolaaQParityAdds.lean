/- The walk of the law ParityRecovers. -/
/- The contract of chapter 54's set. -/
/- Plain: every square part of a Cauchy matrix has full rank. No program in sight. -/
/- Plain: any d of the rows of the unit matrix and the Cauchy matrix are independent. No program in sight. -/
/- Plain: what whole computes, in terms of matrices. No program in sight. -/
/- The contracts of slices.Equal and parity.Consistent. -/
/- The contract of parity.Consistent. -/
/- Plain: sets of parts, lost parts, new parts, sums. No program in sight. -/
/- Plain: a new part of a set; sums of sets. No program in sight. -/
/- The contract of the reference's whole of chapter 54. -/
/- The contract of the function add of the law ParityAdds. -/
/- Plain: recovery parts of sums; the contract of add for all matrices of a width. -/
/- The walk of the law ParityAdds. -/
/- How more arguments of the laws are opened: byte strings, a change of a part. -/
/- For every input the law ParityAdds of the program returns true and leaves its arguments as they were: the given statement Rows.ParityAddsSaid. No condition. -/
import Derived.Test.YtlbomlolomcolaaRefP3
import Derived.Test.YtlbomlolomcolaaPar13
import Derived.Test.YtlbomlolomcolaaLawC
import Derived.Test.YtlbomlolomcolaaVm
import Derived.Test.YtlbomlolomcolaaAlg3
import Derived.Test.YtlbomlolomcolaaCau
import Derived.Test.YtlbomlolomcolaaAlg4
import Derived.Test.YtlbomlolomcolaaPar5
import Derived.Test.YtlbomlolomcolaaPar9
import Derived.Test.YtlbomlolomcolaaPar10
import Derived.Test.YtlbomlolomcolaaRefP2
import Derived.Test.YtlbomlolomcolaaRef7
import Derived.Deep.RegionHeldLaw
import Derived.Deep.AppendLies
import Derived.Deep.RegionLaw
import Derived.Deep.RegionWith
import Derived.Deep.RegionHeld3
import Derived.Deep.DeepCutAuto
import Derived.Test.YtlbomlolomcolaaOpen
import Derived.Lib.SmallJoins
import Derived.Test.YtlbomlolomcolaaRows
import Derived.WalkKit
import Derived.ProofKit
import Derived.OpenShut
import Derived.ShutString
import Derived.ChangeOld
import Derived.Below
namespace Go.Proofs.Ytlbomlolomcolaa
open Go.RowKit

theorem recRows_byt {data : List (List Nat)} {count : Int} (hB : BytM data) : BytM (recRows data count) := by
  unfold recRows
  split
  · rename_i h
    have hne : 1 ≤ data.length ∧ longB data = false ∧ badB data = false := by
      unfold recErr at h
      split at h
      · simp at h
      split at h
      · simp at h
      split at h
      · simp at h
      rename_i h1 h2 h3
      exact ⟨by omega, by simpa using h2, by simpa using h3⟩
    have hR := (badB_rect hB hne.2.2 hne.2.1 hne.1).1
    exact prodM_byt hR
  · intro r hr; simp at hr
theorem recRows_length {data : List (List Nat)} {count : Int} : (recRows data count).length ≤ 64 := by
  unfold recRows
  split
  · rename_i h
    rw [prodM_length, cauM_length]
    unfold recErr at h
    split at h
    · simp at h
    omega
  · simp
theorem recErr_le (data : List (List Nat)) (count : Int) : recErr data count ≤ 23 := by
  unfold recErr
  split
  · decide
  split
  · decide
  split <;> decide
theorem parErr_le (data : List (List Nat)) (count : Int) : parErr data count ≤ 23 := by
  unfold parErr
  split
  · decide
  split
  · decide
  split
  · decide
  split <;> decide

set_option maxRecDepth 100000 in
set_option maxHeartbeats 4000000 in
theorem ParityRecovers_walk (v : Value) (m : List (List Nat)) (count : Int) (w : World) (hm : Mx w v m) (hB : BytM m) (hl : m.length ≤ maxLen) (hL : ∀ j, j < m.length → plen m j ≤ maxLen) (hd1 : -9223372036854775808 ≤ count) (hd2 : count ≤ 9223372036854775807) :
    Calls Try.prog 4 #[v, .int .i64 count] w fun e w' => e = .returned (.bool true) ∧ Below w.heap.size w w' := by
  have HM := Lib.hid hm
  have HB := Lib.hid hB
  have HL := Lib.hid hl
  have HLr := Lib.hid hL
  obtain ⟨re, hre⟩ : ∃ re, recErr m count = re := ⟨_, rfl⟩
  obtain ⟨pe, hpe⟩ : ∃ pe, parErr m count = pe := ⟨_, rfl⟩
  have t1 : ((re : Int) == (re : Int)) = true := by simp
  have t2 : ((pe : Int) == (pe : Int)) = true := by simp
  have t3 : re ≤ 23 := by rw [← hre]; exact recErr_le _ _
  have t4 : pe ≤ 23 := by rw [← hpe]; exact parErr_le _ _
  have Hre := Lib.hid hre
  have Hpe := Lib.hid hpe
  clear hm hB hl hL hre hpe
  by_cases hF : few54 m
  · have HF := Lib.hid hF
    have hlen : m.length ≤ 100 := hF.2
    clear hF
    go_enter Try.func4, Try.ntmps4
    go_wp2_with fail
    refine (rFew54_any v m _ HL.out HM.out).mono ?_
    rintro e w1 ⟨rfl, rfl⟩
    rw [few54B_true HF.out]
    go_wp2_with fail
    refine (pRecovery_any v m count _ (by omega) HB.out HM.out hd1 hd2).mono ?_
    rintro e w1 ⟨v1, hd1', rfl, hG1, hB1⟩
    rw [Hre.out]
    have B1 := Lib.hid hB1
    have M1 := Lib.hid (HM.out.new hB1)
    have G1 := Lib.hid hG1.mx
    clear hB1 hG1
    go_wp2_with fail
    refine (rRecovery_any v m count _ (by omega) HLr.out HB.out M1.out hd1 hd2).mono ?_
    rintro e w2 ⟨v2, hd2', rfl, hG2, hB2⟩
    rw [Hre.out]
    have B2 := Lib.hid (B1.out.trans (hB2.mono B1.out.size))
    have M2 := Lib.hid (M1.out.new hB2)
    have G12 := Lib.hid (G1.out.new hB2)
    have G2 := Lib.hid hG2.mx
    clear hB2 hG2 B1 M1 G1
    go_wp2_with fail
    refine (awake54_any _).mono ?_
    rintro e w3 ⟨rfl, hB3⟩
    have B3 := Lib.hid (B2.out.trans (hB3.mono B2.out.size))
    have M3 := Lib.hid (M2.out.new hB3)
    have G13 := Lib.hid (G12.out.new hB3)
    have G23 := Lib.hid (G2.out.new hB3)
    clear hB3 B2 M2 G12 G2
    go_wp2_with fail
    refine (rSame_any v1 v2 (recRows m count) (recRows m count) _ (by have := recRows_length (data := m) (count := count); omega) (recRows_byt HB.out) (recRows_byt HB.out) G13.out G23.out).mono ?_
    rintro e w5 ⟨rfl, q, hq⟩
    rw [sameB_self]
    have hB5 : Below w3.heap.size w3 w5 := by rw [hq]; exact below_drewN (Below.refl _ _) q
    have B5 := Lib.hid (B3.out.trans (hB5.mono B3.out.size))
    have M5 := Lib.hid (M3.out.new hB5)
    clear hB5 hq B3 M3 G13 G23
    go_wp2_with fail
    refine (pCheck_any v m count _ (by omega) M5.out hd1 hd2).mono ?_
    rintro e w6 ⟨rfl, hB6⟩
    rw [Hpe.out]
    have B6 := Lib.hid (B5.out.trans (hB6.mono B5.out.size))
    have M6 := Lib.hid (M5.out.new hB6)
    clear hB6 B5 M5
    go_wp2_with fail
    refine (rCheck54_any v m count _ (by omega) HLr.out M6.out hd1 hd2).mono ?_
    rintro e w7 ⟨rfl, rfl⟩
    rw [Hpe.out]
    go_wp2_with fail
    go_ret
    exact ⟨rfl, B6.out⟩
  · have HF := Lib.hid hF
    clear hF
    go_enter Try.func4, Try.ntmps4
    go_wp2_with fail
    refine (rFew54_any v m _ HL.out HM.out).mono ?_
    rintro e w1 ⟨rfl, rfl⟩
    rw [few54B_false HF.out]
    go_wp2_with fail
    refine (awake54_any _).mono ?_
    rintro e w6 ⟨rfl, hB6⟩
    go_wp2_with fail
    go_ret
    exact ⟨rfl, hB6⟩
end Go.Proofs.Ytlbomlolomcolaa

namespace Go.Proofs.Ytlbomlolomcolaa
open Go.RowKit

theorem owns_mono {w : World} {B B' T n : Nat} {v : Value} {xs : List Value} (h : w.ownsRow B' T 1 v n xs) (hB : B ≤ B') : w.ownsRow B T 1 v n xs := by
  refine ⟨h.1, ?_⟩
  rcases h.2 with hn | ⟨g, cap, cur, hv, hb, rest⟩
  · exact .inl hn
  · exact .inr ⟨g, cap, cur, hv, by omega, rest⟩
theorem VM.mono {w : World} {B B' : Nat} {v : Value} {vs : List Value} {m : List (List Nat)} (h : VM w B' v vs m) (hB : B ≤ B') : VM w B v vs m := ⟨owns_mono h.outer hB, h.hds⟩

def SetRet (m : List (List Nat)) (w : World) (e : Ending) (w' : World) : Prop := ∃ vo vs, e = .returned (.tuple #[vo, .bool true]) ∧ VM w' w.heap.size vo vs m ∧ Below w.heap.size w w'

/-- The same, and the slice of headers is newer than the rows. -/
def SetFresh (m : List (List Nat)) (w : World) (e : Ending) (w' : World) : Prop := ∃ w1 vo vs, e = .returned (.tuple #[vo, .bool true]) ∧ HdsOk w1 vs m ∧ w'.ownsRow w1.heap.size 26 1 vo m.length vs ∧ Below w1.heap.size w1 w' ∧ Below w.heap.size w w1

theorem recErr_in {data : List (List Nat)} {n : Nat} (h : recErr data n = 0) : 1 ≤ data.length ∧ data.length + n ≤ 64 ∧ longB data = false ∧ badB data = false ∧ (recRows data n).length = n := by
  have hr : recRows data n = prodM (cauM n data.length) data := by unfold recRows; rw [if_pos h]; rfl
  unfold recErr at h
  split at h
  · simp at h
  split at h
  · simp at h
  split at h
  · simp at h
  rename_i h1 h2 h3
  exact ⟨by omega, by omega, by simpa using h2, by simpa using h3, by rw [hr, prodM_length, cauM_length]⟩

set_option maxRecDepth 100000 in
set_option maxHeartbeats 2000000 in
theorem set_fresh (v : Value) (data : List (List Nat)) (n : Nat) (w : World) (hE : recErr data n = 0) (hBy : BytM data) (hm : Mx w v data) :
    Calls Try.prog 29 #[v, .int .i64 n] w (SetFresh (data ++ recRows data n) w) := by
  obtain ⟨j0, gi, gz0, gz1, gz2⟩ := info_parts infoBytes
  obtain ⟨q1, q2, _, _, q5⟩ := recErr_in hE
  have Hm := Lib.hid hm
  have HE := Lib.hid hE
  have HBy := Lib.hid hBy
  have Hrl := Lib.hid q5
  have t1 : ((n : Int) == (n : Int)) = true := by simp
  obtain ⟨a, cap, rfl, hcap, h⟩ := hm
  obtain ⟨b, o, A, C, rfl, hM⟩ : ∃ b o A C, a = some ⟨b, o, none⟩ ∧ MxAt w b o data A C := by
    rcases h with h | h
    · rw [h] at q1; simp at q1
    · exact h
  have HM := Lib.hid hM
  clear h hM hE hBy q5
  go_enter Try.func29, Try.ntmps29
  go_wp2_with fail
  refine (pRecovery_any _ data n _ (by omega) HBy.out Hm.out (by omega) (by omega)).mono ?_
  rintro e w1 ⟨v1, hd1, rfl, hG, hB⟩
  rw [HE.out]
  have HM1 := Lib.hid (HM.out.new hB)
  have HG := Lib.hid hG.hds
  have HB := Lib.hid hB
  have hz1 := hB.size
  have hml := mvs_length data A C
  have hvl := hvs_length hG.len
  rw [Hrl.out] at hvl
  have Hml := Lib.hid hml
  have Hvl := Lib.hid hvl
  have hO := hG.outer
  rw [Hrl.out] at hO
  have Ho := Lib.hid hO
  clear hG hB hml hvl
  rcases hO.2 with ⟨rfl, hn0⟩ | ⟨g, cg, cur, rfl, k1, _, k3, k4, _⟩
  · subst hn0
    clear hO
    go_wp2_with (at_builtin; refine wpList_append_own _ rfl _ _ 39 rfl w1.heap.size 26 j0 (.slice none 0 0) 1 24 Try.underlying39 gi gz0 gz1 gz2 rfl (by decide) _ 0 [] rfl (owns_empty w1 _) ⟨b, o, none⟩ data.length cap (mvs data A C) rfl ?d0 ?d1 ?d2 ?d3 ?d4 ?d5 ?_)
    case d0 => rw [Hml.out]; simp
    case d1 => exact (HM1.out.new (al _ _)).src
    case d2 => exact HM1.out.hds.oneCell
    case d3 => unfold maxLen; omega
    case d4 => omega
    case d5 => simp
    intro v2 w2 hown hgr _
    have hown' : w2.ownsRow w1.heap.size 26 1 v2 data.length (mvs data A C) := by simpa only [Nat.zero_add, List.nil_append] using hown
    have HB2 := Lib.hid (show Below w1.heap.size w1 w2 from (al w1 _).grown hgr (by simp) (fun q hq => by simp [Value.ownBlock] at hq; omega))
    have Ho2 := Lib.hid hown'
    clear hown hown' hgr
    go_wp2_with (at_builtin; refine wpList_append_own_none rfl _ _ 39 rfl w1.heap.size 26 j0 1 Try.underlying39 gi _ _ _ rfl Ho2.out rfl ?_)
    go_wp2_with fail
    go_ret2
    have hz : recRows data (0 : Nat) = [] := List.length_eq_zero_iff.1 Hrl.out
    rw [hz, List.append_nil]
    exact ⟨w1, _, _, rfl, HM1.out.hds, Ho2.out, HB2.out, HB.out⟩
  · have Hb1 := Lib.hid (Blk.of_owns hO)
    clear hO
    go_wp2_with (at_builtin; refine wpList_append_own _ rfl _ _ 39 rfl w1.heap.size 26 j0 (.slice none 0 0) 1 24 Try.underlying39 gi gz0 gz1 gz2 rfl (by decide) _ 0 [] rfl (owns_empty w1 _) ⟨b, o, none⟩ data.length cap (mvs data A C) rfl ?d0 ?d1 ?d2 ?d3 ?d4 ?d5 ?_)
    case d0 => rw [Hml.out]; simp
    case d1 => exact (HM1.out.new (al _ _)).src
    case d2 => exact HM1.out.hds.oneCell
    case d3 => unfold maxLen; omega
    case d4 => omega
    case d5 => simp
    intro v2 w2 hown hgr _
    have hown' : w2.ownsRow w1.heap.size 26 1 v2 data.length (mvs data A C) := by simpa only [Nat.zero_add, List.nil_append] using hown
    have HB2 := Lib.hid (show Below w1.heap.size w1 w2 from (al w1 _).grown hgr (by simp) (fun q hq => by simp [Value.ownBlock] at hq; omega))
    have Ho2 := Lib.hid hown'
    have Hb2 := Lib.hid (Hb1.out.below HB2.out Hb1.out.lt)
    have hz2 := HB2.out.size
    clear hown hown' hgr
    go_wp2_with (at_builtin; refine wpList_append_own _ rfl _ _ 39 rfl w1.heap.size 26 j0 (.slice none 0 0) 1 24 Try.underlying39 gi gz0 gz1 gz2 rfl (by decide) _ _ _ rfl Ho2.out ⟨g, 0, none⟩ n cg (hvs hd1 (recRows data n)) rfl ?e0 ?e1 ?e2 ?e3 ?e4 ?e5 ?_)
    case e0 => rw [Hvl.out]; simp
    case e1 => exact Hb2.out.src
    case e2 => exact hvs_one
    case e3 => unfold maxLen; omega
    case e4 => omega
    case e5 => omega
    intro v3 w3 hown hgr _
    have HB3 := Lib.hid (show Below w1.heap.size w1 w3 from HB2.out.grown hgr (by omega) (fun q hq => (owns_block Ho2.out hq).2.1))
    have Ho3 := Lib.hid hown
    clear hown hgr
    go_wp2_with fail
    go_ret2
    exact ⟨w1, _, _, rfl, HM1.out.hds.append HG.out, by rw [List.length_append, Hrl.out]; exact Ho3.out, HB3.out, HB.out⟩

theorem set_any (v : Value) (data : List (List Nat)) (n : Nat) (w : World) (hE : recErr data n = 0) (hBy : BytM data) (hm : Mx w v data) :
    Calls Try.prog 29 #[v, .int .i64 n] w (SetRet (data ++ recRows data n) w) := by
  refine (set_fresh v data n w hE hBy hm).mono ?_
  rintro e w' ⟨w1, vo, vs, rfl, h1, h2, h3, h4⟩
  exact ⟨vo, vs, rfl, ⟨owns_mono h2 h4.size, h1.new h3⟩, h4.trans (h3.mono h4.size)⟩
end Go.Proofs.Ytlbomlolomcolaa

namespace Go.Proofs.Ytlbomlolomcolaa.Alg
open Go.Proofs.Ytlbomlolomcolaa

/-- If no combination of the rows but the empty one vanishes, the rank is full. -/
theorem full_of_indep {n : Nat} {m : List (List Nat)} (hm : Rect n m) (hl : m.length = n) (h : ∀ u : Nat → G, (∀ j, j < n → S n (fun i => gx (u i) (ent m i j)) = g0) → ∀ i, i < n → u i = g0) : (redTo m n).2 = n := by
  obtain ⟨P, B, hP, hPl, e, h1, h2, h3⟩ := inv_data hm hl
  apply Classical.byContradiction
  intro hne
  have hle := redTo_rank m n
  rw [hl] at hle
  have hn : n - 1 < n := by omega
  have hz : ∀ j, j < n → ent (redTo m n).1 (n - 1) j = g0 := fun j hj => redTo_zeros hm n (Nat.le_refl _) (n - 1) j (by omega) (by omega) hj
  have hP0 : ∀ k, k < n → ent P (n - 1) k = g0 := h (fun k => ent P (n - 1) k) fun j hj => by
    have := h3 (n - 1) j hn hj
    rw [hz j hj] at this
    exact this.symm
  have := h1 (n - 1) (n - 1) hn hn
  rw [show mul n (ent P) B (n - 1) (n - 1) = g0 from S_zero fun l hlk => by rw [hP0 l hlk, zero_gx]] at this
  unfold one at this
  rw [if_pos rfl] at this
  exact g1_ne this.symm

theorem ga_cancel (a b c : G) : ga (ga a b) (ga c b) = ga a c := by rw [ga_swap, ga_self, ga_zero]

/-- (c + a)/a + (c + b)/b = (c/b)(a + b)/a. -/
theorem frac_sum {a b c : G} (ha : a ≠ g0) (hb : b ≠ g0) : ga (gx (ga c a) (gv a)) (gx (ga c b) (gv b)) = gx (gx (gx c (gv b)) (gv a)) (ga a b) := by
  rw [ga_gx, ga_gx, gx_gv ha, gx_gv hb, ga_cancel, gx_ga, gx_assoc (gx c (gv b)), gv_gx ha, gx_one, gx_assoc (gx c (gv b)), gx_comm (gv a) b, ← gx_assoc, gx_assoc c, gv_gx hb, gx_one, ga_comm]

theorem cauchy_indep (s : Nat) : ∀ (x y u : Nat → G), (∀ i j, i < s → j < s → x i = x j → i = j) → (∀ i j, i < s → j < s → y i = y j → i = j) → (∀ i j, i < s → j < s → ga (x i) (y j) ≠ g0) →
    (∀ j, j < s → S s (fun i => gx (u i) (gv (ga (x i) (y j)))) = g0) → ∀ i, i < s → u i = g0 := by
  induction s with
  | zero => intro x y u _ _ _ _ i hi; omega
  | succ s ih =>
    intro x y u hx hy hxy h
    have key : ∀ i, i < s → u i = g0 := by
      intro i hi
      have hu := ih x y (fun i => gx (u i) (gx (ga (x s) (x i)) (gv (ga (x i) (y s))))) (fun i j hi hj => hx i j (by omega) (by omega)) (fun i j hi hj => hy i j (by omega) (by omega)) (fun i j hi hj => hxy i j (by omega) (by omega)) (fun j hj => by
        have e1 := h j (by omega)
        have e2 := h s (by omega)
        have e1' : ga (S s fun i => gx (u i) (gv (ga (x i) (y j)))) (gx (u s) (gv (ga (x s) (y j)))) = g0 := e1
        have e2' : ga (S s fun i => gx (u i) (gv (ga (x i) (y s)))) (gx (u s) (gv (ga (x s) (y s)))) = g0 := e2
        have nj := hxy s j (by omega) (by omega)
        have ns := hxy s s (by omega) (by omega)
        -- multiply
        have m1 : ga (S s fun i => gx (gx (u i) (gv (ga (x i) (y j)))) (ga (x s) (y j))) (u s) = g0 := by
          have := congrArg (fun t => gx t (ga (x s) (y j))) e1'
          simp only [zero_gx, ga_gx, S_right] at this
          rw [gx_assoc (u s), gv_gx nj, gx_one] at this
          exact this
        have m2 : ga (S s fun i => gx (gx (u i) (gv (ga (x i) (y s)))) (ga (x s) (y s))) (u s) = g0 := by
          have := congrArg (fun t => gx t (ga (x s) (y s))) e2'
          simp only [zero_gx, ga_gx, S_right] at this
          rw [gx_assoc (u s), gv_gx ns, gx_one] at this
          exact this
        have m3 : S s (fun i => ga (gx (gx (u i) (gv (ga (x i) (y j)))) (ga (x s) (y j))) (gx (gx (u i) (gv (ga (x i) (y s)))) (ga (x s) (y s)))) = g0 := by
          rw [S_ga]
          have := ga_cancel (S s fun i => gx (gx (u i) (gv (ga (x i) (y j)))) (ga (x s) (y j))) (u s) (S s fun i => gx (gx (u i) (gv (ga (x i) (y s)))) (ga (x s) (y s)))
          rw [m1, m2, ga_zero] at this
          exact this.symm
        have hjs : ga (y j) (y s) ≠ g0 := fun e => by have := hy j s (by omega) (by omega) (ga_eq_zero e); omega
        have m4 : gx (S s fun i => gx (gx (u i) (gx (ga (x s) (x i)) (gv (ga (x i) (y s))))) (gv (ga (x i) (y j)))) (ga (y j) (y s)) = g0 := by
          rw [S_right, ← m3]
          refine S_congr fun i hi => ?_
          have na := hxy i j (by omega) (by omega)
          have nb := hxy i s (by omega) (by omega)
          have f := frac_sum (a := ga (x i) (y j)) (b := ga (x i) (y s)) (c := ga (x s) (x i)) na nb
          have r1 : ga (ga (x s) (x i)) (ga (x i) (y j)) = ga (x s) (y j) := by rw [ga_assoc, ← ga_assoc (x i), ga_self, zero_ga]
          have r2 : ga (ga (x s) (x i)) (ga (x i) (y s)) = ga (x s) (y s) := by rw [ga_assoc, ← ga_assoc (x i), ga_self, zero_ga]
          have r3 : ga (ga (x i) (y j)) (ga (x i) (y s)) = ga (y j) (y s) := by rw [ga_swap, ga_self, zero_ga]
          rw [r1, r2, r3] at f
          rw [gx_assoc (u i) (gv (ga (x i) (y j))), gx_assoc (u i) (gv (ga (x i) (y s))), ← gx_ga, gx_comm (gv (ga (x i) (y j))), gx_comm (gv (ga (x i) (y s))), f]
          rw [gx_assoc (u i), gx_assoc (u i)]
        exact gx_eq_zero m4 hjs) i hi
      have n1 : gx (ga (x s) (x i)) (gv (ga (x i) (y s))) ≠ g0 := fun e => by
        have := ga_eq_zero (gx_eq_zero e (gv_ne _))
        have := hx s i (by omega) (by omega) this
        omega
      exact gx_eq_zero hu n1
    intro i hi
    by_cases his : i < s
    · exact key i his
    · have : i = s := by omega
      subst this
      have e2 := h i (by omega)
      have e2' : ga (S i fun k => gx (u k) (gv (ga (x k) (y i)))) (gx (u i) (gv (ga (x i) (y i)))) = g0 := e2
      rw [S_zero (fun k hk => by rw [key k hk, zero_gx]), zero_ga] at e2'
      exact gx_eq_zero e2' (gv_ne _)

/-- The part of the Cauchy matrix with n rows at the rows is and the columns ks. -/
def partM (n : Nat) (is ks : List Nat) : List (List Nat) := is.map fun i => ks.map fun k => Gf.gi (i ^^^ (n + k))

theorem partM_length (n : Nat) (is ks : List Nat) : (partM n is ks).length = is.length := by simp [partM]
theorem partM_rect (n : Nat) (is ks : List Nat) : Rect ks.length (partM n is ks) := by
  intro r hr
  obtain ⟨i, _, rfl⟩ := List.mem_map.1 hr
  refine ⟨by simp, fun x hx => ?_⟩
  obtain ⟨k, _, rfl⟩ := List.mem_map.1 hx
  exact Gf.gi_lt _

theorem nodup_get {l : List Nat} (h : l.Nodup) {i j : Nat} (hi : i < l.length) (hj : j < l.length) (e : l.getD i 0 = l.getD j 0) : i = j := by
  rw [List.getD_eq_getElem?_getD, List.getD_eq_getElem?_getD, List.getElem?_eq_getElem hi, List.getElem?_eq_getElem hj] at e
  simp only [Option.getD_some] at e
  have hp : List.Pairwise (· ≠ ·) l := h
  rw [List.pairwise_iff_getElem] at hp
  rcases Nat.lt_trichotomy i j with hlt | rfl | hgt
  · exact absurd e (hp i j hi hj hlt)
  · rfl
  · exact absurd e.symm (hp j i hj hi hgt)

theorem part_full {n m : Nat} {is ks : List Nat} (hn : n ≤ 64) (hm : m ≤ 64) (hl : is.length = ks.length) (hi : ∀ i ∈ is, i < n) (hk : ∀ k ∈ ks, k < m) (di : is.Nodup) (dk : ks.Nodup) : (redTo (partM n is ks) is.length).2 = is.length := by
  have hR := partM_rect n is ks
  rw [← hl] at hR
  have hi' : ∀ i, i < is.length → is.getD i 0 < n := fun i h => by
    rw [List.getD_eq_getElem?_getD, List.getElem?_eq_getElem h]; exact hi _ (List.getElem_mem h)
  have hk' : ∀ i, i < is.length → ks.getD i 0 < m := fun i h => by
    rw [List.getD_eq_getElem?_getD, List.getElem?_eq_getElem (by omega)]; exact hk _ (List.getElem_mem _)
  have he : ∀ i j, i < is.length → j < is.length → ent (partM n is ks) i j = gv (ga (tg (is.getD i 0)) (tg (n + ks.getD j 0))) := by
    intro i j h1 h2
    have b1 := hi' i h1
    have b2 := hk' j h2
    have : ((partM n is ks).getD i []).getD j 0 = Gf.gi (is.getD i 0 ^^^ (n + ks.getD j 0)) := by
      unfold partM
      rw [List.getD_eq_getElem?_getD, List.getD_eq_getElem?_getD, List.getElem?_map, List.getElem?_eq_getElem h1]
      simp only [Option.map_some, Option.getD_some, List.getElem?_map]
      rw [List.getElem?_eq_getElem (show j < ks.length by omega)]
      simp only [Option.map_some, Option.getD_some]
      rw [List.getD_eq_getElem?_getD, List.getD_eq_getElem?_getD, List.getElem?_eq_getElem h1, List.getElem?_eq_getElem (show j < ks.length by omega)]
      rfl
    unfold ent
    rw [this, tg_gi (Gf.xor_lt (by omega) (by omega)), tg_xor (by omega) (by omega)]
  refine full_of_indep hR (partM_length n is ks) fun u hu => ?_
  refine cauchy_indep is.length (fun i => tg (is.getD i 0)) (fun j => tg (n + ks.getD j 0)) u ?_ ?_ ?_ fun j hj => ?_
  · intro i j h1 h2 e
    exact nodup_get di h1 h2 (tg_inj (by have := hi' i h1; omega) (by have := hi' j h2; omega) e)
  · intro i j h1 h2 e
    have := tg_inj (by have := hk' i h1; omega) (by have := hk' j h2; omega) e
    exact nodup_get dk (by omega) (by omega) (by omega)
  · intro i j h1 h2 e
    have := tg_inj (by have := hi' i h1; omega) (by have := hk' j h2; omega) (ga_eq_zero e)
    have := hi' i h1
    omega
  · rw [← hu j hj]
    exact S_congr fun i h => by rw [he i j h hj]
end Go.Proofs.Ytlbomlolomcolaa.Alg

namespace Go.Proofs.Ytlbomlolomcolaa.Alg
open Go.Proofs.Ytlbomlolomcolaa

theorem S_add (a b : Nat) (f : Nat → G) : S (a + b) f = ga (S a f) (S b fun i => f (a + i)) := by
  induction b with
  | zero => exact (ga_zero _).symm
  | succ b ih => show ga (S (a + b) f) (f (a + b)) = ga (S a f) (ga (S b _) (f (a + b))); rw [ih, ga_assoc]

theorem nodup_le : ∀ {L A : List Nat}, L.Nodup → (∀ x ∈ L, x ∈ A) → L.length ≤ A.length
  | [], _, _, _ => Nat.zero_le _
  | x :: L, A, hn, hs => by
    have hx := hs x (by simp)
    have hn' := List.nodup_cons.1 hn
    have := nodup_le (L := L) (A := A.erase x) hn'.2 (fun y hy => (List.mem_erase_of_ne (by intro e; rw [e] at hy; exact hn'.1 hy)).2 (hs y (by simp [hy])))
    rw [List.length_erase_of_mem hx] at this
    have : 0 < A.length := List.length_pos_of_mem hx
    simp only [List.length_cons]
    omega

theorem filter_split (p : Nat → Bool) (l : List Nat) : l.length = (l.filter p).length + (l.filter fun x => !p x).length := by
  induction l with
  | nil => rfl
  | cons x l ih =>
    cases hx : p x <;> simp [hx] <;> omega

/-- Columns that are not in a short list: there are enough of them. -/
theorem free_cols (d : Nat) (A : List Nat) : ∃ K : List Nat, K.Nodup ∧ (∀ j ∈ K, j < d ∧ j ∉ A) ∧ d ≤ K.length + A.length := by
  refine ⟨(List.range d).filter fun j => decide (j ∉ A), List.Pairwise.filter _ List.nodup_range, fun j hj => ?_, ?_⟩
  · rw [List.mem_filter, List.mem_range] at hj
    exact ⟨hj.1, by simpa using hj.2⟩
  · have h1 : ((List.range d).filter fun j => decide (j ∈ A)).length ≤ A.length := nodup_le (List.Pairwise.filter _ List.nodup_range) fun x hx => by
      rw [List.mem_filter] at hx
      simpa using hx.2
    have h2 := filter_split (fun j => decide (j ∈ A)) (List.range d)
    rw [List.length_range] at h2
    have h3 : ((List.range d).filter fun j => !decide (j ∈ A)) = (List.range d).filter fun j => decide (j ∉ A) := by
      congr 1; funext j; simp
    rw [h3] at h2
    omega

theorem split_at (d : Nat) (s : Nat → Nat) (c : Nat) (hs : ∀ i j, i < j → j < d → s i < s j) : ∃ a, a ≤ d ∧ (∀ i, i < a → s i < c) ∧ ∀ i, a ≤ i → i < d → c ≤ s i := by
  induction d with
  | zero => exact ⟨0, Nat.le_refl _, fun i hi => by omega, fun i _ hi => by omega⟩
  | succ d ih =>
    obtain ⟨a, h1, h2, h3⟩ := ih fun i j hij hj => hs i j hij (by omega)
    by_cases ha : a = d
    · by_cases hd : s d < c
      · refine ⟨d + 1, Nat.le_refl _, fun i hi => ?_, fun i hi hi' => by omega⟩
        by_cases hid : i = d
        · rw [hid]; exact hd
        · exact h2 i (by omega)
      · refine ⟨d, by omega, fun i hi => h2 i (by omega), fun i hi hi' => ?_⟩
        have hid : i = d := by omega
        rw [hid]; omega
    · refine ⟨a, by omega, h2, fun i hi hi' => ?_⟩
      by_cases hid : i = d
      · have h4 := h3 a (Nat.le_refl _) (by omega)
        have h5 := hs a i (by omega) (by omega)
        omega
      · exact h3 i hi (by omega)

theorem rows_indep {d r : Nat} (hN : d + r ≤ 64) {s : Nat → Nat} (hs : ∀ i j, i < j → j < d → s i < s j) (hlt : ∀ i, i < d → s i < d + r) {M : Mt}
    (hI : ∀ i j, i < d → j < d → s i < d → M i j = if s i = j then g1 else g0) (hC : ∀ i j, i < d → j < d → d ≤ s i → M i j = gv (ga (tg (s i - d)) (tg (r + j))))
    (u : Nat → G) (hu : ∀ j, j < d → S d (fun i => gx (u i) (M i j)) = g0) : ∀ i, i < d → u i = g0 := by
  obtain ⟨a, ha, h1, h2⟩ := split_at d s d hs
  have inj : ∀ i j, i < d → j < d → s i = s j → i = j := by
    intro i j hi hj e
    rcases Nat.lt_trichotomy i j with h | h | h
    · have := hs i j h hj; omega
    · exact h
    · have := hs j i h hi; omega
  obtain ⟨K, hK1, hK2, hK3⟩ := free_cols d ((List.range a).map s)
  rw [List.length_map, List.length_range] at hK3
  have hKg : ∀ t, t < d - a → K.getD t 0 < d ∧ ∀ i, i < a → s i ≠ K.getD t 0 := by
    intro t ht
    have hm : K.getD t 0 ∈ K := by rw [List.getD_eq_getElem?_getD, List.getElem?_eq_getElem (by omega)]; exact List.getElem_mem _
    obtain ⟨q1, q2⟩ := hK2 _ hm
    exact ⟨q1, fun i hi e => q2 (List.mem_map.2 ⟨i, List.mem_range.2 hi, e⟩)⟩
  have hB : ∀ i, i < d - a → u (a + i) = g0 := by
    refine cauchy_indep (d - a) (fun i => tg (s (a + i) - d)) (fun t => tg (r + K.getD t 0)) (fun i => u (a + i)) ?_ ?_ ?_ ?_
    · intro i j hi hj e
      have b1 := hlt (a + i) (by omega)
      have b2 := hlt (a + j) (by omega)
      have b3 := h2 (a + i) (by omega) (by omega)
      have b4 := h2 (a + j) (by omega) (by omega)
      have := tg_inj (by omega) (by omega) e
      have := inj (a + i) (a + j) (by omega) (by omega) (by omega)
      omega
    · intro i j hi hj e
      have b1 := (hKg i hi).1
      have b2 := (hKg j hj).1
      have := tg_inj (by omega) (by omega) e
      exact nodup_get hK1 (by omega) (by omega) (by omega)
    · intro i j hi hj e
      have b1 := hlt (a + i) (by omega)
      have b3 := h2 (a + i) (by omega) (by omega)
      have b2 := (hKg j hj).1
      have := tg_inj (by omega) (by omega) (ga_eq_zero e)
      omega
    · intro t ht
      obtain ⟨q1, q2⟩ := hKg t ht
      have := hu (K.getD t 0) q1
      rw [show d = a + (d - a) by omega, S_add, S_zero (n := a) (fun i hi => by rw [hI i _ (by omega) (by omega) (h1 i hi), if_neg (q2 i hi), gx_zero]), zero_ga] at this
      rw [← this]
      exact S_congr fun i hi => by rw [hC (a + i) _ (by omega) q1 (h2 (a + i) (by omega) (by omega))]
  intro i hi
  by_cases hia : i < a
  · have hsi := h1 i hia
    have := hu (s i) hsi
    have e : S d (fun k => gx (u k) (M k (s i))) = S d fun k => if k = i then u k else g0 := by
      refine S_congr fun k hk => ?_
      by_cases hka : k < a
      · rw [hI k _ hk hsi (h1 k hka)]
        by_cases hki : k = i
        · rw [if_pos (by rw [hki]), if_pos hki, gx_one]
        · rw [if_neg (fun e => hki (inj k i hk hi e)), if_neg hki, gx_zero]
      · have h0 := hB (k - a) (by omega)
        rw [show a + (k - a) = k by omega] at h0
        rw [h0, zero_gx]
        split <;> rfl
    rw [e, S_one hi] at this
    exact this
  · have h0 := hB (i - a) (by omega)
    rw [show a + (i - a) = i by omega] at h0
    exact h0

theorem ent_rows {d r i j : Nat} (hN : d + r ≤ 64) (hi : i < d + r) (hj : j < d) : ent (rowsM d r) i j = if i < d then (if i = j then g1 else g0) else gv (ga (tg (i - d)) (tg (r + j))) := by
  unfold ent rowsM
  by_cases h : i < d
  · have e0 : (idM d ++ cauM r d).getD i [] = (idM d).getD i [] := by rw [List.getD_eq_getElem?_getD, List.getD_eq_getElem?_getD, List.getElem?_append_left (by rw [idM_length]; exact h)]
    rw [if_pos h, e0]
    exact ent_id h j hj
  · have e : (cauM r d)[i - d]? = some (cauRow r d (i - d)) := by unfold cauM; rw [List.getElem?_map, List.getElem?_range (by omega)]; rfl
    have e0 : (idM d ++ cauM r d).getD i [] = cauRow r d (i - d) := by rw [List.getD_eq_getElem?_getD, List.getElem?_append_right (by rw [idM_length]; omega), idM_length, e]; rfl
    rw [if_neg h, e0, List.getD_eq_getElem?_getD]
    have e2 : (cauRow r d (i - d))[j]? = some (Gf.gi ((i - d) ^^^ (r + j))) := by simp [cauRow, hj]
    rw [e2, Option.getD_some, tg_gi (Gf.xor_lt (by omega) (by omega)), tg_xor (by omega) (by omega)]

/-- Any d rows, in order, have full rank. -/
theorem sel_full {d r : Nat} (hN : d + r ≤ 64) {sel : List Nat} (hl : sel.length = d) (hs : ∀ i j, i < j → j < d → sel.getD i 0 < sel.getD j 0) (hlt : ∀ i, i < d → sel.getD i 0 < d + r) (hR : Rect d (sel.map fun i => (rowsM d r).getD i [])) : (redTo (sel.map fun i => (rowsM d r).getD i []) d).2 = d := by
  have he : ∀ i j, i < d → ent (sel.map fun i => (rowsM d r).getD i []) i j = ent (rowsM d r) (sel.getD i 0) j := by
    intro i j hi
    have e0 : (sel.map fun i => (rowsM d r).getD i []).getD i [] = (rowsM d r).getD (sel.getD i 0) [] := by
      rw [List.getD_eq_getElem?_getD, List.getElem?_map, List.getElem?_eq_getElem (by omega), Option.map_some, Option.getD_some]
      congr 1
      rw [List.getD_eq_getElem?_getD, List.getElem?_eq_getElem (by omega)]
      rfl
    unfold ent
    rw [e0]
  refine full_of_indep hR (by rw [List.length_map, hl]) fun u hu => ?_
  refine rows_indep hN hs hlt (M := ent (sel.map fun i => (rowsM d r).getD i [])) ?_ ?_ u hu
  · intro i j hi hj hsi
    rw [he i j hi, ent_rows hN (hlt i hi) hj, if_pos hsi]
  · intro i j hi hj hsi
    rw [he i j hi, ent_rows hN (hlt i hi) hj, if_neg (by omega)]
end Go.Proofs.Ytlbomlolomcolaa.Alg

namespace Go.Proofs.Ytlbomlolomcolaa
open Alg

theorem plen_out {parts : List (List Nat)} {k : Nat} (h : parts.length ≤ k) : plen parts k = 0 := by
  unfold plen; rw [List.getD_eq_getElem?_getD, List.getElem?_eq_none h]; rfl

theorem piTo_map (parts : List (List Nat)) (k : Nat) : (piTo parts k).map (·.1) = (List.range k).filter fun i => decide (1 ≤ plen parts i) := by
  induction k with
  | zero => rfl
  | succ k ih =>
    rw [List.range_succ, List.filter_append, ← ih]
    by_cases h : 1 ≤ plen parts k
    · have hk : k < parts.length := by
        by_cases hk : k < parts.length
        · exact hk
        · rw [plen_out (by omega)] at h; omega
      rw [piTo_yes ⟨hk, h⟩, List.map_append]
      simp [h]
    · rw [piTo_no h]
      simp [h]
theorem pidx_eq (parts : List (List Nat)) : pidx parts = (List.range parts.length).filter fun i => decide (1 ≤ plen parts i) := piTo_map parts parts.length

theorem pidx_mem {parts : List (List Nat)} {i : Nat} : i ∈ pidx parts ↔ i < parts.length ∧ 1 ≤ plen parts i := by
  rw [pidx_eq, List.mem_filter, List.mem_range, decide_eq_true_iff]
theorem pidx_lt (parts : List (List Nat)) : (pidx parts).Pairwise (· < ·) := by
  rw [pidx_eq]; exact List.pairwise_lt_range.filter _

theorem take_mono {l : List Nat} (h : l.Pairwise (· < ·)) {d : Nat} (hd : d ≤ l.length) : ∀ i j, i < j → j < d → (l.take d).getD i 0 < (l.take d).getD j 0 := by
  intro i j hij hj
  have h' : (l.take d).Pairwise (· < ·) := h.sublist (List.take_sublist _ _)
  have hlen : (l.take d).length = d := by rw [List.length_take]; omega
  rw [List.getD_eq_getElem?_getD, List.getD_eq_getElem?_getD, List.getElem?_eq_getElem (by omega), List.getElem?_eq_getElem (by omega)]
  exact List.pairwise_iff_getElem.1 h' i j (by omega) (by omega) hij

theorem inv_sel {parts : List (List Nat)} {d : Nat} (h1 : 1 ≤ d) (h2 : d ≤ parts.length) (h3 : parts.length ≤ 64) (hd : d ≤ (pidx parts).length) : invErr (selM parts d) = 0 := by
  have hsq := selM_sq h1 h2 h3 hd
  refine hsq.inv_zero.2 (sel_full (r := parts.length - d) (by omega) (by rw [List.length_take]; omega) (take_mono (pidx_lt parts) hd) (fun i hi => ?_) hsq.rect)
  have hm : ((pidx parts).take d).getD i 0 ∈ pidx parts := by
    refine List.mem_of_mem_take (i := d) (List.mem_of_getElem? (i := i) ?_)
    exact getD_some (by rw [List.length_take]; omega)
  have := (pidx_mem.1 hm).1
  omega

theorem wholeErr_eq {parts : List (List Nat)} {d : Nat} (h1 : 1 ≤ d) (h2 : d ≤ parts.length) (h3 : parts.length ≤ 64) : wholeErr parts d = if (pidx parts).length < d then 26 else 0 := by
  unfold wholeErr
  by_cases h : (pidx parts).length < d
  · rw [if_pos h, if_pos h]
  · rw [if_neg h, if_neg h, inv_sel h1 h2 h3 (by omega)]

theorem row0_of {c : Nat} {b : List (List Nat)} (hb : Rect c b) (h : 1 ≤ b.length) : (b.getD 0 []).length = c := (hb.get (i := 0) (by omega)).1

theorem prod_assoc {n m c : Nat} {a b e : List (List Nat)} (ha : Rect n a) (hb : Rect m b) (lb : b.length = n) (he : Rect c e) (le : e.length = m) (h1 : 1 ≤ n) (h2 : 1 ≤ m) : prodM (prodM a b) e = prodM a (prodM b e) := by
  have hab : Rect m (prodM a b) := prodM_rect hb (by omega)
  have hbe : Rect c (prodM b e) := prodM_rect he (by omega)
  have lbe : (prodM b e).length = n := by rw [prodM_length, lb]
  refine ent_ext (n := a.length) (c := c) (prodM_rect he (by omega)) (prodM_rect hbe (by omega)) (by rw [prodM_length, prodM_length]) (prodM_length _ _) fun i j hi hj => ?_
  rw [ent_prod hab he le (by rw [prodM_length]; exact hi) hj (row0_of he (by omega)), ent_prod ha hbe lbe hi hj (row0_of hbe (by omega))]
  have e1 : mul m (ent (prodM a b)) (ent e) i j = mul m (mul n (ent a) (ent b)) (ent e) i j := mul_congr (fun k hk => ent_prod ha hb lb hi hk (row0_of hb (by omega))) (fun _ _ => rfl)
  have e2 : mul n (ent a) (ent (prodM b e)) i j = mul n (ent a) (mul m (ent b) (ent e)) i j := mul_congr (fun _ _ => rfl) (fun k hk => ent_prod hb he le (by omega) hj (row0_of he (by omega)))
  rw [e1, e2, mul_assoc]

theorem prod_id {d c : Nat} {D : List (List Nat)} (hD : Rect c D) (ld : D.length = d) (h1 : 1 ≤ d) : prodM (Go.Proofs.Ytlbomlolomcolaa.idM d) D = D := by
  refine ent_ext (n := d) (c := c) (prodM_rect hD (by omega)) hD (by rw [prodM_length, idM_length]) ld fun i j hi hj => ?_
  rw [ent_prod (idM_rect d) hD ld (by rw [idM_length]; exact hi) hj (row0_of hD (by omega))]
  rw [mul_congr (fun k hk => ent_id hi k hk) (fun _ _ => rfl), one_mul hi]

/-- The set of d data parts. -/
def setM (d r : Nat) (D : List (List Nat)) : List (List Nat) := prodM (rowsM d r) D
theorem setM_length (d r : Nat) (D : List (List Nat)) : (setM d r D).length = d + r := by unfold setM; rw [prodM_length, rowsM_length]
theorem setM_rect {d r c : Nat} {D : List (List Nat)} (hD : Rect c D) (ld : D.length = d) (h1 : 1 ≤ d) : Rect c (setM d r D) := prodM_rect hD (by omega)

theorem getD_prod {a b : List (List Nat)} {i : Nat} (h : i < a.length) : (prodM a b).getD i [] = prTo (a.getD i []) b (b.getD 0 []).length b.length := by
  rw [List.getD_eq_getElem?_getD, prodM_get (getD_some (d := []) h)]; rfl

/-- Enough parts of a set: the whole set. -/
theorem whole_set {parts D : List (List Nat)} {d r c : Nat} (hD : Rect c D) (ld : D.length = d) (h1 : 1 ≤ d) (h2 : d + r ≤ 64) (hl : parts.length = d + r) (hp : ∀ i, i < d + r → 1 ≤ plen parts i → parts.getD i [] = (setM d r D).getD i []) (hd : d ≤ (pidx parts).length) : wholeM parts d = setM d r D := by
  have hr : parts.length - d = r := by omega
  have hsq := selM_sq h1 (by omega) (by omega) hd
  have hi0 := inv_sel h1 (by omega) (by omega) hd
  have e1 : selP parts d = prodM (selM parts d) D := by
    unfold selP selM prodM
    rw [List.map_map]
    refine List.map_congr_left fun i hi => ?_
    have hm := pidx_mem.1 (List.mem_of_mem_take hi)
    rw [hp i (by omega) hm.2]
    unfold setM
    rw [getD_prod (by rw [rowsM_length]; omega), ← hr]
    rfl
  have hx := (hsq.inv hi0).1
  unfold wholeM
  rw [e1, ← prod_assoc hx.rect hsq.rect hsq.len hD ld h1 h1, hsq.inv_left hi0, prod_id hD ld h1, hr]
  rfl
end Go.Proofs.Ytlbomlolomcolaa

namespace Go.Proofs.Ytlbomlolomcolaa
open Go.RowKit Go.Shelf

set_option maxRecDepth 100000 in
set_option maxHeartbeats 2000000 in
theorem Equal_any (b o n cap b' o' n' cap' : Nat) (l l' : List Nat) (w : World) (hl : l.length = n) (hl' : l'.length = n') (hn : n ≤ 1000000000) (hn' : n' ≤ 1000000000) (hr : RowAt w b o l) (hr' : RowAt w b' o' l') (hB : Byt l) (hB' : Byt l') :
    Calls Try.prog 62 #[.slice (some ⟨b, o, none⟩) n cap, .slice (some ⟨b', o', none⟩) n' cap'] w fun e w' => e = .returned (.bool (decide (l = l'))) ∧ Below w.heap.size w w' := by
  have Hl := Lib.hid hl
  have Hl' := Lib.hid hl'
  have Hr := Lib.hid hr
  have Hr' := Lib.hid hr'
  have HB := Lib.hid hB
  have HB' := Lib.hid hB'
  by_cases hne : n = n'
  · subst hne
    have tn : ((n : Int) != (n : Int)) = false := by simp
    clear hl hl' hr hr' hB hB'
    go_enter Try.func62, Try.ntmps62
    go_wp2_with fail
    go_loopg [13] n (fun gk i wr => ∃ k : Nat, k + gk = n ∧ i = .int .i64 k ∧ Hid (∀ j, j < k → l.getD j 0 = l'.getD j 0) ∧ Hid (Below w.heap.size w wr))
    case atStart => exact ⟨0, by omega, rfl, fun j hj => by omega, Below.refl _ _⟩
    case round =>
      obtain ⟨k, hgk, rfl, hag, hbl⟩ := hrel
      have Hgk := Lib.hid hgk
      have hk : k ≤ n := by omega
      clear hgk
      by_cases hlt : k < n
      · have c1 := (Hr.out.new hbl.out) k _ (getD_some (d := 0) (by rw [Hl.out]; exact hlt))
        have c2 := (Hr'.out.new hbl.out) k _ (getD_some (d := 0) (by rw [Hl'.out]; exact hlt))
        unfold bv at c1 c2
        have b1 := HB.out.getD k
        have b2 := HB'.out.getD k
        have i1 : (0 : Int) ≤ (k : Int) := by omega
        have i2 : (k : Int) < (n : Int) := by omega
        have Hbl := Lib.hid hbl.out
        by_cases he : l.getD k 0 = l'.getD k 0
        · have hs : Hid (∀ j, j < k + 1 → l.getD j 0 = l'.getD j 0) := by
            intro j hj
            by_cases hjk : j = k
            · rw [hjk]; exact he
            · exact hag.out j (by omega)
          have te : ((l.getD k 0 : Int) != (l'.getD k 0 : Int)) = false := by rw [bne_eq_false_iff_eq]; omega
          generalize l.getD k 0 = x at *
          generalize l'.getD k 0 = y at *
          clear he hag hbl
          go_wp2_with fail
          go_quiet (fail)
          go_wp2_with fail
          go_roundg (n - k - 1)
          case measure => have := Hgk.out; omega
          case rel => exact ⟨k + 1, by have := Hgk.out; omega, by go_num, hs.out, below_drewN Hbl.out _⟩
        · have hr := Lib.hid (show decide (l = l') = false from decide_eq_false fun e => he (by rw [e]))
          have te : ((l.getD k 0 : Int) != (l'.getD k 0 : Int)) = true := by rw [bne_iff_ne]; omega
          generalize l.getD k 0 = x at *
          generalize l'.getD k 0 = y at *
          clear he hag hbl
          go_wp2_with fail
          go_quiet (fail)
          go_wp2_with fail
          go_ret
          exact ⟨by rw [hr.out]; rfl, below_drewN Hbl.out _⟩
      · have hr := Lib.hid (show decide (l = l') = true from decide_eq_true (by
          apply List.ext_getElem?
          intro j
          by_cases hj : j < n
          · have := hag.out j (by omega)
            rw [getD_some (l := l) (d := 0) (by rw [Hl.out]; exact hj), getD_some (l := l') (d := 0) (by rw [Hl'.out]; exact hj), this]
          · rw [List.getElem?_eq_none (by rw [Hl.out]; omega), List.getElem?_eq_none (by rw [Hl'.out]; omega)]))
        have Hbl := Lib.hid hbl.out
        clear hag hbl
        go_wp2_with fail
        go_ret
        exact ⟨by rw [hr.out]; rfl, Hbl.out⟩
  · have tn : ((n : Int) != (n' : Int)) = true := by rw [bne_iff_ne]; omega
    have hr := Lib.hid (show decide (l = l') = false from decide_eq_false fun e => hne (by rw [← Hl.out, ← Hl'.out, e]))
    clear hl hl' hr' hB hB' hne
    go_enter Try.func62, Try.ntmps62
    go_wp2_with fail
    go_ret
    exact ⟨by rw [hr.out]; rfl, Below.refl _ _⟩
end Go.Proofs.Ytlbomlolomcolaa

namespace Go.Proofs.Ytlbomlolomcolaa
open Go.RowKit Go.Shelf

attribute [local go_sem] Oper.semAt_some

/-- Are the parts, those that are not lost, the rows of another list? -/
def conB (parts out : List (List Nat)) : Bool := (List.range parts.length).all fun i => decide (1 ≤ plen parts i → parts.getD i [] = out.getD i [])
def conRes (parts : List (List Nat)) (data : Int) : Bool := decide (wErr parts data = 0) && conB parts (wRows parts data)
def BoolErr (b : Bool) (e : Nat) (w : World) : Ending → World → Prop := fun x w' => x = .returned (.tuple #[.bool b, .int .i64 e]) ∧ Below w.heap.size w w'

theorem conB_no {parts out : List (List Nat)} {i : Nat} (h1 : i < parts.length) (h2 : 1 ≤ plen parts i) (h : parts.getD i [] ≠ out.getD i []) : conB parts out = false := by
  unfold conB
  rw [List.all_eq_false]
  exact ⟨i, List.mem_range.2 h1, by simpa [h2] using h⟩
theorem conB_yes {parts out : List (List Nat)} (h : ∀ i, i < parts.length → 1 ≤ plen parts i → parts.getD i [] = out.getD i []) : conB parts out = true := by
  unfold conB
  rw [List.all_eq_true]
  exact fun i hi => decide_eq_true (h i (List.mem_range.1 hi))

/-- What holds between two rounds of Consistent's loop. -/
structure CoI (parts : List (List Nat)) (w W1 : World) (z bo B6 n co : Nat) (out : List (List Nat)) (pre : List (PI parts)) (W : World) : Prop where
  ok : ∀ x ∈ pre, parts.getD x.1 [] = out.getD x.1 []
  K : Below w.heap.size w W
  sz : W1.heap.size ≤ W.heap.size
  k4 : Blk W w.heap.size 4 [.bool false]
  k5 : Blk W (w.heap.size + 1) 29 [.int .i64 0]
  k6 : Blk W B6 39 [.slice (some ⟨bo, 0, none⟩) n co]
  om : ∃ hd, OM W z bo hd out
structure CoX (parts : List (List Nat)) (w : World) (out : List (List Nat)) (c : Code) (_ : List (PI parts)) (W : World) : Prop where
  c : c = .ret
  no : conB parts out = false
  K : Below w.heap.size w W
  k4 : Blk W w.heap.size 4 [.bool false]
  k5 : Blk W (w.heap.size + 1) 29 [.int .i64 0]

theorem CoI.own (parts : List (List Nat)) (w W1 : World) (z bo B6 n co : Nat) (out : List (List Nat)) (hw : w.heap.size ≤ W1.heap.size) : OwnFrom W1.heap.size (CoI parts w W1 z bo B6 n co out) := by
  rintro s W W' row ⟨h0, h1, h2, h4, h5, h6, hd, h7⟩ hg hr
  have hr' : ∀ r, row = some r → ∃ o : Obj, W.heap[r]? = some o ∧ o.isCells = false := fun r e => (hr r e).2
  exact ⟨h0, h1.grown hg (by omega) fun k e => by have := (hr k e).1; omega, by have := hg.size; omega, h4.kept (Kept.of_grown hg) (blk_turn h4 hg hr'), h5.kept (Kept.of_grown hg) (blk_turn h5 hg hr'), h6.kept (Kept.of_grown hg) (blk_turn h6 hg hr'), hd, h7.turn hg hr'⟩
theorem CoX.own (parts : List (List Nat)) (w W1 : World) (out : List (List Nat)) (hw : w.heap.size ≤ W1.heap.size) (c : Code) : OwnFrom W1.heap.size (CoX parts w out c) := by
  rintro s W W' row ⟨h0, h1, h2, h4, h5⟩ hg hr
  have hr' : ∀ r, row = some r → ∃ o : Obj, W.heap[r]? = some o ∧ o.isCells = false := fun r e => (hr r e).2
  exact ⟨h0, h1, h2.grown hg (by have := h2.size; omega) fun k e => by have := (hr k e).1; omega, h4.kept (Kept.of_grown hg) (blk_turn h4 hg hr'), h5.kept (Kept.of_grown hg) (blk_turn h5 hg hr')⟩

theorem CoI.step {parts : List (List Nat)} {w W1 : World} {z bo B6 n co : Nat} {out : List (List Nat)} {pre : List (PI parts)} {W W' : World} (h : CoI parts w W1 z bo B6 n co out pre W) (x : PI parts) (he : parts.getD x.1 [] = out.getD x.1 []) (hB : Below W.heap.size W W') : CoI parts w W1 z bo B6 n co out (pre ++ [x]) W' := by
  obtain ⟨h0, h1, h2, h4, h5, h6, hd, h7⟩ := h
  have hz := h1.size
  have hs := hB.size
  refine ⟨fun y hy => ?_, h1.trans (hB.mono hz), by omega, h4.below hB h4.lt, h5.below hB h5.lt, h6.below hB h6.lt, hd, h7.new hB⟩
  rcases List.mem_append.1 hy with hy | hy
  · exact h0 y hy
  · rw [List.mem_singleton.1 hy]; exact he

theorem wRows_ok {parts : List (List Nat)} {data : Int} (hE : wErr parts data = 0) (hBy : BytM parts) (hlo : longB parts = false) (hmi : misB parts = false) : BytM (wRows parts data) ∧ ∀ i, i < (wRows parts data).length → ((wRows parts data).getD i []).length ≤ 1000000000 := by
  obtain ⟨_, hP⟩ := wRows_length hE
  obtain ⟨q1, q2, q3, q4⟩ := parErr_in hP
  have hW : wholeErr parts data.toNat = 0 := by unfold wErr at hE; rw [if_pos hP] at hE; exact hE
  have hd : data.toNat ≤ (pidx parts).length := by
    unfold wholeErr at hW
    by_cases h : (pidx parts).length < data.toNat
    · rw [if_pos h] at hW; simp at hW
    · omega
  have e : wRows parts data = wholeM parts data.toNat := by unfold wRows wholeRows; rw [if_pos hP, if_pos hW]
  have hne : pidx parts ≠ [] := by intro h; rw [h] at hd; simp at hd; omega
  obtain ⟨x, hx⟩ : ∃ x, x ∈ piTo parts parts.length := by
    have : piTo parts parts.length ≠ [] := by intro h; apply hne; unfold pidx; rw [h]; rfl
    exact List.exists_mem_of_ne_nil _ this
  have hR := selP_rect (d := data.toNat) hBy hmi (x := x)
  have hsl : (selP parts data.toNat).length = data.toNat := by unfold selP; rw [List.length_map, List.length_take]; omega
  have hsq := selM_sq (d := data.toNat) (by omega) (by omega) q4 hd
  have hiv : invErr (selM parts data.toNat) = 0 := by unfold wholeErr at hW; rw [if_neg (by omega)] at hW; exact hW
  have hi := (hsq.inv hiv).1
  have hR2 : Rect (plen parts x.1) (wholeM parts data.toNat) := prodM_rect (prodM_rect hR (by omega)) (by rw [prodM_length, hi.len]; omega)
  rw [e]
  exact ⟨fun r hr => (hR2 r hr).2, fun i hi => by rw [(hR2.get hi).1]; have := long_le hlo x.2.1; omega⟩

set_option maxRecDepth 100000 in
set_option maxHeartbeats 8000000 in
theorem pConsistent_in (b o cap : Nat) (data : Int) (parts out : List (List Nat)) (A : Nat → Option Addr) (C : Nat → Nat) (w : World) (hM : MxAt w b o parts A C) (hm : Mx w (.slice (some ⟨b, o, none⟩) parts.length cap) parts) (hBy : BytM parts) (hByO : BytM out) (hE : wErr parts data = 0) (hR : wRows parts data = out) (hol : out.length = parts.length) (h1 : 1 ≤ parts.length) (h2 : parts.length ≤ 64) (hlong : longB parts = false) (hd1 : -9223372036854775808 ≤ data) (hd2 : data ≤ 9223372036854775807) (hol2 : ∀ i, i < out.length → (out.getD i []).length ≤ 1000000000) :
    Calls Try.prog 33 #[.slice (some ⟨b, o, none⟩) parts.length cap, .int .i64 data] w (BoolErr (conB parts out) 0 w) := by
  have HM := Lib.hid hM
  have Hm := Lib.hid hm
  have HBy := Lib.hid hBy
  have HByO := Lib.hid hByO
  have HE := Lib.hid hE
  have HR := Lib.hid hR
  have Hol := Lib.hid hol
  have Hol2 := Lib.hid hol2
  have Hlong := Lib.hid hlong
  have hbw : b < w.heap.size := World.block_lt_of_cell? w _ (hM 0 _ (getD_some (d := []) (by omega))).1
  clear hM hm hBy hE hR hol hlong hByO hol2
  refine (callsIn_wide (n := 3)).1 ?_
  refine callsIn_of_wp_marks Try.func33 rfl trivial ?_ rfl
  simp only [Try.ntmps33, List.size_toArray, List.length_cons, List.length_nil, Nat.reduceAdd, Nat.reduceSub, Array.replicate_succ, Array.replicate_zero, List.push_toArray, List.append_toArray, List.nil_append, List.cons_append]
  gi_wp2_with fail
  have QA := Lib.hid ((Blk.new w 4 #[.bool false]).alloc (.cells #[.int .i64 0] 29))
  have QB := Lib.hid (Blk.new (w.alloc (.cells #[.bool false] 4)) 29 #[.int .i64 0])
  have HB0 := Lib.hid (((Below.refl w.heap.size w).alloc (Nat.le_refl _) (.cells #[.bool false] 4)).alloc (by simp) (.cells #[.int .i64 0] 29))
  have s1 : (w.alloc (.cells #[.bool false] 4)).heap.size = w.heap.size + 1 := by simp
  have s2 : ((w.alloc (.cells #[.bool false] 4)).alloc (.cells #[.int .i64 0] 29)).heap.size = w.heap.size + 1 + 1 := by simp
  rw [s1] at QB
  obtain ⟨W0, hW0⟩ : ∃ W0, (w.alloc (.cells #[.bool false] 4)).alloc (.cells #[.int .i64 0] 29) = W0 := ⟨_, rfl⟩
  rw [hW0] at QA HB0 s2 ⊢
  rw [hW0] at QB
  clear hW0 s1
  have Hm0 := Lib.hid (Hm.out.new HB0.out)
  refine ⟨trivial, ?_⟩
  refine (callsIn_wide.2 (whole_any _ parts data _ (by omega) HBy.out Hm0.out hd1 hd2)).mono ?_
  rintro e w2 ⟨vo, hd, rfl, hG, hB2⟩
  rw [HE.out]
  rw [HR.out] at hG
  obtain ⟨bo, co, hvo, hco, _, hO⟩ := hG.done (by intro h; have := Hol.out; rw [h] at this; simp at this; omega)
  rw [Hol.out] at hvo hco
  subst hvo
  have HO := Lib.hid hO
  have HB2 := Lib.hid hB2
  have hz2 := hB2.size
  clear hG hO hB2
  gi_wp2_with fail
  refine ⟨trivial, ?_⟩
  refine (present_in Fence.wide _ trivial rfl _ _ _ _).mono ?_
  rintro e w1 ⟨rfl, rfl⟩
  gi_wp2_with fail
  have Q6 := Lib.hid ((Blk.new w2 39 #[.slice (some ⟨bo, 0, none⟩) parts.length co]).alloc (.cells #[.slice (some ⟨b, o, none⟩) parts.length cap] 39))
  have QP := Lib.hid (Blk.new (w2.alloc (.cells #[.slice (some ⟨bo, 0, none⟩) parts.length co] 39)) 39 #[.slice (some ⟨b, o, none⟩) parts.length cap])
  have HB21 := Lib.hid (((Below.refl w2.heap.size w2).alloc (Nat.le_refl _) (.cells #[.slice (some ⟨bo, 0, none⟩) parts.length co] 39)).alloc (by simp) (.cells #[.slice (some ⟨b, o, none⟩) parts.length cap] 39))
  have s1 : (w2.alloc (.cells #[.slice (some ⟨bo, 0, none⟩) parts.length co] 39)).heap.size = w2.heap.size + 1 := by simp
  have s3 : ((w2.alloc (.cells #[.slice (some ⟨bo, 0, none⟩) parts.length co] 39)).alloc (.cells #[.slice (some ⟨b, o, none⟩) parts.length cap] 39)).heap.size = w2.heap.size + 1 + 1 := by simp
  rw [s1] at QP
  obtain ⟨W1, hW1⟩ : ∃ W1, (w2.alloc (.cells #[.slice (some ⟨bo, 0, none⟩) parts.length co] 39)).alloc (.cells #[.slice (some ⟨b, o, none⟩) parts.length cap] 39) = W1 := ⟨_, rfl⟩
  rw [hW1] at Q6 QP HB21 s3 ⊢
  clear hW1 s1
  have HB01 := Lib.hid (HB2.out.trans (HB21.out.mono hz2))
  have HB1 := Lib.hid (HB0.out.trans (HB01.out.mono (by omega)))
  have HO1 := Lib.hid (HO.out.new HB21.out)
  have Q4 := Lib.hid (QA.out.below HB01.out QA.out.lt)
  have Q5 := Lib.hid (QB.out.below HB01.out QB.out.lt)
  refine wpIn_rangeFunc_ownG rfl (by decide) (gf := 80) (lb := #[.pointer (some ⟨w2.heap.size + 1, 0, none⟩)]) rfl trivial (enters_of Try.func80 (by kernel_rfl) rfl)
    (present_stops Fence.wide _ trivial rfl (by decide) (w2.heap.size + 1) w.heap.size b o cap parts A C (by omega) W1 (by omega) hbw (QP.out.cell rfl) (HM.out.new HB1.out)) belowK_t (belowK_b (by omega)) (Below.refl _ _) (fun _ => rfl)
    (CoI parts w W1 W0.heap.size bo w2.heap.size parts.length co out) (CoX parts w out)
    (CoI.own _ _ _ _ _ _ _ _ _ (by omega)) (CoX.own _ _ _ _ (by omega)) ⟨by simp, HB1.out, Nat.le_refl _, Q4.out, Q5.out, Q6.out, _, HO1.out⟩
    (fun x => { tmps := #[.slice (some ⟨b, o, none⟩) parts.length cap, .int .i64 data, undef, undef, .pointer (some ⟨w.heap.size, 0, none⟩), .pointer (some ⟨w.heap.size + 1, 0, none⟩), .pointer (some ⟨w2.heap.size, 0, none⟩), .int .i64 0, .int .i64 (x.1 : Nat), .slice (A x.1) (plen parts x.1) (C x.1), .tuple #[.slice (some ⟨bo, 0, none⟩) parts.length co, .int .i64 0], .slice (some ⟨b, o, none⟩) parts.length cap, .int .i64 data, .tuple #[.slice (some ⟨bo, 0, none⟩) parts.length co, .int .i64 0], .slice (some ⟨bo, 0, none⟩) parts.length co, .int .i64 0, .int .i64 0, .bool false, undef, .slice (some ⟨b, o, none⟩) parts.length cap, .func (.func 80) #[] #[.pointer (some ⟨w2.heap.size + 1, 0, none⟩)], .int .i64 (x.1 : Nat), .slice (A x.1) (plen parts x.1) (C x.1), undef, undef, undef, undef, undef, undef, undef], defers := [] }) ?assign ?body ?done ?stop
  case assign =>
    intro l x W K hK
    unfold pEnc
    gi_wp2
    exact hK
  case body =>
    rintro l pre ⟨i, hi1, hi2⟩ W ⟨hok, hBW, hsz, h4, h5, h6, hdW, hOW⟩ _
    dsimp only
    have hpl := long_le Hlong.out hi1
    have hMW := (HM.out.new hBW) i _ (getD_some (d := []) hi1)
    obtain ⟨b', o', hA, hrow⟩ : ∃ b' o', A i = some ⟨b', o', none⟩ ∧ RowAt W b' o' (parts.getD i []) := by
      rcases hMW.2.2.1 with h0 | h
      · unfold plen at hi2; rw [h0] at hi2; simp at hi2
      · exact h
    have c4 := h4.cell (i := 0) rfl
    have f4 := h4.frozen 0
    have c5 := h5.cell (i := 0) rfl
    have f5 := h5.frozen 0
    have c6 := h6.cell (i := 0) rfl
    have l4 := h4.lt
    have l5 := h5.lt
    have l6 := h6.lt
    have hbo := hOW.outer.lt
    have hio : i < out.length := by rw [Hol.out]; exact hi1
    obtain ⟨q, hq⟩ : ∃ q, hdW[i]? = some q := ⟨hdW.getD i (0, 0), getD_some (by rw [hOW.len]; exact hio)⟩
    have cb := hOW.outer.cell (hvs_get hq (getD_some (d := []) hio))
    have hqr := (hOW.rows i q _ hq (getD_some (d := []) hio)).1.row
    have HI := Lib.hid (show CoI parts w W1 W0.heap.size bo w2.heap.size parts.length co out pre W from ⟨hok, hBW, hsz, h4, h5, h6, hdW, hOW⟩)
    have Hqr := Lib.hid hqr
    have HBW := Lib.hid hBW
    have Hrow := Lib.hid hrow
    have hzw := hBW.size
    have hb1 := Lib.hid (HBy.out _ (List.mem_of_getElem? (getD_some (d := []) hi1)))
    have hb2 := Lib.hid (HByO.out _ (List.mem_of_getElem? (getD_some (d := []) hio)))
    have hl2 := Hol2.out i hio
    rw [hA]
    unfold hv at cb
    obtain ⟨orow, horow⟩ : ∃ r, out.getD i [] = r := ⟨_, rfl⟩
    rw [horow] at cb Hqr hb2 hl2
    have Horow := Lib.hid horow
    clear hMW hA hrow hOW hBW h4 h5 h6 hq hqr hok horow
    gi_wp2
    refine ⟨trivial, ?_⟩
    refine (CallsIn.inRound l (callsIn_wide.2 (Equal_any b' o' (plen parts i) (C i) q.1 0 orow.length q.2 (parts.getD i []) orow _ rfl rfl (by omega) (by omega) (by exact Hrow.out) (by exact Hqr.out) hb1.out hb2.out))).mono ?_
    rintro e W3 ⟨rfl, hB3⟩
    have HB3 := Lib.hid hB3
    have d4 := (HB3.out.cell (p := ⟨w.heap.size, 0, none⟩) l4).trans c4
    have e4 := (HB3.out.frozen (p := ⟨w.heap.size, 0, none⟩) l4).trans f4
    have d5 := (HB3.out.cell (p := ⟨w.heap.size + 1, 0, none⟩) l5).trans c5
    have e5 := (HB3.out.frozen (p := ⟨w.heap.size + 1, 0, none⟩) l5).trans f5
    clear hB3
    by_cases he : parts.getD i [] = orow
    · rw [decide_eq_true he]
      have Hst := Lib.hid (HI.out.step ⟨i, hi1, hi2⟩ (he.trans Horow.out.symm) HB3.out)
      have hK := Lib.hid (keepsFrom_of (B := W1.heap.size) (Kept.of_new (S := fun _ => False) HB3.out) (fun k e => e.elim))
      clear he
      gi_wp2
      exact ⟨hK.out, HB3.out.mono hzw, Hst.out⟩
    · rw [decide_eq_false he]
      have hno := Lib.hid (conB_no (out := out) hi1 hi2 (by rw [Horow.out]; exact he))
      have k4 := Lib.hid (((HI.out.k4.below HB3.out HI.out.k4.lt).setCell (i := 0) (by simp) (.bool false)).setCell_other (p := ⟨w.heap.size + 1, 0, none⟩) (by simp) (.int .i64 0))
      have k5 := Lib.hid (((HI.out.k5.below HB3.out HI.out.k5.lt).setCell_other (p := ⟨w.heap.size, 0, none⟩) (by simp) (.bool false)).setCell (i := 0) (by simp) (.int .i64 0))
      have hK := Lib.hid (keepsFrom_of (B := W1.heap.size) (((Kept.of_new (S := fun k => k = w.heap.size ∨ k = w.heap.size + 1) HB3.out).setCell (p := ⟨w.heap.size, 0, none⟩) (fun _ => Or.inl rfl) (.bool false)).setCell (p := ⟨w.heap.size + 1, 0, none⟩) (fun _ => Or.inr rfl) (.int .i64 0)) (fun k e => by rcases e with e | e <;> subst e; exact ⟨_, _, HI.out.k4⟩; exact ⟨_, _, HI.out.k5⟩))
      have hB := Lib.hid (((HBW.out.trans (HB3.out.mono hzw)).setCell (p := ⟨w.heap.size, 0, none⟩) (Nat.le_refl _) (.bool false)).setCell (p := ⟨w.heap.size + 1, 0, none⟩) (by simp) (.int .i64 0))
      clear he
      gi_wp2
      exact ⟨hK.out, rfl, hno.out, hB.out, k4.out, k5.out⟩
  case done =>
    rintro D ys W hD rfl ⟨hok, hBW, hsz, h4, h5, h6, hdW, hOW⟩ hK
    have c4 := h4.cell (i := 0) rfl
    have f4 := h4.frozen 0
    have c5 := h5.cell (i := 0) rfl
    have f5 := h5.frozen 0
    have hyes := Lib.hid (conB_yes (piTo_all (P := fun i => parts.getD i [] = out.getD i []) parts.length (Nat.le_refl _) hok))
    have k4 := Lib.hid ((h4.setCell (i := 0) (by simp) (.bool true)).setCell_other (p := ⟨w.heap.size + 1, 0, none⟩) (by simp) (.int .i64 0))
    have k5 := Lib.hid ((h5.setCell_other (p := ⟨w.heap.size, 0, none⟩) (by simp) (.bool true)).setCell (i := 0) (by simp) (.int .i64 0))
    have HBW := Lib.hid hBW
    have HK := Lib.hid hK
    clear hok hBW h4 h5 h6 hOW hK
    gi_wp2_with fail
    have hK' := (KeepsOthers.setCell _ ⟨w.heap.size + 1, 0, none⟩ (.int .i64 0)).same D _ ((KeepsOthers.setCell W ⟨w.heap.size, 0, none⟩ (.bool true)).same D _ HK.out rfl) rfl
    refine ⟨by simp, .inl ⟨_, _, rfl, run_takeDeferred hK', ?_⟩⟩
    have hr' : ∀ r, some D = some r → ∃ o : Obj, ((W.setCell ⟨w.heap.size, 0, none⟩ (.bool true)).setCell ⟨w.heap.size + 1, 0, none⟩ (.int .i64 0)).heap[r]? = some o ∧ o.isCells = false := fun r e => by cases e; exact ⟨_, hK', rfl⟩
    have x4 := cell_kept (k4.out.cell (i := 0) rfl) (grownBy_putObj' _ D (.deferred none)) hr'
    have x5 := cell_kept (k5.out.cell (i := 0) rfl) (grownBy_putObj' _ D (.deferred none)) hr'
    refine ⟨.tuple #[.bool true, .int .i64 0], ?_, by rw [hyes.out]; rfl, ((HBW.out.setCell (p := ⟨w.heap.size, 0, none⟩) (Nat.le_refl _) _).setCell (p := ⟨w.heap.size + 1, 0, none⟩) (by simp) _).trans (belowK_b (w := w) (Nat.le_refl _) _ D _ _ (by omega) hK' rfl rfl)⟩
    simp [results, Try.f33, go_sem, x4, x5]
  case stop =>
    rintro D c pre W hD _ ⟨rfl, hno, hBW, h4, h5⟩ hK
    have Hno := Lib.hid hno
    have H4 := Lib.hid h4
    have H5 := Lib.hid h5
    have HBW := Lib.hid hBW
    have HK := Lib.hid hK
    clear hno hBW h4 h5 hK
    gi_wp2_with fail
    refine ⟨by simp, .inl ⟨_, _, rfl, run_takeDeferred HK.out, ?_⟩⟩
    have hr' : ∀ r, some D = some r → ∃ o : Obj, W.heap[r]? = some o ∧ o.isCells = false := fun r e => by cases e; exact ⟨_, HK.out, rfl⟩
    have x4 := cell_kept (H4.out.cell (i := 0) rfl) (grownBy_putObj' _ D (.deferred none)) hr'
    have x5 := cell_kept (H5.out.cell (i := 0) rfl) (grownBy_putObj' _ D (.deferred none)) hr'
    refine ⟨.tuple #[.bool false, .int .i64 0], ?_, by rw [Hno.out]; rfl, HBW.out.trans (belowK_b (w := w) (Nat.le_refl _) W D _ _ (by omega) HK.out rfl rfl)⟩
    simp [results, Try.f33, go_sem, x4, x5]

set_option maxRecDepth 100000 in
set_option maxHeartbeats 2000000 in
theorem pConsistent_any (v : Value) (parts : List (List Nat)) (data : Int) (w : World) (hn : parts.length ≤ 1000000000) (hBy : BytM parts) (hm : Mx w v parts) (hd1 : -9223372036854775808 ≤ data) (hd2 : data ≤ 9223372036854775807) :
    Calls Try.prog 33 #[v, .int .i64 data] w (BoolErr (conRes parts data) (wErr parts data) w) := by
  by_cases hE : wErr parts data = 0
  · obtain ⟨hl, hP⟩ := wRows_length hE
    obtain ⟨q1, q2, q3, q4⟩ := parErr_in hP
    have hP' := hP
    have hlo : longB parts = false := by
      unfold parErr at hP
      split at hP
      · simp at hP
      split at hP
      · simp at hP
      split at hP
      · simp at hP
      rename_i h
      simpa using h
    have hmi : misB parts = false := by
      unfold parErr at hP
      split at hP
      · simp at hP
      split at hP
      · simp at hP
      split at hP
      · simp at hP
      split at hP
      · simp at hP
      rename_i h
      simpa using h
    have e2 : conRes parts data = conB parts (wRows parts data) := by unfold conRes; rw [decide_eq_true hE]; rfl
    obtain ⟨o1, o2⟩ := wRows_ok hE hBy hlo hmi
    rw [hE, e2]
    have hm' := hm
    obtain ⟨a, cap, rfl, hcap, h⟩ := hm
    rcases h with h | ⟨b, o, A, C, rfl, hM⟩
    · rw [h] at q3; simp at q3
    exact pConsistent_in b o cap data parts _ A C w hM hm' hBy o1 hE rfl hl q3 q4 hlo hd1 hd2 o2
  · have e2 : conRes parts data = false := by unfold conRes; rw [decide_eq_false hE]; rfl
    rw [e2]
    have Hm := Lib.hid hm
    have HBy := Lib.hid hBy
    obtain ⟨pe, hpe⟩ : ∃ pe, wErr parts data = pe := ⟨_, rfl⟩
    have tP : ((pe : Int) != 0) = true := by rw [bne_iff_ne]; rw [hpe] at hE; omega
    have Hpe := Lib.hid hpe
    obtain ⟨a, cap, rfl, hcap, h⟩ := hm
    clear hE e2 hpe h hBy
    refine (callsIn_wide (n := 3)).1 ?_
    refine callsIn_of_wp_marks Try.func33 rfl trivial ?_ rfl
    simp only [Try.ntmps33, List.size_toArray, List.length_cons, List.length_nil, Nat.reduceAdd, Nat.reduceSub, Array.replicate_succ, Array.replicate_zero, List.push_toArray, List.append_toArray, List.nil_append, List.cons_append]
    gi_wp2_with fail
    have QA := Lib.hid ((Blk.new w 4 #[.bool false]).alloc (.cells #[.int .i64 0] 29))
    have QB := Lib.hid (Blk.new (w.alloc (.cells #[.bool false] 4)) 29 #[.int .i64 0])
    have HB0 := Lib.hid (((Below.refl w.heap.size w).alloc (Nat.le_refl _) (.cells #[.bool false] 4)).alloc (by simp) (.cells #[.int .i64 0] 29))
    have s1 : (w.alloc (.cells #[.bool false] 4)).heap.size = w.heap.size + 1 := by simp
    have s2 : ((w.alloc (.cells #[.bool false] 4)).alloc (.cells #[.int .i64 0] 29)).heap.size = w.heap.size + 1 + 1 := by simp
    rw [s1] at QB
    obtain ⟨W0, hW0⟩ : ∃ W0, (w.alloc (.cells #[.bool false] 4)).alloc (.cells #[.int .i64 0] 29) = W0 := ⟨_, rfl⟩
    rw [hW0] at QA HB0 s2 ⊢
    rw [hW0] at QB
    clear hW0 s1
    refine ⟨trivial, ?_⟩
    refine (callsIn_wide.2 (whole_any _ parts data _ (by omega) HBy.out (Hm.out.new HB0.out) hd1 hd2)).mono ?_
    rintro e w2 ⟨vo, hd, rfl, hG, hB2⟩
    obtain ⟨ao, no, co, hvo⟩ : ∃ a n c, vo = .slice a n c := by obtain ⟨a, c, h⟩ := owns_slice hG.outer; exact ⟨a, _, c, h⟩
    subst hvo
    rw [Hpe.out]
    have HB2 := Lib.hid hB2
    have q4 := Lib.hid ((QA.out.below HB2.out QA.out.lt).alloc (.cells #[.slice ao no co] 39))
    have q5 := Lib.hid ((QB.out.below HB2.out QB.out.lt).alloc (.cells #[.slice ao no co] 39))
    have k4 := Lib.hid ((q4.out.setCell (i := 0) (by simp) (.bool false)).setCell_other (p := ⟨w.heap.size + 1, 0, none⟩) (by simp) (.int .i64 pe))
    have k5 := Lib.hid ((q5.out.setCell_other (p := ⟨w.heap.size, 0, none⟩) (by simp) (.bool false)).setCell (i := 0) (by simp) (.int .i64 pe))
    have hz2 := hB2.size
    have hBf := Lib.hid ((((HB0.out.trans (HB2.out.mono (by omega))).alloc (by omega) (.cells #[.slice ao no co] 39)).setCell (p := ⟨w.heap.size, 0, none⟩) (Nat.le_refl _) (.bool false)).setCell (p := ⟨w.heap.size + 1, 0, none⟩) (by simp) (.int .i64 pe))
    clear hB2 hG
    have c4 := q4.out.cell (i := 0) rfl
    have f4 := q4.out.frozen 0
    have c5 := q5.out.cell (i := 0) rfl
    have f5 := q5.out.frozen 0
    gi_wp2_with fail
    have x4 := k4.out.cell (i := 0) rfl
    have x5 := k5.out.cell (i := 0) rfl
    refine ⟨.tuple #[.bool false, .int .i64 pe], ?_, by rw [Hpe.out], hBf.out⟩
    simp [results, Try.f33, go_sem, x4, x5]
end Go.Proofs.Ytlbomlolomcolaa

namespace Go.Proofs.Ytlbomlolomcolaa
open Alg

theorem plen_of {m : List (List Nat)} {c : Nat} (h : Rect c m) {i : Nat} (hi : i < m.length) : plen m i = c := (h.get hi).1
theorem rect_byt {m : List (List Nat)} {c : Nat} (h : Rect c m) : BytM m := fun r hr => (h r hr).2

theorem recErr_ok {D : List (List Nat)} {c n : Nat} (h : Rect c D) (h1 : 1 ≤ c) (h2 : c ≤ 65536) (hd : 1 ≤ D.length) (hn : D.length + n ≤ 64) : recErr D n = 0 := by
  have hl : longB D = false := by
    unfold longB; rw [List.any_eq_false]
    intro i hi
    rw [plen_of h (List.mem_range.1 hi)]
    simp; omega
  have hb : badB D = false := by
    unfold badB; rw [List.any_eq_false]
    intro i hi
    rw [plen_of h (List.mem_range.1 hi), plen_of h (by omega)]
    simp; omega
  unfold recErr
  rw [if_neg (by omega), hl, hb]
  rfl
theorem recRows_ok {D : List (List Nat)} {n : Nat} (h : recErr D n = 0) : recRows D n = prodM (cauM n D.length) D := by unfold recRows; rw [if_pos h]; rfl
/-- Data parts and their recovery parts: the set. -/
theorem set_eq {D : List (List Nat)} {c n : Nat} (h : Rect c D) (hd : 1 ≤ D.length) (hE : recErr D n = 0) : D ++ recRows D n = setM D.length n D := by
  rw [recRows_ok hE]
  unfold setM rowsM prodM
  rw [List.map_append]
  have := prod_id h rfl hd
  unfold prodM at this
  rw [this]

theorem parErr_set {P : List (List Nat)} {d c : Nat} (hl : P.length ≤ 64) (h1 : 1 ≤ d) (h2 : d ≤ P.length) (hc : c ≤ 65536) (hp : ∀ i, i < P.length → plen P i = 0 ∨ plen P i = c) : parErr P d = 0 := by
  have hl' : longB P = false := by
    unfold longB; rw [List.any_eq_false]
    intro i hi
    rcases hp i (List.mem_range.1 hi) with h | h <;> rw [h] <;> simp <;> omega
  have hm : misB P = false := misB_no (L := c) fun i hi h => by rcases hp i hi with h' | h' <;> omega
  unfold parErr
  rw [if_neg (by omega), if_neg (by omega), hl', hm]
  rfl

/-- Some parts are lost. -/
def loseTo {α : Type} (z : α) (m : List α) (f : Nat → Bool) : Nat → List α
  | 0 => m
  | k + 1 => if f k then (loseTo z m f k).set k z else loseTo z m f k
def lostN (f : Nat → Bool) : Nat → Nat
  | 0 => 0
  | k + 1 => if f k then lostN f k + 1 else lostN f k
theorem lostN_le (f : Nat → Bool) (k : Nat) : lostN f k ≤ k := by
  induction k with
  | zero => exact Nat.le_refl _
  | succ k ih => unfold lostN; split <;> omega
theorem loseTo_length {α : Type} (z : α) (m : List α) (f : Nat → Bool) (k : Nat) : (loseTo z m f k).length = m.length := by
  induction k with
  | zero => rfl
  | succ k ih => unfold loseTo; split <;> simp [ih]
theorem loseTo_get {α : Type} (z : α) (m : List α) (f : Nat → Bool) (k i : Nat) (hi : i < m.length) (d : α) : (loseTo z m f k).getD i d = if i < k ∧ f i = true then z else m.getD i d := by
  induction k with
  | zero => rw [if_neg (by omega)]; rfl
  | succ k ih =>
    unfold loseTo
    by_cases hf : f k = true
    · rw [if_pos hf, List.getD_eq_getElem?_getD, List.getElem?_set]
      by_cases hik : k = i
      · subst hik
        rw [if_pos rfl, if_pos (by rw [loseTo_length]; exact hi), if_pos ⟨by omega, hf⟩]; rfl
      · rw [if_neg hik, ← List.getD_eq_getElem?_getD, ih]
        have : (i < k ∧ f i = true) ↔ (i < k + 1 ∧ f i = true) := ⟨fun h => ⟨by omega, h.2⟩, fun h => ⟨by omega, h.2⟩⟩
        simp only [this]
    · rw [if_neg hf, ih]
      by_cases hik : i = k
      · subst hik; simp [hf]
      · have : (i < k ∧ f i = true) ↔ (i < k + 1 ∧ f i = true) := ⟨fun h => ⟨by omega, h.2⟩, fun h => ⟨by omega, h.2⟩⟩
        simp only [this]

theorem over_same {P S : List (List Nat)} (h : ∀ i, i < P.length → 1 ≤ plen P i → P.getD i [] = S.getD i []) : overM P S = S := by
  have key : ∀ l : List (PI P), overTo P S l = S := by
    intro l
    induction l with
    | nil => rfl
    | cons x l ih =>
      show overTo P (S.set x.1 (P.getD x.1 [])) l = S
      rw [h x.1 x.2.1 x.2.2]
      have : S.set x.1 (S.getD x.1 []) = S := by
        apply List.ext_getElem?
        intro j
        rw [List.getElem?_set]
        by_cases hj : x.1 = j
        · subst hj
          rw [if_pos rfl]
          split
          · rename_i hl; rw [getD_some (d := []) hl]
          · rename_i hl; rw [List.getElem?_eq_none (by omega)]
        · rw [if_neg hj]
      rw [this, ih]
  exact key _

theorem pres_count (P : List (List Nat)) (f : Nat → Bool) (k : Nat) (h : ∀ i, i < k → (1 ≤ plen P i ↔ f i = false)) : ((List.range k).filter fun i => decide (1 ≤ plen P i)).length + lostN f k = k := by
  induction k with
  | zero => rfl
  | succ k ih =>
    have := ih fun i hi => h i (by omega)
    rw [List.range_succ, List.filter_append, List.length_append]
    unfold lostN
    cases hf : f k with
    | true =>
      have hn : ¬ 1 ≤ plen P k := fun hp => by have := (h k (by omega)).1 hp; rw [hf] at this; exact absurd this (by decide)
      simp [hn] at this ⊢; omega
    | false =>
      have hn : 1 ≤ plen P k := (h k (by omega)).2 hf
      simp [hn] at this ⊢; omega

/-- Lost parts of a set: repaired if there are enough. -/
theorem lose_ok {D : List (List Nat)} {d r c : Nat} (hD : Rect c D) (ld : D.length = d) (h1 : 1 ≤ d) (h2 : d + r ≤ 64) (hc1 : 1 ≤ c) (hc2 : c ≤ 65536) (f : Nat → Bool) :
    BytM (loseTo [] (setM d r D) f (d + r)) ∧ repErr (loseTo [] (setM d r D) f (d + r)) d = (if r < lostN f (d + r) then 26 else 0) ∧ repRows (loseTo [] (setM d r D) f (d + r)) d = (if r < lostN f (d + r) then [] else setM d r D) := by
  have hS := setM_rect (r := r) hD ld h1
  have hSl := setM_length d r D
  obtain ⟨P, hP⟩ : ∃ P, loseTo [] (setM d r D) f (d + r) = P := ⟨_, rfl⟩
  have hPl : P.length = d + r := by rw [← hP, loseTo_length, hSl]
  have hPg : ∀ i, i < d + r → P.getD i [] = if f i = true then [] else (setM d r D).getD i [] := by
    intro i hi
    rw [← hP, loseTo_get _ _ _ _ _ (by rw [hSl]; exact hi)]
    by_cases hf : f i = true
    · rw [if_pos ⟨hi, hf⟩, if_pos hf]
    · rw [if_neg (fun h => hf h.2), if_neg hf]
  have hPp : ∀ i, i < d + r → plen P i = if f i = true then 0 else c := by
    intro i hi
    unfold plen
    rw [hPg i hi]
    split
    · rfl
    · exact (hS.get (by rw [hSl]; exact hi)).1
  have hPf : ∀ i, i < d + r → (1 ≤ plen P i ↔ f i = false) := by
    intro i hi
    rw [hPp i hi]
    cases hf : f i <;> simp <;> omega
  have hPb : BytM P := by
    intro x hx
    obtain ⟨i, hi⟩ := List.mem_iff_getElem?.1 hx
    have hl := (List.getElem?_eq_some_iff.1 hi).1
    have hg : P.getD i [] = x := by rw [List.getD_eq_getElem?_getD, hi]; rfl
    rw [← hg, hPg i (by omega)]
    split
    · intro y hy; simp at hy
    · exact (hS.get (by rw [hSl]; omega)).2
  have hE : parErr P d = 0 := parErr_set (c := c) (by omega) h1 (by omega) hc2 fun i hi => by
    rw [hPp i (by omega)]; split
    · exact Or.inl rfl
    · exact Or.inr rfl
  have hcount : (pidx P).length + lostN f (d + r) = d + r := by
    rw [pidx_eq, hPl]; exact pres_count P f (d + r) hPf
  rw [hP]
  have hw : wErr P d = if r < lostN f (d + r) then 26 else 0 := by
    unfold wErr
    rw [if_pos hE]
    show wholeErr P (d : Int).toNat = _
    rw [Int.toNat_natCast, wholeErr_eq h1 (by omega) (by omega)]
    by_cases h : r < lostN f (d + r)
    · rw [if_pos h, if_pos (by omega)]
    · rw [if_neg h, if_neg (by omega)]
  refine ⟨hPb, hw, ?_⟩
  unfold repRows
  rw [hw]
  by_cases h : r < lostN f (d + r)
  · rw [if_pos h, if_neg (by decide), if_pos h]
  · rw [if_neg h, if_pos rfl, if_neg h]
    have hd : d ≤ (pidx P).length := by omega
    have e : wRows P d = setM d r D := by
      unfold wRows
      rw [if_pos hE]
      unfold wholeRows
      rw [Int.toNat_natCast, wholeErr_eq h1 (by omega) (by omega), if_neg (show ¬ (pidx P).length < d by omega), if_pos rfl]
      refine whole_set hD ld h1 h2 hPl (fun i hi hp => ?_) hd
      rw [hPg i hi, if_neg]
      rw [(hPf i hi).1 hp]; decide
    rw [e]
    refine over_same fun i hi hp => ?_
    rw [hPg i (by omega), if_neg]
    rw [(hPf i (by omega)).1 hp]; decide

theorem ptM_rect {l : List Nat} {n k : Nat} (hB : Byt l) (hk : k * n ≤ l.length) : Rect n (ptM l n k) := by
  intro x hx
  unfold ptM at hx
  obtain ⟨i, hi, rfl⟩ := List.mem_map.1 hx
  have hi := List.mem_range.1 hi
  refine ⟨?_, fun y hy => hB y (List.mem_of_mem_drop (List.mem_of_mem_take hy))⟩
  rw [List.length_take, List.length_drop]
  have : (i + 1) * n ≤ k * n := Nat.mul_le_mul_right n hi
  rw [Nat.add_mul] at this
  omega
theorem ptN_mul (l : List Nat) (n : Nat) : ptN l n * n ≤ l.length := by
  unfold ptN
  exact Nat.le_trans (Nat.mul_le_mul_right n (Nat.min_le_right _ _)) (Nat.div_mul_le_self _ _)
theorem ptN_le (l : List Nat) (n : Nat) : ptN l n ≤ 8 := Nat.min_le_left _ _
end Go.Proofs.Ytlbomlolomcolaa

namespace Go.Proofs.Ytlbomlolomcolaa
open Alg

theorem set_rect {D : List (List Nat)} {c k : Nat} {p : List Nat} (hD : Rect c D) (hp : p.length = c) (hb : Byt p) : Rect c (D.set k p) := by
  intro x hx
  rcases List.mem_or_eq_of_mem_set hx with h | h
  · exact hD x h
  · rw [h]; exact ⟨hp, hb⟩
theorem ent_setRow {D : List (List Nat)} {k : Nat} {p : List Nat} (hk : k < D.length) (i j : Nat) : ent (D.set k p) i j = if i = k then tg (p.getD j 0) else ent D i j := by
  unfold ent
  rw [getD_set hk]
  split <;> rfl

theorem getD_left {α : Type} {a b : List α} {i : Nat} {d : α} (h : i < a.length) : (a ++ b).getD i d = a.getD i d := by
  rw [List.getD_eq_getElem?_getD, List.getElem?_append_left h, ← List.getD_eq_getElem?_getD]

theorem ent_set {D : List (List Nat)} {d r c i j : Nat} (hD : Rect c D) (ld : D.length = d) (h1 : 1 ≤ d) (hi : i < d + r) (hj : j < c) : ent (setM d r D) i j = S d fun k => gx (ent (rowsM d r) i k) (ent D k j) := by
  unfold setM
  exact ent_prod (rowsM_rect d r) hD ld (by rw [rowsM_length]; exact hi) hj (row0_of hD (by omega))

/-- A part is replaced: the set with the new part. -/
theorem upd_set {D : List (List Nat)} {d r c t : Nat} {p : List Nat} (hD : Rect c D) (ld : D.length = d) (h1 : 1 ≤ d) (h2 : d + r ≤ 64) (hc1 : 1 ≤ c) (hc2 : c ≤ 65536) (ht : t < d) (hp : p.length = c) (hb : Byt p) :
    updErr (setM d r D) d t p = 0 ∧ updRows (setM d r D) d t p = setM d r (D.set t p) := by
  have hS := setM_rect (r := r) hD ld h1
  have hSl := setM_length d r D
  have hP : parErr (setM d r D) d = 0 := parErr_set (c := c) (by omega) h1 (by omega) hc2 fun i hi => Or.inr (plen_of hS hi)
  have hlo : lostB (setM d r D) = false := by
    unfold lostB; rw [List.any_eq_false]
    intro i hi
    rw [plen_of hS (List.mem_range.1 hi)]
    simp; omega
  have hE : updErr (setM d r D) d t p = 0 := by
    unfold updErr
    rw [if_pos hP, hlo, if_neg (by decide), if_neg (by omega), if_neg (by rw [plen_of hS (by omega)]; omega)]
  refine ⟨hE, ?_⟩
  have hD' : Rect c (D.set t p) := set_rect hD hp hb
  have ld' : (D.set t p).length = d := by simpa using ld
  have hSt : (setM d r D).getD t [] = D.getD t [] := by
    have hEr : recErr D r = 0 := recErr_ok hD hc1 hc2 (by omega) (by omega)
    have := set_eq (n := r) hD (by omega) hEr
    rw [ld] at this
    rw [← this]
    exact getD_left (by omega)
  unfold updRows
  rw [if_pos hE]
  show updM _ (d : Int).toNat (t : Int).toNat p = _
  rw [Int.toNat_natCast, Int.toNat_natCast]
  have hrow : ∀ i, i < d + r → (updM (setM d r D) d t p).getD i [] = updRow (setM d r D) d t p i := by
    intro i hi
    unfold updM
    rw [List.getD_eq_getElem?_getD, List.getElem?_map, List.getElem?_range (by omega)]; rfl
  have hDt := hD.get (i := t) (by omega)
  have hch : (addMul 1 p (D.getD t [])).length = c := by rw [addMul_length, hp, hDt.1]; exact Nat.min_self _
  have hru : ∀ i, i < d + r → (updRow (setM d r D) d t p i).length = c ∧ Byt (updRow (setM d r D) d t p i) := by
    intro i hi
    have hSi := hS.get (i := i) (by omega)
    unfold updRow
    rw [hSt]
    exact ⟨by rw [addMul_length, hSi.1, hch]; exact Nat.min_self _, addMul_byt hSi.2⟩
  have hU : Rect c (updM (setM d r D) d t p) := by
    intro x hx
    unfold updM at hx
    obtain ⟨i, hi, rfl⟩ := List.mem_map.1 hx
    exact hru i (by have := List.mem_range.1 hi; omega)
  refine ent_ext (n := d + r) hU (setM_rect hD' ld' h1) (by rw [updM_length, hSl]) (setM_length _ _ _) fun i j hi hj => ?_
  rw [ent_set hD' ld' h1 hi hj]
  have hSi := hS.get (i := i) (by omega)
  have e1 : ent (updM (setM d r D) d t p) i j = ga (ent (setM d r D) i j) (gx (ent (rowsM d r) i t) (ga (tg (p.getD j 0)) (ent D t j))) := by
    have hRi := (rowsM_rect d r).get (i := i) (by rw [rowsM_length]; exact hi)
    show tg (((updM (setM d r D) d t p).getD i []).getD j 0) = _
    rw [hrow i hi]
    unfold updRow
    rw [hSt, hSl, Nat.add_sub_cancel_left, addMul_getD (by rw [hSi.1, hch]) (by omega), addMul_getD (by rw [hp, hDt.1]) (by omega)]
    rw [tg_xor (hSi.2.getD j) (Gf.gm_lt _ _), tg_gm (hRi.2.getD t) (Gf.xor_lt (hb.getD j) (Gf.gm_lt _ _)), tg_xor (hb.getD j) (Gf.gm_lt _ _), Gf.one_gm (hDt.2.getD j)]
    rfl
  rw [e1, ent_set hD ld h1 hi hj]
  have e2 : (S d fun k => gx (ent (rowsM d r) i k) (ent (D.set t p) k j)) = S d fun k => ga (gx (ent (rowsM d r) i k) (ent D k j)) (if k = t then gx (ent (rowsM d r) i k) (ga (tg (p.getD j 0)) (ent D k j)) else g0) := by
    refine S_congr fun k hk => ?_
    rw [ent_setRow (by omega)]
    by_cases hkt : k = t
    · rw [if_pos hkt, if_pos hkt, ← gx_ga, ga_comm (tg _), ← ga_assoc, ga_self, zero_ga]
    · rw [if_neg hkt, if_neg hkt, ga_zero]
  rw [e2, S_ga, S_one ht]
end Go.Proofs.Ytlbomlolomcolaa

namespace Go.Proofs.Ytlbomlolomcolaa
open Go.RowKit

/-- What holds between two rounds of whole's loop. -/
structure WR (parts : List (List Nat)) (W1 : World) (rh ph : Nat → Value) (vS vB : Value) (pre : List (PI parts)) (W : World) : Prop where
  K : Below W1.heap.size W1 W
  oS : W.ownsRow W1.heap.size 26 1 vS pre.length (pre.map fun x => rh x.1)
  oB : W.ownsRow W1.heap.size 26 1 vB pre.length (pre.map fun x => ph x.1)
  ne : ∀ g, vS.ownBlock = some g → vB.ownBlock = some g → False

def Kp (u : Value) (W0 W : World) : Prop := Kept (fun k => u.ownBlock = some k) W0 W
theorem Kp.drew0 (u : Value) (W : World) : Kp u W { W with drawn := W.drawn + 1 } := ⟨rfl, rfl, rfl, Nat.le_refl _, fun _ _ _ => rfl⟩
theorem Kp.al {u : Value} {W0 W : World} (h : Kp u W0 W) (o : Obj) : Kp u W0 (W.alloc o) := Kept.alloc h o
theorem Kp.g {u : Value} {W0 W W' : World} (h : Kp u W0 W) (hg : W.grownBy W' u.ownBlock) : Kp u W0 W' := Kept.then h (Kept.of_grown hg) fun _ _ e => e.symm
def Kq (u v : Value) (W0 W : World) : Prop := Kept (fun k => u.ownBlock = some k ∨ v.ownBlock = some k) W0 W
theorem Kq.drew0 (u v : Value) (W : World) : Kq u v W { W with drawn := W.drawn + 1 } := ⟨rfl, rfl, rfl, Nat.le_refl _, fun _ _ _ => rfl⟩
theorem Kq.al {u v : Value} {W0 W : World} (h : Kq u v W0 W) (o : Obj) : Kq u v W0 (W.alloc o) := Kept.alloc h o
theorem Kq.gS {u v : Value} {W0 W W' : World} (h : Kq u v W0 W) (hg : W.grownBy W' u.ownBlock) : Kq u v W0 W' := Kept.then h (Kept.of_grown hg) fun _ _ e => Or.inl e.symm
theorem Kq.gB {u v : Value} {W0 W W' : World} (h : Kq u v W0 W) (hg : W.grownBy W' v.ownBlock) : Kq u v W0 W' := Kept.then h (Kept.of_grown hg) fun _ _ e => Or.inr e.symm

theorem Kp.dr {u : Value} {W0 W : World} (h : Kp u W0 W) : Kp u W0 W.drew := Kept.drew h
theorem Kp.rf (u : Value) (W : World) : Kp u W W := Kept.refl _ _
theorem Kq.dr {u v : Value} {W0 W : World} (h : Kq u v W0 W) : Kq u v W0 W.drew := Kept.drew h
theorem Kq.rf (u v : Value) (W : World) : Kq u v W W := Kept.refl _ _
theorem Blk.dr {W : World} {g T : Nat} {xs : List Value} (h : Blk W g T xs) : Blk W.drew g T xs := h
theorem Blk.new1 (W : World) (a : Obj) (T : Nat) (x : Value) : Blk ((W.alloc a).alloc (.cells #[x] T)) (W.heap.size + 1) T [x] := by
  have h := Blk.new (W.alloc a) T #[x]
  rw [show (W.alloc a).heap.size = W.heap.size + 1 by simp] at h
  exact h
theorem cell_one_at {W : World} {g T : Nat} {x : Value} (h : Blk W g T [x]) : ∀ j u, [x][j]? = some u → W.cell? ((⟨g, 0, none⟩ : Addr).add j) = some u := by
  intro j u hu
  have hj : j = 0 := by
    have := (List.getElem?_eq_some_iff.1 hu).1
    simp at this; omega
  subst hj
  have := h.cell hu
  exact this

/-- The region of the two appends has run. -/
theorem WR.next {parts : List (List Nat)} {W1 : World} {rh ph : Nat → Value} {vS vB : Value} {pre : List (PI parts)} {W : World} (h : WR parts W1 rh ph vS vB pre W) (x : PI parts) {gS cS gB cB HS HB n : Nat} {wS wB : World} (hn : pre.length = n)
    (oS : wS.ownsRow W1.heap.size 26 1 (.slice (some ⟨gS, 0, none⟩) (n + 1) cS) (n + 1) ((pre.map fun x => rh x.1) ++ [rh x.1])) (oB : wB.ownsRow W1.heap.size 26 1 (.slice (some ⟨gB, 0, none⟩) (n + 1) cB) (n + 1) ((pre.map fun x => ph x.1) ++ [ph x.1]))
    (hatS : vS.ownBlock = some gS ∨ gS = HS) (hHS : W.heap.size ≤ HS) (hatB : vB.ownBlock = some gB ∨ gB = HB) (hHB : wS.heap.size ≤ HB) (hlt : gS < wS.heap.size) (k1 : Kp vB wS wB) (k2 : Kq vS vB W wB) :
    WR parts W1 rh ph (.slice (some ⟨gS, 0, none⟩) (n + 1) cS) (.slice (some ⟨gB, 0, none⟩) (n + 1) cB) (pre ++ [x]) wB := by
  have hS : vB.ownBlock = some gS → False := by
    intro e
    rcases hatS with e' | e'
    · exact h.ne _ e' e
    · have := (owns_block h.oB e).1.lt; omega
  have hz := h.K.size
  refine ⟨h.K.trans (k2.below hz ?_), ?_, ?_, ?_⟩
  · rintro k hk (e | e)
    · have := (owns_block h.oS e).2.1; omega
    · have := (owns_block h.oB e).2.1; omega
  · rw [List.length_append, List.map_append, List.length_singleton, hn]
    refine owns_kept oS k1 fun g e1 e2 => ?_
    simp only [Value.ownBlock, Option.some.injEq] at e1
    subst e1
    exact hS e2
  · rw [List.length_append, List.map_append, List.length_singleton, hn]
    exact oB
  · intro g e1 e2
    simp only [Value.ownBlock, Option.some.injEq] at e1 e2
    subst e1
    subst e2
    rcases hatB with e' | e'
    · exact hS e'
    · omega

theorem WR.om {parts : List (List Nat)} {W1 : World} {B bR : Nat} {hdR : List (Nat × Nat)} {m : List (List Nat)} {rh ph : Nat → Value} {vS vB : Value} {sel : List (PI parts)} {W : World} (h : WR parts W1 rh ph vS vB sel W) (hO : OM W1 B bR hdR m) : OM W B bR hdR m := hO.new h.K
theorem WR.mxS {parts : List (List Nat)} {W1 : World} {B bR d r : Nat} {hdR : List (Nat × Nat)} {ph : Nat → Value} {vS vB : Value} {sel : List (PI parts)} {W : World} (h : WR parts W1 (rhOf d hdR) ph vS vB sel W) (hO : OM W1 B bR hdR (rowsM d r)) (hN : d + r = parts.length) : Mx W vS (sel.map fun x => (rowsM d r).getD x.1 []) := by
  by_cases hs : sel = []
  · subst hs
    obtain ⟨a, c, rfl⟩ := owns_slice h.oS
    exact ⟨a, c, rfl, Nat.zero_le _, Or.inl rfl⟩
  have hne : sel.length ≠ 0 := by simpa using hs
  obtain ⟨g, cg, rfl, _, hcg, _⟩ := ne_of_owns h.oS hne
  have hb := Blk.of_owns h.oS
  have hOW : OM W B bR hdR (rowsM d r) := h.om hO
  refine ⟨some ⟨g, 0, none⟩, cg, by rw [List.length_map], by rw [List.length_map]; exact hcg, Or.inr ⟨g, 0, fun k => some ⟨(hdR.getD ((sel.map (·.1)).getD k 0) (0, 0)).1, 0, none⟩, fun k => (hdR.getD ((sel.map (·.1)).getD k 0) (0, 0)).2, rfl, ?_⟩⟩
  intro k x hx
  rw [List.getElem?_map] at hx
  cases hk : sel[k]? with
  | none => rw [hk] at hx; simp at hx
  | some y =>
    rw [hk] at hx
    simp only [Option.map_some, Option.some.injEq] at hx
    have hyi : y.1 < (rowsM d r).length := by rw [rowsM_length]; have := y.2.1; omega
    have hrg : (rowsM d r)[y.1]? = some x := by rw [← hx]; exact getD_some hyi
    have hdg : hdR[y.1]? = some (hdR.getD y.1 (0, 0)) := getD_some (by rw [hOW.len]; exact hyi)
    obtain ⟨q1, _, q3⟩ := hOW.rows _ _ _ hdg hrg
    have hxl : x.length = d := (rowsM_rect d r x (List.mem_of_getElem? hrg)).1
    have hcell := hb.cell (show (sel.map fun x => rhOf d hdR x.1)[k]? = some (rhOf d hdR y.1) by rw [List.getElem?_map, hk]; rfl)
    have hgd : (sel.map (·.1)).getD k 0 = y.1 := by rw [List.getD_eq_getElem?_getD, List.getElem?_map, hk]; rfl
    dsimp only
    rw [hgd, Nat.zero_add, hxl]
    rw [hxl] at q3
    exact ⟨hcell, q3, Or.inr ⟨_, 0, rfl, q1.row⟩, by simp⟩
theorem WR.mxB {parts : List (List Nat)} {W1 : World} {b o : Nat} {A : Nat → Option Addr} {C : Nat → Nat} {rh : Nat → Value} {vS vB : Value} {sel : List (PI parts)} {W : World} (h : WR parts W1 rh (phOf parts A C) vS vB sel W) (hM : MxAt W b o parts A C) :
    (sel ≠ [] → ∃ g cg, vB = .slice (some ⟨g, 0, none⟩) sel.length cg ∧ sel.length ≤ cg ∧ MxAt W g 0 (sel.map fun x => parts.getD x.1 []) (fun k => A ((sel.map (·.1)).getD k 0)) (fun k => C ((sel.map (·.1)).getD k 0))) := by
  intro hs
  have hne : sel.length ≠ 0 := by simpa using hs
  obtain ⟨g, cg, rfl, _, hcg, _⟩ := ne_of_owns h.oB hne
  have hb := Blk.of_owns h.oB
  refine ⟨g, cg, rfl, hcg, ?_⟩
  intro k x hx
  rw [List.getElem?_map] at hx
  cases hk : sel[k]? with
  | none => rw [hk] at hx; simp at hx
  | some y =>
    rw [hk] at hx
    simp only [Option.map_some, Option.some.injEq] at hx
    obtain ⟨_, q2, q3, q4⟩ := hM y.1 x (by rw [← hx]; exact getD_some y.2.1)
    have hcell := hb.cell (show (sel.map fun x => phOf parts A C x.1)[k]? = some (phOf parts A C y.1) by rw [List.getElem?_map, hk]; rfl)
    have hgd : (sel.map (·.1)).getD k 0 = y.1 := by rw [List.getD_eq_getElem?_getD, List.getElem?_map, hk]; rfl
    have hxl : plen parts y.1 = x.length := by unfold plen; rw [hx]
    unfold phOf at hcell
    dsimp only
    rw [hgd, Nat.zero_add, ← hxl]
    rw [← hxl] at q2
    exact ⟨hcell, q2, q3, q4⟩
theorem sel_full' {parts : List (List Nat)} {k d : Nat} (hk : k ≤ parts.length) (hd : (piTo parts k).length = d) : (piTo parts k).map (·.1) = (pidx parts).take d ∧ d ≤ (pidx parts).length := by
  obtain ⟨t, ht⟩ := piTo_prefix parts k (parts.length - k)
  rw [show k + (parts.length - k) = parts.length by omega] at ht
  unfold pidx
  rw [ht]
  simp [← hd]

set_option maxRecDepth 100000 in
set_option maxHeartbeats 8000000 in
theorem rwhole_loop (b o cap d : Nat) (parts : List (List Nat)) (A : Nat → Option Addr) (C : Nat → Nat) (w : World) (hM : MxAt w b o parts A C) (hm : Mx w (.slice (some ⟨b, o, none⟩) parts.length cap) parts)
    (hE : parErr parts d = 0) (hLm : ∀ j, j < parts.length → plen parts j ≤ maxLen) (hBy : BytM parts) :
    Calls Try.prog 61 #[.slice (some ⟨b, o, none⟩) parts.length cap, .int .i64 d] w (RowsErr (wholeRows parts d) (wholeErr parts d) w) := by
  obtain ⟨j0, gi, gz0, gz1, gz2⟩ := info_parts infoBytes
  obtain ⟨q1, q2, q3, q4⟩ := parErr_in hE
  obtain ⟨hlo, hmi⟩ := parErr_zero hE
  have HM := Lib.hid hM
  have Hm := Lib.hid hm
  have HE := Lib.hid hE
  have HLm := Lib.hid hLm
  have HBy := Lib.hid hBy
  have Hlo := Lib.hid hlo
  have Hmi := Lib.hid hmi
  have hd1 : 1 ≤ d := by omega
  have hbw : b < w.heap.size := World.block_lt_of_cell? w _ (hM 0 _ (getD_some (d := []) (by omega))).1
  have e1 : ((parts.length : Int) - (d : Int)) = ((parts.length - d : Nat) : Int) := by omega
  clear hM hm hE hLm hBy hlo hmi
  go_enter Try.func61, Try.ntmps61
  go_wp2_with fail
  refine (rCheck54_any _ parts d _ (by omega) HLm.out Hm.out (by omega) (by omega)).mono ?_
  rintro e w1 ⟨rfl, rfl⟩
  rw [HE.out]
  go_wp2_with fail
  refine (rRows_any d (parts.length - d) _ (by omega) (by omega)).mono ?_
  rintro e w4 ⟨vr, hdR, rfl, hG, hB4⟩
  obtain ⟨bR, cR, hvr, hcR, _, hO4⟩ := hG.done (by intro h; have := rowsM_length d (parts.length - d); rw [h] at this; simp at this; omega)
  rw [rowsM_length, show d + (parts.length - d) = parts.length by omega] at hvr hcR
  subst hvr
  have HO4 := Lib.hid hO4
  have HB4 := Lib.hid hB4
  have HM4 := Lib.hid (HM.out.new hB4)
  have hz4 := hB4.size
  have HRl := Lib.hid (show (rowsM d (parts.length - d)).length = parts.length by rw [rowsM_length]; omega)
  have hbR : bR < w4.heap.size := hO4.outer.lt
  clear hG hO4 hB4 e1
  go_wp2_with fail
  go_loopg [8, 9, 10] parts.length (fun gk v8 v9 i wr => ∃ k : Nat, k + gk = parts.length ∧ i = .int .i64 k ∧ Hid ((piTo parts k).length ≤ d) ∧ Hid (WR parts w4 (rhOf d hdR) (phOf parts A C) v8 v9 (piTo parts k) wr))
  case atStart => exact ⟨0, by omega, rfl, Nat.zero_le _, ⟨Below.refl _ _, World.ownsRow_nil _ _ _ _, World.ownsRow_nil _ _ _ _, fun g h => by simp [Value.ownBlock] at h⟩⟩
  case round =>
    obtain ⟨k, hgk, rfl, hle, hW⟩ := hrel
    have Hgk := Lib.hid hgk
    have hk : k ≤ parts.length := by omega
    clear hgk
    by_cases hgo : k < parts.length ∧ (piTo parts k).length < d
    · obtain ⟨hlt, hnd⟩ := hgo
      obtain ⟨wo, rfl⟩ : ∃ wo : World, wo = wr := ⟨_, rfl⟩
      obtain ⟨a8, c8, hv8⟩ := owns_slice hW.out.oS
      obtain ⟨a9, c9, hv9⟩ := owns_slice hW.out.oB
      subst hv8 hv9
      have hMk := (HM4.out.new hW.out.K) k _ (getD_some (d := []) hlt)
      have p1 : wo.cell? ⟨b, o + k, none⟩ = some (.slice (A k) (plen parts k) (C k)) := hMk.1
      have hpl := long_le Hlo.out hlt
      have HW := Lib.hid hW.out
      have hnl : (piTo parts k).length ≤ 64 := by omega
      generalize hpn : (piTo parts k).length = n at *
      by_cases hp : 1 ≤ plen parts k
      · have x3 : decide ((0 : Int) < (plen parts k : Int)) = true := by simp; omega
        have hrg : (rowsM d (parts.length - d))[k]? = some ((rowsM d (parts.length - d)).getD k []) := getD_some (by rw [HRl.out]; exact hlt)
        obtain ⟨p, hpd⟩ : ∃ p, hdR[k]? = some p := ⟨hdR.getD k (0, 0), getD_some (by rw [HO4.out.len, HRl.out]; exact hlt)⟩
        have hrr := (rowsM_rect d (parts.length - d)).get (i := k) (by rw [HRl.out]; exact hlt)
        have hpc := (HO4.out.outer.below hW.out.K HO4.out.outer.lt).cell (hvs_get hpd hrg)
        rw [hrr.1] at hpc
        unfold hv at hpc
        have Hpd := Lib.hid hpd
        have Hrel := Lib.hid (show rhOf d hdR k = .slice (some ⟨p.1, 0, none⟩) d p.2 by unfold rhOf hv; rw [List.getD_eq_getElem?_getD, hpd]; rfl)
        have i1 : (0 : Int) ≤ (k : Int) := by omega
        have i2 : (k : Int) < (parts.length : Int) := by omega
        have i3 : (n : Int) < (d : Int) := by omega
        have hS0 := hW.out.oS
        have hB0 := hW.out.oB
        rw [hpn] at hS0 hB0
        have HS := Lib.hid hS0
        have HBo := Lib.hid hB0
        have Hne := Lib.hid hW.out.ne
        have hz := hW.out.K.size
        have hbS : ∀ g, (Value.slice a8 n c8).ownBlock = some g → w4.heap.size ≤ g ∧ g < wo.heap.size := fun g h => by
          have := owns_block hW.out.oS h; exact ⟨this.2.1, this.1.lt⟩
        have hbB : ∀ g, (Value.slice a9 n c9).ownBlock = some g → w4.heap.size ≤ g ∧ g < wo.heap.size := fun g h => by
          have := owns_block hW.out.oB h; exact ⟨this.2.1, this.1.lt⟩
        clear hrg hpd hrr hMk hW hle hS0 hB0
        go_wp2_with fail
        have hpv1 : (Value.slice (A k) (plen parts k) (C k)).oneCell' = true := rfl
        go_region_held_law (fun w' => w'.cell? ⟨bR, k, none⟩ = some (.slice (some ⟨p.1, 0, none⟩) d p.2) ∧ w'.cell? ⟨b, o + k, none⟩ = some (.slice (A k) (plen parts k) (C k)))
          (first
            | exact ⟨hpc, p1⟩
            | (refine ⟨Kept.cell (show Kq (.slice a8 n c8) (.slice a9 n c9) wo _ from ?_) hpc ?_, Kept.cell (show Kq (.slice a8 n c8) (.slice a9 n c9) wo _ from ?_) p1 ?_⟩
               · repeat (first | exact Kq.rf _ _ _ | exact Kq.drew0 _ _ _ | apply Kq.dr | apply Kq.al | refine Kq.gS ?_ hgS | refine Kq.gB ?_ hgB)
               · rintro (h | h) <;> first | (have := (hbS _ h).1; simp only at this; omega) | (have := (hbB _ h).1; simp only at this; omega)
               · repeat (first | exact Kq.rf _ _ _ | exact Kq.drew0 _ _ _ | apply Kq.dr | apply Kq.al | refine Kq.gS ?_ hgS | refine Kq.gB ?_ hgB)
               · rintro (h | h) <;> first | (have := (hbS _ h).1; simp only at this; omega) | (have := (hbB _ h).1; simp only at this; omega)))
          (first
            | (refine step_append_lies _ rfl (.tmp 47) (.tmp 52) 39 rfl w4.heap.size 26 j0 (.slice none 0 0) 1 24 Try.underlying39 gi gz0 gz1 gz2 rfl (by decide) (.slice a8 n c8) n _ rfl (owns_kept HS.out (show Kp (.slice a9 n c9) wo _ from by repeat (first | exact Kp.rf _ _ | exact Kp.drew0 _ _ | apply Kp.dr | apply Kp.al | refine Kp.g ?_ hgB)) (fun g h1 h2 => Hne.out g h1 h2)) ⟨_, 0, none⟩ 1 1 [.slice (some ⟨p.1, 0, none⟩) d p.2] rfl rfl (cell_one_at (T := 26) (by (try apply Blk.dr); first | exact Blk.new _ _ _ | exact Blk.new1 _ _ _ _ | exact (Blk.new _ _ _).alloc _)) (by intro u hu; simp only [List.mem_cons, List.not_mem_nil, or_false] at hu; subst hu; rfl) (by decide) (by unfold maxLen; omega) (by omega) (by simp; omega) _ rfl ?_; intro gS cS wS hownS hgS hatS hltS)
            | (refine step_append_lies _ rfl (.tmp 54) (.tmp 59) 39 rfl w4.heap.size 26 j0 (.slice none 0 0) 1 24 Try.underlying39 gi gz0 gz1 gz2 rfl (by decide) (.slice a9 n c9) n _ rfl (owns_kept HBo.out (show Kp (.slice a8 n c8) wo _ from by repeat (first | exact Kp.rf _ _ | exact Kp.drew0 _ _ | apply Kp.dr | apply Kp.al | refine Kp.g ?_ hgS)) (fun g h1 h2 => Hne.out g h2 h1)) ⟨_, 0, none⟩ 1 1 [.slice (A k) (plen parts k) (C k)] rfl rfl (cell_one_at (T := 26) (by (try apply Blk.dr); first | exact Blk.new _ _ _ | exact Blk.new1 _ _ _ _ | exact (Blk.new _ _ _).alloc _ | (refine Blk.kept (?_) (Kept.of_grown hgS) (fun e => by have := (hbS _ e.symm).2; first | omega | (simp at this; omega) | simp at this); (try apply Blk.dr); first | exact Blk.new _ _ _ | exact Blk.new1 _ _ _ _ | exact (Blk.new _ _ _).alloc _))) (by intro u hu; simp only [List.mem_cons, List.not_mem_nil, or_false] at hu; subst hu; rfl) (by decide) (by unfold maxLen; omega) (by omega) (by first | (have := hgS.size; simp at this ⊢; omega) | (simp; omega)) _ rfl ?_; intro gB cB wB hownB hgB hatB hltB))
        all_goals
          have hWn := Lib.hid (HW.out.next ⟨k, hlt, hp⟩ hpn (by rw [Hrel.out]; exact hownS) hownB hatS (by simp; try omega) hatB (by simp; try omega) hltS (by repeat (first | exact Kp.rf _ _ | apply Kp.dr | apply Kp.al | refine Kp.g ?_ hgB)) (by repeat (first | exact Kq.rf _ _ _ | apply Kq.dr | apply Kq.al | refine Kq.gB ?_ hgB | refine Kq.gS ?_ hgS)))
          rw [← piTo_yes (parts := parts) ⟨hlt, hp⟩] at hWn
          have hln := Lib.hid (show (piTo parts (k + 1)).length ≤ d by rw [piTo_yes ⟨hlt, hp⟩, List.length_append, hpn, List.length_singleton]; omega)
          clear hownS hownB hgS hgB hatS hatB hltS hltB
          go_wp2_with fail
          go_roundg (parts.length - k - 1)
          case measure => have := Hgk.out; omega
          case rel => exact ⟨k + 1, by have := Hgk.out; omega, by go_num, hln.out, hWn.out⟩
      · have x3 : decide ((0 : Int) < (plen parts k : Int)) = false := by simp; omega
        have i1 : (0 : Int) ≤ (k : Int) := by omega
        have i2 : (k : Int) < (parts.length : Int) := by omega
        have i3 : (n : Int) < (d : Int) := by omega
        have hno := piTo_no (parts := parts) hp
        have hWn := Lib.hid (show WR parts w4 (rhOf d hdR) (phOf parts A C) (.slice a8 n c8) (.slice a9 n c9) (piTo parts (k + 1)) wo by rw [hno]; exact HW.out)
        have hln := Lib.hid (show (piTo parts (k + 1)).length ≤ d by rw [hno, hpn]; omega)
        have hpz : (plen parts k : Int) ≤ 0 := by omega
        clear hMk hW hle hno
        go_wp2_with fail
        go_roundg (parts.length - k - 1)
        case measure => have := Hgk.out; omega
        case rel => exact ⟨k + 1, by have := Hgk.out; omega, by go_num, hln.out, hWn.out⟩
    · obtain ⟨wo, rfl⟩ : ∃ wo : World, wo = wr := ⟨_, rfl⟩
      obtain ⟨a8, c8, hv8⟩ := owns_slice hW.out.oS
      obtain ⟨a9, c9, hv9⟩ := owns_slice hW.out.oB
      by_cases hnd : (piTo parts k).length < d
      · subst hv8 hv9
        have hkn : k = parts.length := by omega
        have hr := Lib.hid (show wholeErr parts d = 26 by unfold wholeErr pidx; rw [if_pos (by rw [List.length_map, ← hkn]; exact hnd)])
        have hr2 := Lib.hid (show wholeRows parts d = [] by unfold wholeRows; rw [hr.out]; rfl)
        have HBW := Lib.hid (HB4.out.trans (hW.out.K.mono hz4))
        have i2 : (parts.length : Int) ≤ (k : Int) := by omega
        have t1 : decide ((k : Int) < (parts.length : Int)) = false := by simp; omega
        have t2 : decide (((piTo parts k).length : Int) < (d : Int)) = true := by simp; omega
        generalize (piTo parts k).length = n at *
        clear hW hle hgo
        go_wp2_with fail
        go_ret2
        exact ⟨.slice none 0 0, [], by rw [hr.out]; rfl, by rw [hr2.out]; exact GM.nil _ _, HBW.out⟩
      · have hnn : (piTo parts k).length = d := by have := hle.out; omega
        have hsel := sel_full' hk hnn
        have hOW := hW.out.mxS HO4.out (by omega)
        rw [selM_eq hsel.1] at hOW
        obtain ⟨gB, cgB, hvB, hcgB, hMB⟩ := hW.out.mxB (HM4.out.new hW.out.K) (by intro e; rw [e] at hnn; simp at hnn; omega)
        rw [selP_eq hsel.1] at hMB
        rw [hnn] at hvB hcgB hv8
        rw [hvB] at hW
        subst hvB
        subst hv8
        have HmS := Lib.hid hOW
        have HMB := Lib.hid hMB
        have Hsel := Lib.hid hsel
        have hsq := selM_sq hd1 (by omega) q4 hsel.2
        have hinv := inv_sel hd1 (by omega) q4 hsel.2
        have Hsq := Lib.hid hsq
        have Hinv := Lib.hid hinv
        have Hx := Lib.hid (hsq.inv hinv).1
        obtain ⟨x, _⟩ : ∃ x, x ∈ piTo parts k := List.exists_mem_of_ne_nil _ (by intro e; rw [e] at hnn; simp at hnn; omega)
        have hRP := selP_rect (d := d) HBy.out Hmi.out (x := x)
        have hL1 := x.2.2
        have hL2 := long_le Hlo.out x.2.1
        generalize plen parts x.1 = L at hRP hL1 hL2
        have HRP := Lib.hid hRP
        have HsPl := Lib.hid (show (selP parts d).length = d by unfold selP; rw [List.length_map, List.length_take]; have := hsel.2; omega)
        have hr := Lib.hid (show wholeErr parts d = 0 by unfold wholeErr; rw [if_neg (by omega), hinv])
        have hr2 := Lib.hid (show wholeRows parts d = wholeM parts d by unfold wholeRows; rw [if_pos hr.out])
        have HBW := Lib.hid (HB4.out.trans (hW.out.K.mono hz4))
        have HOR := Lib.hid (HO4.out.new hW.out.K)
        have t2 : decide ((d : Int) < (d : Int)) = false := by simp
        clear hOW hMB hsel hsq hinv hle hgo hv9 hRP
        by_cases hlt : k < parts.length
        · have t1 : decide ((k : Int) < (parts.length : Int)) = true := by simp; omega
          clear hW hnd
          go_wp2_with fail
          refine (rInvert_any _ (selM parts d) _ (by rw [Hsq.out.len]; omega) Hsq.out.bytM HmS.out).mono ?_
          rintro e w5 ⟨vb, rfl, hMb, hB5⟩
          rw [Hinv.out]
          obtain ⟨ab, capb, hvb, hcb, hMb⟩ := hMb
          have hxl := Hx.out.len
          rcases hMb with h0 | ⟨bb, ob, Ab, Cb, hab, hMb⟩
          · rw [h0] at hxl; simp at hxl; omega
          subst hab
          rw [hxl] at hvb hcb
          subst hvb
          have HMb := Lib.hid hMb
          have HB5 := Lib.hid (HBW.out.trans (hB5.mono HBW.out.size))
          have HMB5 := Lib.hid (HMB.out.new hB5)
          have HOR5 := Lib.hid (HOR.out.new hB5)
          have hz5 := hB5.size
          obtain ⟨bk, hbk⟩ : ∃ bk, invRows (selM parts d) = bk := ⟨_, rfl⟩
          rw [hbk] at Hx HMb
          have Hbk := Lib.hid hbk
          clear hMb hB5 hxl hbk
          go_wp2_with fail
          go_loopg [13, 15] d (fun gk v i wr => ∃ q : Nat, q + gk = d ∧ i = .int .i64 q ∧ Hid (∃ hd', GM wr w5.heap.size v hd' ((prodM bk (selP parts d)).take q)) ∧ Hid (Below w5.heap.size w5 wr))
          case atStart => exact ⟨0, by omega, rfl, ⟨[], GM.nil _ _⟩, Below.refl _ _⟩
          case round =>
            obtain ⟨q, hgq, rfl, hG, hB⟩ := hrel
            have Hgq := Lib.hid hgq
            have hq : q ≤ d := by omega
            clear hgq
            by_cases hltq : q < d
            · obtain ⟨hd', hG⟩ := hG.out
              have hrg : bk[q]? = some (bk.getD q []) := getD_some (by rw [Hx.out.len]; exact hltq)
              have hrr := Hx.out.rect.get (i := q) (by rw [Hx.out.len]; exact hltq)
              have hMq := (HMb.out.new hB.out) q _ hrg
              obtain ⟨b', o', hA, hrow⟩ : ∃ b' o', Ab q = some ⟨b', o', none⟩ ∧ RowAt wr b' o' (bk.getD q []) := by
                rcases hMq.2.2.1 with h0 | h
                · rw [h0] at hrr; simp at hrr; omega
                · exact h
              have hpc := hMq.1
              rw [hA, hrr.1] at hpc
              have Hrow := Lib.hid hrow
              have Hrr := Lib.hid hrr
              have HMx := Lib.hid (HMB5.out.new hB.out)
              have htk := Lib.hid (prodM_take (b := selP parts d) hrg)
              have HG := Lib.hid hG
              have HBr := Lib.hid hB.out
              have hzz : w5.heap.size ≤ wr.heap.size := hB.out.size
              clear hG hB hrg hrr hMq hA hrow
              go_wp2_with fail
              refine (combined_any b' o' (Cb q) gB 0 cgB L d d (bk.getD q []) (selP parts d) _ _ wr Hrr.out.1 HsPl.out Hrow.out HMx.out hcgB HRP.out rfl hd1 (by omega) (by omega) hL1 Hrr.out.2).mono ?_
              rintro e w6 ⟨g, cg, rfl, g1, g2, g3, hblk, hB6⟩
              have Hlk := Lib.hid (show ((prodM bk (selP parts d)).take q).length = q by rw [List.length_take, prodM_length, Hx.out.len]; omega)
              rw [row0_of HRP.out (by rw [HsPl.out]; omega), HsPl.out] at htk
              generalize prTo (bk.getD q []) (selP parts d) L d = pr at *
              have Hblk := Lib.hid hblk
              have HB6 := Lib.hid hB6
              have HGo := Lib.hid ((HG.out.new hB6).outer)
              have Hg2 := Lib.hid g2
              have hz6 := hB6.size
              clear hblk hB6 g2 g3 hpc
              go_wp2_with (at_builtin; refine wpList_append_own _ rfl _ _ 39 rfl w5.heap.size 26 j0 (.slice none 0 0) 1 24 Try.underlying39 gi gz0 gz1 gz2 rfl (by decide) _ _ _ rfl (HGo.out.alloc _) ⟨w6.heap.size, 0, none⟩ 1 1 [hv pr.length (g, cg)] rfl rfl ?d1 ?d2 ?d3 ?d4 ?d5 ?_)
              case d1 => exact cell_one_new _ _ _
              case d2 => intro u hu; simp only [List.mem_cons, List.not_mem_nil, or_false] at hu; subst hu; rfl
              case d3 => rw [Hlk.out]; unfold maxLen; omega
              case d4 => rw [Hlk.out]; omega
              case d5 => simp; omega
              intro v' w7 hown hgr _
              have hG7 := HG.out.snoc HB6.out (p := (g, cg)) (r := pr) Hblk.out g1 HBr.out.size Hg2.out (by rw [Hlk.out]; simpa [prodM_length, Hx.out.len, Nat.min_eq_left hq] using hown) (by simpa using hgr)
              rw [← htk.out] at hG7
              have hB7 : Below w5.heap.size w5 w7 := ((HBr.out.trans (HB6.out.mono HBr.out.size)).alloc (by omega) _).grown hgr (by simp; omega) (fun q hq => (owns_block HG.out.outer hq).2.1)
              have HG7 := Lib.hid hG7
              have HB7 := Lib.hid hB7
              clear hown hgr hG7 hB7
              go_wp2_with fail
              go_roundg (d - q - 1)
              case measure => have := Hgq.out; omega
              case rel => exact ⟨q + 1, by have := Hgq.out; omega, by go_num, ⟨_, HG7.out⟩, HB7.out⟩
            · have hkn : (prodM bk (selP parts d)).take q = prodM bk (selP parts d) := List.take_of_length_le (by rw [prodM_length, Hx.out.len]; omega)
              obtain ⟨hd', hG⟩ := hG.out
              rw [hkn] at hG
              obtain ⟨og, hog⟩ : ∃ og, prodM bk (selP parts d) = og := ⟨_, rfl⟩
              have hRo : Rect L og := by rw [← hog]; exact prodM_rect HRP.out (by rw [HsPl.out]; omega)
              have hlo : og.length = d := by rw [← hog, prodM_length, Hx.out.len]
              rw [hog] at hG
              obtain ⟨bO, cO, hvO, hcO, _, hOO⟩ := hG.done (by intro h; rw [h] at hlo; simp at hlo; omega)
              rw [hlo] at hvO hcO
              obtain ⟨w8, rfl⟩ : ∃ w8 : World, w8 = wr := ⟨_, rfl⟩
              subst hvO
              have HMO := Lib.hid hOO.mxAt
              have Hog := Lib.hid hog
              have HRo := Lib.hid hRo
              have Hlo' := Lib.hid hlo
              have HB8 := Lib.hid (HB5.out.trans (hB.out.mono HB5.out.size))
              have HOR8 := Lib.hid (HOR5.out.new hB.out)
              have hz8 := HB8.out.size
              clear hG hkn hB hOO hog hRo hlo
              go_wp2_with fail
              go_loopg [14, 16] parts.length (fun gk v i wr => ∃ q : Nat, q + gk = parts.length ∧ i = .int .i64 q ∧ Hid (∃ hd', GM wr w8.heap.size v hd' ((prodM (rowsM d (parts.length - d)) og).take q)) ∧ Hid (Below w8.heap.size w8 wr))
              case atStart => exact ⟨0, by omega, rfl, ⟨[], GM.nil _ _⟩, Below.refl _ _⟩
              case round =>
                obtain ⟨z, hgz, rfl, hG, hB⟩ := hrel
                have Hgz := Lib.hid hgz
                have hz : z ≤ parts.length := by omega
                clear hgz
                by_cases hltz : z < parts.length
                · obtain ⟨hd2, hG⟩ := hG.out
                  have hrg : (rowsM d (parts.length - d))[z]? = some ((rowsM d (parts.length - d)).getD z []) := getD_some (by rw [HRl.out]; exact hltz)
                  have hrr := (rowsM_rect d (parts.length - d)).get (i := z) (by rw [HRl.out]; exact hltz)
                  obtain ⟨p, hp⟩ : ∃ p, hdR[z]? = some p := ⟨hdR.getD z (0, 0), getD_some (by rw [HOR8.out.len, HRl.out]; exact hltz)⟩
                  have hpc := (HOR8.out.outer.below hB.out HOR8.out.outer.lt).cell (hvs_get hp hrg)
                  obtain ⟨hpb, _, hpl⟩ := HOR8.out.rows _ p _ hp hrg
                  rw [hrr.1] at hpc hpl
                  unfold hv at hpc
                  have Hrow := Lib.hid (hpb.below hB.out hpb.lt).row
                  have Hrr := Lib.hid hrr
                  have HMx := Lib.hid (HMO.out.new hB.out)
                  have htk := Lib.hid (prodM_take (b := og) hrg)
                  have HG := Lib.hid hG
                  have HBr := Lib.hid hB.out
                  have hzz : w8.heap.size ≤ wr.heap.size := hB.out.size
                  clear hG hB hrg hrr hp hpb
                  go_wp2_with fail
                  refine (combined_any p.1 0 p.2 bO 0 cO L d d ((rowsM d (parts.length - d)).getD z []) og _ _ wr Hrr.out.1 Hlo'.out Hrow.out HMx.out hcO HRo.out rfl hd1 (by omega) (by omega) hL1 Hrr.out.2).mono ?_
                  rintro e w6 ⟨g, cg, rfl, g1, g2, g3, hblk, hB6⟩
                  have Hlk := Lib.hid (show ((prodM (rowsM d (parts.length - d)) og).take z).length = z by rw [List.length_take, prodM_length, HRl.out]; omega)
                  rw [row0_of HRo.out (by rw [Hlo'.out]; omega), Hlo'.out] at htk
                  generalize prTo ((rowsM d (parts.length - d)).getD z []) og L d = pr at *
                  have Hblk := Lib.hid hblk
                  have HB6 := Lib.hid hB6
                  have HGo := Lib.hid ((HG.out.new hB6).outer)
                  have Hg2 := Lib.hid g2
                  have hz6 := hB6.size
                  clear hblk hB6 g2 g3 hpc
                  go_wp2_with (at_builtin; refine wpList_append_own _ rfl _ _ 39 rfl w8.heap.size 26 j0 (.slice none 0 0) 1 24 Try.underlying39 gi gz0 gz1 gz2 rfl (by decide) _ _ _ rfl (HGo.out.alloc _) ⟨w6.heap.size, 0, none⟩ 1 1 [hv pr.length (g, cg)] rfl rfl ?d1 ?d2 ?d3 ?d4 ?d5 ?_)
                  case d1 => exact cell_one_new _ _ _
                  case d2 => intro u hu; simp only [List.mem_cons, List.not_mem_nil, or_false] at hu; subst hu; rfl
                  case d3 => rw [Hlk.out]; unfold maxLen; omega
                  case d4 => rw [Hlk.out]; omega
                  case d5 => simp; omega
                  intro v' w7 hown hgr _
                  have hG7 := HG.out.snoc HB6.out (p := (g, cg)) (r := pr) Hblk.out g1 HBr.out.size Hg2.out (by rw [Hlk.out]; simpa [prodM_length, HRl.out, Nat.min_eq_left hz] using hown) (by simpa using hgr)
                  rw [← htk.out] at hG7
                  have hB7 : Below w8.heap.size w8 w7 := ((HBr.out.trans (HB6.out.mono HBr.out.size)).alloc (by omega) _).grown hgr (by simp; omega) (fun q hq => (owns_block HG.out.outer hq).2.1)
                  have HG7 := Lib.hid hG7
                  have HB7 := Lib.hid hB7
                  clear hown hgr hG7 hB7
                  go_wp2_with fail
                  go_roundg (parts.length - z - 1)
                  case measure => have := Hgz.out; omega
                  case rel => exact ⟨z + 1, by have := Hgz.out; omega, by go_num, ⟨_, HG7.out⟩, HB7.out⟩
                · have hkn : (prodM (rowsM d (parts.length - d)) og).take z = wholeM parts d := by
                    rw [List.take_of_length_le (by rw [prodM_length, HRl.out]; omega)]
                    unfold wholeM
                    rw [Hbk.out, Hog.out]
                  obtain ⟨hd2, hG⟩ := hG.out
                  rw [hkn] at hG
                  have HG := Lib.hid hG
                  have HBr := Lib.hid hB.out
                  clear hG hkn hB
                  go_wp2_with fail
                  go_ret2
                  exact ⟨_, hd2, by rw [hr.out]; rfl, by rw [hr2.out]; exact HG.out.base hz8, HB8.out.trans (HBr.out.mono hz8)⟩
        · have t1 : decide ((k : Int) < (parts.length : Int)) = false := by simp; omega
          have i2 : (parts.length : Int) ≤ (k : Int) := by omega
          clear hW hnd
          go_wp2_with fail
          refine (rInvert_any _ (selM parts d) _ (by rw [Hsq.out.len]; omega) Hsq.out.bytM HmS.out).mono ?_
          rintro e w5 ⟨vb, rfl, hMb, hB5⟩
          rw [Hinv.out]
          obtain ⟨ab, capb, hvb, hcb, hMb⟩ := hMb
          have hxl := Hx.out.len
          rcases hMb with h0 | ⟨bb, ob, Ab, Cb, hab, hMb⟩
          · rw [h0] at hxl; simp at hxl; omega
          subst hab
          rw [hxl] at hvb hcb
          subst hvb
          have HMb := Lib.hid hMb
          have HB5 := Lib.hid (HBW.out.trans (hB5.mono HBW.out.size))
          have HMB5 := Lib.hid (HMB.out.new hB5)
          have HOR5 := Lib.hid (HOR.out.new hB5)
          have hz5 := hB5.size
          obtain ⟨bk, hbk⟩ : ∃ bk, invRows (selM parts d) = bk := ⟨_, rfl⟩
          rw [hbk] at Hx HMb
          have Hbk := Lib.hid hbk
          clear hMb hB5 hxl hbk
          go_wp2_with fail
          go_loopg [13, 15] d (fun gk v i wr => ∃ q : Nat, q + gk = d ∧ i = .int .i64 q ∧ Hid (∃ hd', GM wr w5.heap.size v hd' ((prodM bk (selP parts d)).take q)) ∧ Hid (Below w5.heap.size w5 wr))
          case atStart => exact ⟨0, by omega, rfl, ⟨[], GM.nil _ _⟩, Below.refl _ _⟩
          case round =>
            obtain ⟨q, hgq, rfl, hG, hB⟩ := hrel
            have Hgq := Lib.hid hgq
            have hq : q ≤ d := by omega
            clear hgq
            by_cases hltq : q < d
            · obtain ⟨hd', hG⟩ := hG.out
              have hrg : bk[q]? = some (bk.getD q []) := getD_some (by rw [Hx.out.len]; exact hltq)
              have hrr := Hx.out.rect.get (i := q) (by rw [Hx.out.len]; exact hltq)
              have hMq := (HMb.out.new hB.out) q _ hrg
              obtain ⟨b', o', hA, hrow⟩ : ∃ b' o', Ab q = some ⟨b', o', none⟩ ∧ RowAt wr b' o' (bk.getD q []) := by
                rcases hMq.2.2.1 with h0 | h
                · rw [h0] at hrr; simp at hrr; omega
                · exact h
              have hpc := hMq.1
              rw [hA, hrr.1] at hpc
              have Hrow := Lib.hid hrow
              have Hrr := Lib.hid hrr
              have HMx := Lib.hid (HMB5.out.new hB.out)
              have htk := Lib.hid (prodM_take (b := selP parts d) hrg)
              have HG := Lib.hid hG
              have HBr := Lib.hid hB.out
              have hzz : w5.heap.size ≤ wr.heap.size := hB.out.size
              clear hG hB hrg hrr hMq hA hrow
              go_wp2_with fail
              refine (combined_any b' o' (Cb q) gB 0 cgB L d d (bk.getD q []) (selP parts d) _ _ wr Hrr.out.1 HsPl.out Hrow.out HMx.out hcgB HRP.out rfl hd1 (by omega) (by omega) hL1 Hrr.out.2).mono ?_
              rintro e w6 ⟨g, cg, rfl, g1, g2, g3, hblk, hB6⟩
              have Hlk := Lib.hid (show ((prodM bk (selP parts d)).take q).length = q by rw [List.length_take, prodM_length, Hx.out.len]; omega)
              rw [row0_of HRP.out (by rw [HsPl.out]; omega), HsPl.out] at htk
              generalize prTo (bk.getD q []) (selP parts d) L d = pr at *
              have Hblk := Lib.hid hblk
              have HB6 := Lib.hid hB6
              have HGo := Lib.hid ((HG.out.new hB6).outer)
              have Hg2 := Lib.hid g2
              have hz6 := hB6.size
              clear hblk hB6 g2 g3 hpc
              go_wp2_with (at_builtin; refine wpList_append_own _ rfl _ _ 39 rfl w5.heap.size 26 j0 (.slice none 0 0) 1 24 Try.underlying39 gi gz0 gz1 gz2 rfl (by decide) _ _ _ rfl (HGo.out.alloc _) ⟨w6.heap.size, 0, none⟩ 1 1 [hv pr.length (g, cg)] rfl rfl ?d1 ?d2 ?d3 ?d4 ?d5 ?_)
              case d1 => exact cell_one_new _ _ _
              case d2 => intro u hu; simp only [List.mem_cons, List.not_mem_nil, or_false] at hu; subst hu; rfl
              case d3 => rw [Hlk.out]; unfold maxLen; omega
              case d4 => rw [Hlk.out]; omega
              case d5 => simp; omega
              intro v' w7 hown hgr _
              have hG7 := HG.out.snoc HB6.out (p := (g, cg)) (r := pr) Hblk.out g1 HBr.out.size Hg2.out (by rw [Hlk.out]; simpa [prodM_length, Hx.out.len, Nat.min_eq_left hq] using hown) (by simpa using hgr)
              rw [← htk.out] at hG7
              have hB7 : Below w5.heap.size w5 w7 := ((HBr.out.trans (HB6.out.mono HBr.out.size)).alloc (by omega) _).grown hgr (by simp; omega) (fun q hq => (owns_block HG.out.outer hq).2.1)
              have HG7 := Lib.hid hG7
              have HB7 := Lib.hid hB7
              clear hown hgr hG7 hB7
              go_wp2_with fail
              go_roundg (d - q - 1)
              case measure => have := Hgq.out; omega
              case rel => exact ⟨q + 1, by have := Hgq.out; omega, by go_num, ⟨_, HG7.out⟩, HB7.out⟩
            · have hkn : (prodM bk (selP parts d)).take q = prodM bk (selP parts d) := List.take_of_length_le (by rw [prodM_length, Hx.out.len]; omega)
              obtain ⟨hd', hG⟩ := hG.out
              rw [hkn] at hG
              obtain ⟨og, hog⟩ : ∃ og, prodM bk (selP parts d) = og := ⟨_, rfl⟩
              have hRo : Rect L og := by rw [← hog]; exact prodM_rect HRP.out (by rw [HsPl.out]; omega)
              have hlo : og.length = d := by rw [← hog, prodM_length, Hx.out.len]
              rw [hog] at hG
              obtain ⟨bO, cO, hvO, hcO, _, hOO⟩ := hG.done (by intro h; rw [h] at hlo; simp at hlo; omega)
              rw [hlo] at hvO hcO
              obtain ⟨w8, rfl⟩ : ∃ w8 : World, w8 = wr := ⟨_, rfl⟩
              subst hvO
              have HMO := Lib.hid hOO.mxAt
              have Hog := Lib.hid hog
              have HRo := Lib.hid hRo
              have Hlo' := Lib.hid hlo
              have HB8 := Lib.hid (HB5.out.trans (hB.out.mono HB5.out.size))
              have HOR8 := Lib.hid (HOR5.out.new hB.out)
              have hz8 := HB8.out.size
              clear hG hkn hB hOO hog hRo hlo
              go_wp2_with fail
              go_loopg [14, 16] parts.length (fun gk v i wr => ∃ q : Nat, q + gk = parts.length ∧ i = .int .i64 q ∧ Hid (∃ hd', GM wr w8.heap.size v hd' ((prodM (rowsM d (parts.length - d)) og).take q)) ∧ Hid (Below w8.heap.size w8 wr))
              case atStart => exact ⟨0, by omega, rfl, ⟨[], GM.nil _ _⟩, Below.refl _ _⟩
              case round =>
                obtain ⟨z, hgz, rfl, hG, hB⟩ := hrel
                have Hgz := Lib.hid hgz
                have hz : z ≤ parts.length := by omega
                clear hgz
                by_cases hltz : z < parts.length
                · obtain ⟨hd2, hG⟩ := hG.out
                  have hrg : (rowsM d (parts.length - d))[z]? = some ((rowsM d (parts.length - d)).getD z []) := getD_some (by rw [HRl.out]; exact hltz)
                  have hrr := (rowsM_rect d (parts.length - d)).get (i := z) (by rw [HRl.out]; exact hltz)
                  obtain ⟨p, hp⟩ : ∃ p, hdR[z]? = some p := ⟨hdR.getD z (0, 0), getD_some (by rw [HOR8.out.len, HRl.out]; exact hltz)⟩
                  have hpc := (HOR8.out.outer.below hB.out HOR8.out.outer.lt).cell (hvs_get hp hrg)
                  obtain ⟨hpb, _, hpl⟩ := HOR8.out.rows _ p _ hp hrg
                  rw [hrr.1] at hpc hpl
                  unfold hv at hpc
                  have Hrow := Lib.hid (hpb.below hB.out hpb.lt).row
                  have Hrr := Lib.hid hrr
                  have HMx := Lib.hid (HMO.out.new hB.out)
                  have htk := Lib.hid (prodM_take (b := og) hrg)
                  have HG := Lib.hid hG
                  have HBr := Lib.hid hB.out
                  have hzz : w8.heap.size ≤ wr.heap.size := hB.out.size
                  clear hG hB hrg hrr hp hpb
                  go_wp2_with fail
                  refine (combined_any p.1 0 p.2 bO 0 cO L d d ((rowsM d (parts.length - d)).getD z []) og _ _ wr Hrr.out.1 Hlo'.out Hrow.out HMx.out hcO HRo.out rfl hd1 (by omega) (by omega) hL1 Hrr.out.2).mono ?_
                  rintro e w6 ⟨g, cg, rfl, g1, g2, g3, hblk, hB6⟩
                  have Hlk := Lib.hid (show ((prodM (rowsM d (parts.length - d)) og).take z).length = z by rw [List.length_take, prodM_length, HRl.out]; omega)
                  rw [row0_of HRo.out (by rw [Hlo'.out]; omega), Hlo'.out] at htk
                  generalize prTo ((rowsM d (parts.length - d)).getD z []) og L d = pr at *
                  have Hblk := Lib.hid hblk
                  have HB6 := Lib.hid hB6
                  have HGo := Lib.hid ((HG.out.new hB6).outer)
                  have Hg2 := Lib.hid g2
                  have hz6 := hB6.size
                  clear hblk hB6 g2 g3 hpc
                  go_wp2_with (at_builtin; refine wpList_append_own _ rfl _ _ 39 rfl w8.heap.size 26 j0 (.slice none 0 0) 1 24 Try.underlying39 gi gz0 gz1 gz2 rfl (by decide) _ _ _ rfl (HGo.out.alloc _) ⟨w6.heap.size, 0, none⟩ 1 1 [hv pr.length (g, cg)] rfl rfl ?d1 ?d2 ?d3 ?d4 ?d5 ?_)
                  case d1 => exact cell_one_new _ _ _
                  case d2 => intro u hu; simp only [List.mem_cons, List.not_mem_nil, or_false] at hu; subst hu; rfl
                  case d3 => rw [Hlk.out]; unfold maxLen; omega
                  case d4 => rw [Hlk.out]; omega
                  case d5 => simp; omega
                  intro v' w7 hown hgr _
                  have hG7 := HG.out.snoc HB6.out (p := (g, cg)) (r := pr) Hblk.out g1 HBr.out.size Hg2.out (by rw [Hlk.out]; simpa [prodM_length, HRl.out, Nat.min_eq_left hz] using hown) (by simpa using hgr)
                  rw [← htk.out] at hG7
                  have hB7 : Below w8.heap.size w8 w7 := ((HBr.out.trans (HB6.out.mono HBr.out.size)).alloc (by omega) _).grown hgr (by simp; omega) (fun q hq => (owns_block HG.out.outer hq).2.1)
                  have HG7 := Lib.hid hG7
                  have HB7 := Lib.hid hB7
                  clear hown hgr hG7 hB7
                  go_wp2_with fail
                  go_roundg (parts.length - z - 1)
                  case measure => have := Hgz.out; omega
                  case rel => exact ⟨z + 1, by have := Hgz.out; omega, by go_num, ⟨_, HG7.out⟩, HB7.out⟩
                · have hkn : (prodM (rowsM d (parts.length - d)) og).take z = wholeM parts d := by
                    rw [List.take_of_length_le (by rw [prodM_length, HRl.out]; omega)]
                    unfold wholeM
                    rw [Hbk.out, Hog.out]
                  obtain ⟨hd2, hG⟩ := hG.out
                  rw [hkn] at hG
                  have HG := Lib.hid hG
                  have HBr := Lib.hid hB.out
                  clear hG hkn hB
                  go_wp2_with fail
                  go_ret2
                  exact ⟨_, hd2, by rw [hr.out]; rfl, by rw [hr2.out]; exact HG.out.base hz8, HB8.out.trans (HBr.out.mono hz8)⟩

set_option maxRecDepth 100000 in
set_option maxHeartbeats 2000000 in
theorem rwhole_any (v : Value) (parts : List (List Nat)) (data : Int) (w : World) (hn : parts.length ≤ 1000000000) (hLm : ∀ j, j < parts.length → plen parts j ≤ maxLen) (hBy : BytM parts) (hm : Mx w v parts) (hd1 : -9223372036854775808 ≤ data) (hd2 : data ≤ 9223372036854775807) :
    Calls Try.prog 61 #[v, .int .i64 data] w (RowsErr (wRows parts data) (wErr parts data) w) := by
  by_cases hE : parErr parts data = 0
  · obtain ⟨q1, q2, q3, q4⟩ := parErr_in hE
    have hm' := hm
    obtain ⟨a, cap, rfl, hcap, h⟩ := hm
    rcases h with h | ⟨b, o, A, C, rfl, hM⟩
    · rw [h] at q3; simp at q3
    obtain ⟨d, rfl⟩ : ∃ d : Nat, data = d := ⟨data.toNat, by omega⟩
    have e1 : wErr parts d = wholeErr parts d := by unfold wErr; rw [if_pos hE]; rfl
    have e2 : wRows parts d = wholeRows parts d := by unfold wRows; rw [if_pos hE]; rfl
    rw [e1, e2]
    exact rwhole_loop b o cap d parts A C w hM hm' hE hLm hBy
  · have e1 : wErr parts data = parErr parts data := by unfold wErr; rw [if_neg hE]
    have e2 : wRows parts data = [] := by unfold wRows; rw [if_neg hE]
    rw [e1, e2]
    have Hm := Lib.hid hm
    have HLm := Lib.hid hLm
    obtain ⟨pe, hpe⟩ : ∃ pe, parErr parts data = pe := ⟨_, rfl⟩
    have tP : ((pe : Int) != 0) = true := by rw [bne_iff_ne]; rw [hpe] at hE; omega
    have Hpe := Lib.hid hpe
    obtain ⟨a, cap, rfl, hcap, h⟩ := hm
    clear hE e1 e2 hpe h hBy hLm
    go_enter Try.func61, Try.ntmps61
    go_wp2_with fail
    refine (rCheck54_any _ parts data _ (by omega) HLm.out Hm.out hd1 hd2).mono ?_
    rintro e w1 ⟨rfl, rfl⟩
    rw [Hpe.out]
    go_wp2_with fail
    go_ret2
    exact ⟨.slice none 0 0, [], by rw [Hpe.out]; rfl, GM.nil _ _, Below.refl _ _⟩
end Go.Proofs.Ytlbomlolomcolaa

namespace Go.Proofs.Ytlbomlolomcolaa
open Go.RowKit

def xorR (r s : List Nat) : List Nat := List.zipWith (fun x y => x ^^^ y) r s
def addM (a b : List (List Nat)) : List (List Nat) := List.zipWith xorR a b
theorem xorR_length {r s : List Nat} {c : Nat} (hr : r.length = c) (hs : s.length = c) : (xorR r s).length = c := by simp [xorR, hr, hs]
theorem addM_length {a b : List (List Nat)} {n : Nat} (ha : a.length = n) (hb : b.length = n) : (addM a b).length = n := by simp [addM, ha, hb]
theorem xorR_take {r s : List Nat} {j x y : Nat} (hx : r[j]? = some x) (hy : s[j]? = some y) : (xorR r s).take (j + 1) = (xorR r s).take j ++ [x ^^^ y] := by
  rw [List.take_add_one]; unfold xorR; rw [List.getElem?_zipWith, hx, hy]; rfl
theorem addM_take {a b : List (List Nat)} {k : Nat} {r s : List Nat} (hr : a[k]? = some r) (hs : b[k]? = some s) : (addM a b).take (k + 1) = (addM a b).take k ++ [xorR r s] := by
  rw [List.take_add_one]; unfold addM; rw [List.getElem?_zipWith, hr, hs]; rfl

set_option maxRecDepth 100000 in
set_option maxHeartbeats 4000000 in
theorem add_in (ba oa capa bb ob capb c N : Nat) (a b : List (List Nat)) (A B : Nat → Option Addr) (C E : Nat → Nat) (w : World) (hMa : MxAt w ba oa a A C) (hMb : MxAt w bb ob b B E) (ha : Rect c a) (hb : Rect c b) (la : a.length = N) (lb : b.length = N) (hN : N ≤ 64) (hc1 : 1 ≤ c) (hc2 : c ≤ 65536) :
    Calls Try.prog 31 #[.slice (some ⟨ba, oa, none⟩) N capa, .slice (some ⟨bb, ob, none⟩) N capb] w (RowsRet (addM a b) w) := by
  obtain ⟨i0, hi, hz0, hz1, hz2⟩ := info_parts infoByte
  obtain ⟨j0, gi, gz0, gz1, gz2⟩ := info_parts infoBytes
  have HMa := Lib.hid hMa
  have HMb := Lib.hid hMb
  have Ha := Lib.hid ha
  have Hb := Lib.hid hb
  have La := Lib.hid la
  have Lb := Lib.hid lb
  have Lab := Lib.hid (addM_length la lb)
  clear hMa hMb ha hb la lb
  go_enter Try.func31, Try.ntmps31
  go_wp2_with fail
  go_loopg [5, 6] N (fun gk v i wr => ∃ k : Nat, k + gk = N ∧ i = .int .i64 k ∧ Hid (∃ hd, GM wr w.heap.size v hd ((addM a b).take k)) ∧ Hid (Below w.heap.size w wr))
  case atStart => exact ⟨0, by omega, rfl, ⟨[], GM.nil _ _⟩, Below.refl _ _⟩
  case round =>
    obtain ⟨k, hgk, rfl, hG, hB⟩ := hrel
    have Hgk := Lib.hid hgk
    have hk : k ≤ N := by omega
    clear hgk
    by_cases hlt : k < N
    · obtain ⟨wo, rfl⟩ : ∃ wo : World, wo = wr := ⟨_, rfl⟩
      have ra := getD_some (l := a) (d := []) (i := k) (by rw [La.out]; exact hlt)
      have rb := getD_some (l := b) (d := []) (i := k) (by rw [Lb.out]; exact hlt)
      obtain ⟨r, hr⟩ : ∃ r, a.getD k [] = r := ⟨_, rfl⟩
      obtain ⟨s, hs⟩ : ∃ s, b.getD k [] = s := ⟨_, rfl⟩
      rw [hr] at ra
      rw [hs] at rb
      have hrR := Ha.out r (List.mem_of_getElem? ra)
      have hsR := Hb.out s (List.mem_of_getElem? rb)
      obtain ⟨p1, _, p3, _⟩ := HMa.out k r ra
      obtain ⟨q1, _, q3, _⟩ := HMb.out k s rb
      obtain ⟨b1, o1, hA, hr1⟩ : ∃ b1 o1, A k = some ⟨b1, o1, none⟩ ∧ RowAt w b1 o1 r := by
        rcases p3 with h | h
        · rw [h] at hrR; simp at hrR; omega
        · exact h
      obtain ⟨b2, o2, hA2, hr2⟩ : ∃ b1 o1, B k = some ⟨b1, o1, none⟩ ∧ RowAt w b1 o1 s := by
        rcases q3 with h | h
        · rw [h] at hsR; simp at hsR; omega
        · exact h
      rw [hA, hrR.1] at p1
      rw [hA2, hsR.1] at q1
      have Hr1 := Lib.hid hr1
      have Hr2 := Lib.hid hr2
      have HrR := Lib.hid hrR
      have HsR := Lib.hid hsR
      have P1 := Lib.hid p1
      have Q1 := Lib.hid q1
      have Htk := Lib.hid (addM_take ra rb)
      have Hxl := Lib.hid (xorR_length hrR.1 hsR.1)
      clear ra rb hr hs hrR hsR p1 p3 q1 q3 hA hA2 hr1 hr2
      go_wp2_with fail
      go_loopg [7, 8] c (fun gk v i wr => ∃ j : Nat, j + gk = c ∧ i = .int .i64 j ∧ Hid (wr.ownsRow wo.heap.size 5 1 v j (((xorR r s).take j).map bv)) ∧ Hid (Below wo.heap.size wo wr))
      case atStart => exact ⟨0, by omega, rfl, World.ownsRow_nil _ _ _ _, Below.refl _ _⟩
      case round =>
        obtain ⟨j, hgj, rfl, hO, hBr⟩ := hrel
        have Hgj := Lib.hid hgj
        have hj : j ≤ c := by omega
        have hbw := hB.out.trans (hBr.out.mono hB.out.size)
        have p1 := (hbw.cell (p := ⟨ba, oa + k, none⟩) (World.block_lt_of_cell? w _ P1.out)).trans P1.out
        have q1 := (hbw.cell (p := ⟨bb, ob + k, none⟩) (World.block_lt_of_cell? w _ Q1.out)).trans Q1.out
        clear hgj
        by_cases hlt2 : j < c
        · have hx := getD_some (l := r) (d := 0) (i := j) (by rw [HrR.out.1]; exact hlt2)
          have hy := getD_some (l := s) (d := 0) (i := j) (by rw [HsR.out.1]; exact hlt2)
          have x1 := (Hr1.out.new hbw) j _ hx
          have y1 := (Hr2.out.new hbw) j _ hy
          have hx2 := HrR.out.2.getD j
          have hy2 := HsR.out.2.getD j
          have htk := Lib.hid (xorR_take hx hy)
          generalize r.getD j 0 = x at *
          generalize s.getD j 0 = y at *
          have e1 : bits .xor .u8 (x : Int) (y : Int) = ((x ^^^ y : Nat) : Int) := xor_u8 x y (by omega) (by omega)
          have hz3 : wo.heap.size ≤ wr.heap.size := hBr.out.size
          obtain ⟨ap, cp, hvp⟩ := owns_slice hO.out
          subst hvp
          unfold bv at x1 y1
          clear hx hy hbw
          go_wp2_with fail
          go_region_law (first
            | (refine step_append_lies _ rfl (.tmp 39) (.tmp 55) 26 rfl wo.heap.size 5 i0 (.int .u8 0) 1 1 Try.underlying26 hi hz0 hz1 hz2 rfl (by decide) (.slice ap j cp) j _ rfl (owns_kept hO.out (show Kept (fun _ => False) wr _ from by repeat (first | exact Kept.refl _ _ | apply Kept.drew | apply Kept.alloc)) (fun _ _ => id)) ⟨_, 0, none⟩ 1 1 [.int .u8 ((x ^^^ y : Nat) : Int)] rfl rfl (cell_one_at (T := 5) (by (try apply Blk.dr); exact Blk.new _ _ _)) (by intro u hu; simp only [List.mem_cons, List.not_mem_nil, or_false] at hu; subst hu; rfl) (by decide) (by unfold maxLen; omega) (by omega) (by simp; omega) _ rfl ?_; intro gS cS wS hownS hgS hatS hltS))
          all_goals
            have Hown := Lib.hid (show wS.ownsRow wo.heap.size 5 1 (.slice (some ⟨gS, 0, none⟩) (j + 1) cS) (j + 1) (((xorR r s).take (j + 1)).map bv) by rw [htk.out, List.map_append]; exact hownS)
            have HB5 := Lib.hid (show Below wo.heap.size wo wS from Below.grown (B := wo.heap.size) (by first | exact (hBr.out.alloc hz3 _).drew | exact (hBr.out.drew.alloc hz3 _)) hgS (by first | (show wo.heap.size ≤ (wr.alloc _).heap.size; simp; omega)) (fun q hq => (owns_block hO.out hq).2.1))
            clear hownS hgS hatS hltS
            go_wp2_with fail
            go_roundg (c - j - 1)
            case measure => have := Hgj.out; omega
            case rel => exact ⟨j + 1, by have := Hgj.out; omega, by go_num, Hown.out, HB5.out⟩
        · have hjm : (xorR r s).take j = xorR r s := List.take_of_length_le (by rw [Hxl.out]; omega)
          have hO' := hO.out
          have hjc : j = c := by omega
          rw [hjm, hjc] at hO'
          obtain ⟨hd, hG⟩ := hG.out
          obtain ⟨g, cg, hv', g1, g3, g4⟩ := ne_of_owns hO' (by omega)
          rw [hv'] at hO'
          have Hblk := Lib.hid (Blk.of_owns hO')
          have HG := Lib.hid hG
          have HGo := Lib.hid ((hG.new hBr.out).outer)
          have hzr : w.heap.size ≤ wr.heap.size := by have := hB.out.size; have := hBr.out.size; omega
          have hlk : ((addM a b).take k).length = k := by rw [List.length_take, Lab.out]; omega
          have Hlk := Lib.hid hlk
          rw [hv']
          subst hjc
          clear hjm hO' hv' hG hO hlk hbw
          go_wp2_with (at_builtin; refine wpList_append_own _ rfl _ _ 39 rfl w.heap.size 26 j0 (.slice none 0 0) 1 24 Try.underlying39 gi gz0 gz1 gz2 rfl (by decide) _ _ _ rfl (HGo.out.alloc _) ⟨wr.heap.size, 0, none⟩ 1 1 [hv j (g, cg)] rfl rfl ?d1 ?d2 ?d3 ?d4 ?d5 ?_)
          case d1 => exact cell_one_new _ _ _
          case d2 => intro u hu; simp at hu; subst hu; rfl
          case d3 => rw [Hlk.out]; unfold maxLen; omega
          case d4 => rw [Hlk.out]; omega
          case d5 => simp; omega
          intro v' w5 hown hgr _
          rw [Lab.out, Nat.min_eq_left hk] at hown
          have hG5 := HG.out.snoc hBr.out (p := (g, cg)) (r := xorR r s) Hblk.out g1 hB.out.size (by rw [Hxl.out]; exact g3) (by rw [Hlk.out, Hxl.out]; exact hown) hgr
          rw [← Htk.out] at hG5
          have hB5 : Below w.heap.size w w5 := ((hB.out.trans (hBr.out.mono hB.out.size)).alloc hzr _).grown hgr (by simp; omega) (fun q hq => (owns_block HG.out.outer hq).2.1)
          have HG5 := Lib.hid hG5
          have HB5 := Lib.hid hB5
          clear hown hgr hG5 hB5
          go_wp2_with fail
          go_roundg (N - k - 1)
          case measure => have := Hgk.out; omega
          case rel => exact ⟨k + 1, by have := Hgk.out; omega, by go_num, ⟨_, HG5.out⟩, HB5.out⟩
    · have hkn : (addM a b).take k = addM a b := List.take_of_length_le (by rw [Lab.out]; omega)
      obtain ⟨hd, hG⟩ := hG.out
      rw [hkn] at hG
      have HG := Lib.hid hG
      clear hG hkn
      go_wp2_with fail
      go_ret
      exact ⟨_, hd, rfl, HG.out, hB.out⟩
end Go.Proofs.Ytlbomlolomcolaa

namespace Go.Proofs.Ytlbomlolomcolaa
open Go.RowKit

theorem xorR_byt {r s : List Nat} (hr : Byt r) (hs : Byt s) : Byt (xorR r s) := by
  intro x hx
  obtain ⟨i, hi⟩ := List.mem_iff_getElem?.1 hx
  unfold xorR at hi
  rw [List.getElem?_zipWith] at hi
  cases h1 : r[i]? with
  | none => rw [h1] at hi; simp at hi
  | some a =>
    cases h2 : s[i]? with
    | none => rw [h1, h2] at hi; simp at hi
    | some b =>
      rw [h1, h2] at hi
      simp only [Option.some.injEq] at hi
      rw [← hi]
      exact Gf.xor_lt (hr.get h1) (hs.get h2)
theorem addM_rect {a b : List (List Nat)} {c : Nat} (ha : Rect c a) (hb : Rect c b) : Rect c (addM a b) := by
  intro x hx
  obtain ⟨i, hi⟩ := List.mem_iff_getElem?.1 hx
  unfold addM at hi
  rw [List.getElem?_zipWith] at hi
  cases h1 : a[i]? with
  | none => rw [h1] at hi; simp at hi
  | some r =>
    cases h2 : b[i]? with
    | none => rw [h1, h2] at hi; simp at hi
    | some s =>
      rw [h1, h2] at hi
      simp only [Option.some.injEq] at hi
      rw [← hi]
      have q1 := ha r (List.mem_of_getElem? h1)
      have q2 := hb s (List.mem_of_getElem? h2)
      exact ⟨xorR_length q1.1 q2.1, xorR_byt q1.2 q2.2⟩
open Alg in
theorem ent_add {a b : List (List Nat)} {c n : Nat} (ha : Rect c a) (hb : Rect c b) (la : a.length = n) (lb : b.length = n) {i j : Nat} (hi : i < n) (hj : j < c) : ent (addM a b) i j = ga (ent a i j) (ent b i j) := by
  have r1 := getD_some (l := a) (d := []) (i := i) (by omega)
  have r2 := getD_some (l := b) (d := []) (i := i) (by omega)
  have q1 := ha.get (i := i) (by omega)
  have q2 := hb.get (i := i) (by omega)
  have e : (addM a b).getD i [] = xorR (a.getD i []) (b.getD i []) := by
    rw [List.getD_eq_getElem?_getD]; unfold addM; rw [List.getElem?_zipWith, r1, r2]; rfl
  unfold ent
  rw [e]
  generalize a.getD i [] = r at *
  generalize b.getD i [] = s at *
  have x1 := getD_some (l := r) (d := 0) (i := j) (by omega)
  have x2 := getD_some (l := s) (d := 0) (i := j) (by omega)
  have e2 : (xorR r s).getD j 0 = r.getD j 0 ^^^ s.getD j 0 := by
    rw [List.getD_eq_getElem?_getD]; unfold xorR; rw [List.getElem?_zipWith, x1, x2]; rfl
  rw [e2, tg_xor (q1.2.getD j) (q2.2.getD j)]
open Alg in
/-- The recovery parts of sums are the sums of the recovery parts. -/
theorem rec_add {x y : List (List Nat)} {c d n : Nat} (hx : Rect c x) (hy : Rect c y) (lx : x.length = d) (ly : y.length = d) (h1 : 1 ≤ d) (hc1 : 1 ≤ c) (hc2 : c ≤ 65536) (hn : d + n ≤ 64) : recRows (addM x y) n = addM (recRows x n) (recRows y n) := by
  have hxy := addM_rect hx hy
  have lxy := addM_length lx ly
  rw [recRows_ok (recErr_ok hx hc1 hc2 (by omega) (by omega)), recRows_ok (recErr_ok hy hc1 hc2 (by omega) (by omega)), recRows_ok (recErr_ok hxy hc1 hc2 (by omega) (by omega)), lx, ly, lxy]
  have hC : Rect d (cauM n d) := fun r hr => rowsM_rect d n r (by unfold rowsM; exact List.mem_append_right _ hr)
  have px : Rect c (prodM (cauM n d) x) := prodM_rect hx (by omega)
  have py : Rect c (prodM (cauM n d) y) := prodM_rect hy (by omega)
  have lp : ∀ b : List (List Nat), (prodM (cauM n d) b).length = n := fun b => by rw [prodM_length, cauM_length]
  refine ent_ext (n := n) (prodM_rect hxy (by omega)) (addM_rect px py) (lp _) (addM_length (lp _) (lp _)) fun i j hi hj => ?_
  rw [ent_add px py (lp _) (lp _) hi hj]
  rw [ent_prod hC hxy lxy (by rw [cauM_length]; exact hi) hj (row0_of hxy (by omega)), ent_prod hC hx lx (by rw [cauM_length]; exact hi) hj (row0_of hx (by omega)), ent_prod hC hy ly (by rw [cauM_length]; exact hi) hj (row0_of hy (by omega))]
  unfold mul
  rw [← S_ga]
  exact S_congr fun k hk => by rw [ent_add hx hy lx ly hk hj, gx_ga]

set_option maxRecDepth 100000 in
set_option maxHeartbeats 2000000 in
theorem add_nil (a b : Option Addr) (ca cb : Nat) (w : World) : Calls Try.prog 31 #[.slice a 0 ca, .slice b 0 cb] w (RowsRet [] w) := by
  go_enter Try.func31, Try.ntmps31
  go_wp2_with fail
  go_loopg [5, 6] 0 (fun gk v i wr => gk = 0 ∧ v = .slice none 0 0 ∧ i = .int .i64 0 ∧ w = wr)
  case atStart => exact ⟨rfl, rfl, rfl, rfl⟩
  case round =>
    obtain ⟨_, rfl, rfl, rfl⟩ := hrel
    go_wp2_with fail
    go_ret
    exact ⟨_, [], rfl, GM.nil _ _, Below.refl _ _⟩

theorem add_any (va vb : Value) (c N : Nat) (a b : List (List Nat)) (w : World) (hMa : Mx w va a) (hMb : Mx w vb b) (ha : Rect c a) (hb : Rect c b) (la : a.length = N) (lb : b.length = N) (hN : N ≤ 64) (hc1 : 1 ≤ c) (hc2 : c ≤ 65536) :
    Calls Try.prog 31 #[va, vb] w (RowsRet (addM a b) w) := by
  obtain ⟨a1, c1, rfl, _, h1⟩ := hMa
  obtain ⟨a2, c2, rfl, _, h2⟩ := hMb
  by_cases h0 : N = 0
  · subst h0
    have ea := List.length_eq_zero_iff.1 la
    have eb := List.length_eq_zero_iff.1 lb
    subst ea; subst eb
    exact add_nil _ _ _ _ _
  · obtain ⟨b1, o1, A, C, rfl, M1⟩ : ∃ b o A C, a1 = some ⟨b, o, none⟩ ∧ MxAt w b o a A C := by
      rcases h1 with h | h
      · rw [h] at la; simp at la; omega
      · exact h
    obtain ⟨b2, o2, A2, C2, rfl, M2⟩ : ∃ b' o A C, a2 = some ⟨b', o, none⟩ ∧ MxAt w b' o b A C := by
      rcases h2 with h | h
      · rw [h] at lb; simp at lb; omega
      · exact h
    rw [la, lb]
    exact add_in b1 o1 c1 b2 o2 c2 c N a b A A2 C C2 w M1 M2 ha hb la lb hN hc1 hc2
end Go.Proofs.Ytlbomlolomcolaa

namespace Go.Proofs.Ytlbomlolomcolaa
open Go.RowKit

/-- Two slices of headers. -/
def TwoVM (X Y : List (List Nat)) (w : World) (s t : Value) (wx : World) : Prop := ∃ us vs, VM wx w.heap.size s us X ∧ VM wx w.heap.size t vs Y ∧ Below w.heap.size w wx
/-- What parts leaves at a later world. -/
def LaterRet (m : List (List Nat)) (w W : World) (e : Ending) (w' : World) : Prop := ∃ vo vs, e = .returned vo ∧ VM w' w.heap.size vo vs m ∧ Below W.heap.size W w' ∧ Below w.heap.size w w'
theorem LaterRet.of {m : List (List Nat)} {w W : World} (h : Below w.heap.size w W) {e : Ending} {w' : World} (k : VmRet m W e w') : LaterRet m w W e w' := by
  obtain ⟨vo, vs, he, hV, hB⟩ := k
  exact ⟨vo, vs, he, hV.mono h.size, hB, h.trans (hB.mono h.size)⟩
theorem Bs.cutTo {w : World} {a : Option Addr} {n cap : Nat} {l : List Nat} (h : Bs w (.slice a l.length cap) l) (hn : n ≤ l.length) : Bs w (.slice a n cap) (l.take n) := by
  obtain ⟨a', cap', hv, hc, h⟩ := h
  simp only [Value.slice.injEq] at hv
  obtain ⟨rfl, _, rfl⟩ := hv
  refine ⟨a, cap, by rw [List.length_take, Nat.min_eq_left hn], by rw [List.length_take]; omega, ?_⟩
  rcases h with h | ⟨b, o, h1, h2⟩
  · rw [h]; simp
  · exact Or.inr ⟨b, o, h1, h2.take n⟩

theorem byt_take {l : List Nat} (h : Byt l) (p : Nat) : Byt (l.take p) := fun x hx => h x (List.mem_of_mem_take hx)
theorem rec_rect {x : List (List Nat)} {c d n : Nat} (hx : Rect c x) (lx : x.length = d) (h1 : 1 ≤ d) (hc1 : 1 ≤ c) (hc2 : c ≤ 65536) (hn : d + n ≤ 64) : Rect c (recRows x n) ∧ (recRows x n).length = n := by
  rw [recRows_ok (recErr_ok hx hc1 hc2 (by omega) (by omega))]
  exact ⟨prodM_rect hx (by omega), by rw [prodM_length, cauM_length]⟩

set_option maxRecDepth 100000 in
set_option maxHeartbeats 16000000 in
theorem ParityAdds_walk (va : Value) (l : List Nat) (vb : Value) (m : List Nat) (rc : Nat) (w : World) (hma : Bs w va l) (hBa : Byt l) (hla : l.length ≤ maxLen) (hmb : Bs w vb m) (hBb : Byt m) (hlb : m.length ≤ maxLen) (hr : rc < 256) :
    Calls Try.prog 8 #[va, vb, .int .u8 rc] w fun e w' => e = .returned (.bool true) ∧ Below w.heap.size w w' := by
  have Ha := Lib.hid hma
  have Hb := Lib.hid hmb
  have HBa := Lib.hid hBa
  have HBb := Lib.hid hBb
  obtain ⟨a, capa, rfl, hcapa, _⟩ := hma
  obtain ⟨b, capb, rfl, hcapb, _⟩ := hmb
  have hlam := hla
  have hlbm := hlb
  unfold maxLen at hlam hlbm
  clear hBa hBb hla hlb
  by_cases ha60 : 60 < l.length
  · have t1 : decide ((60 : Int) < (l.length : Int)) = true := by simp; omega
    go_enter Try.func8, Try.ntmps8
    go_wp2_with fail
    refine (awake54_any _).mono ?_
    rintro e w6 ⟨rfl, hB6⟩
    go_wp2_with fail
    go_ret
    exact ⟨rfl, hB6⟩
  have t1 : decide ((60 : Int) < (l.length : Int)) = false := by simp; omega
  by_cases hb60 : 60 < m.length
  · have t2 : decide ((60 : Int) < (m.length : Int)) = true := by simp; omega
    go_enter Try.func8, Try.ntmps8
    go_wp2_with fail
    refine (awake54_any _).mono ?_
    rintro e w6 ⟨rfl, hB6⟩
    go_wp2_with fail
    go_ret
    exact ⟨rfl, hB6⟩
  have t2 : decide ((60 : Int) < (m.length : Int)) = false := by simp; omega
  obtain ⟨p, hp⟩ : ∃ p, min l.length m.length = p := ⟨_, rfl⟩
  have hpl : p ≤ l.length := by omega
  have hpm : p ≤ m.length := by omega
  have hpi : min (l.length : Int) (m.length : Int) = (p : Int) := by omega
  go_enter Try.func8, Try.ntmps8
  go_upto_region 3 with (fail)
  go_cut [7] (fun s7 wx => s7 = .int .i64 p ∧ w = wx)
  case first =>
    go_wp2_with fail
    all_goals
      go_meet
      refine ⟨?_, rfl⟩
      congr 1
      omega
  case rest =>
  obtain ⟨rfl, rfl⟩ := hcut
  obtain ⟨c, hc⟩ : ∃ c, c = 1 + p % 4 := ⟨_, rfl⟩
  have hc1 : 1 ≤ c := by omega
  have hc2 : c ≤ 4 := by omega
  obtain ⟨r4, hr4⟩ : ∃ r4 : Nat, (p : Int) % 4 = (r4 : Int) := ⟨p % 4, by omega⟩
  have e2 : r4 ≤ 3 := by omega
  have E4 := Lib.hid (show IntKind.i64.wrap (1 + (p : Int).tmod 4) = (c : Int) by rw [Int.tmod_eq_emod_of_nonneg (by omega), hr4, IntWalk.i64_in _ (by omega)]; omega)
  have hpl' : (p : Int) ≤ (capa : Int) := by omega
  have hpm' : (p : Int) ≤ (capb : Int) := by omega
  obtain ⟨X, hX⟩ : ∃ X, ptM (l.take p) c (ptN (l.take p) c) = X := ⟨_, rfl⟩
  obtain ⟨Y, hY⟩ : ∃ Y, ptM (m.take p) c (ptN (m.take p) c) = Y := ⟨_, rfl⟩
  have lp : (l.take p).length = p := by rw [List.length_take]; omega
  have mp : (m.take p).length = p := by rw [List.length_take]; omega
  have CA : Hid (∀ W, Below w.heap.size w W → Calls Try.prog 28 #[.slice a p capa, .int .i64 c] W (LaterRet X w W)) := by
    intro W hW
    rw [← hX]
    exact (parts_any _ (l.take p) c W ((Ha.out.cutTo hpl).new hW) (by omega) hc1 (by omega)).mono fun _ _ h => LaterRet.of hW h
  have CB : Hid (∀ W, Below w.heap.size w W → Calls Try.prog 28 #[.slice b p capb, .int .i64 c] W (LaterRet Y w W)) := by
    intro W hW
    rw [← hY]
    exact (parts_any _ (m.take p) c W ((Hb.out.cutTo hpm).new hW) (by omega) hc1 (by omega)).mono fun _ _ h => LaterRet.of hW h
  clear hc
  go_upto_region 4 with (fail)
  go_cut [8, 9] (fun s8 s9 wx => Hid (TwoVM X Y w s8 s9 wx))
  case first =>
    go_region_held3 (fun _ => True) (exact trivial) (first
      | (go_at_call 28
         (try rw [E4.out])
         with_reducible refine (CA.out _ ?_).mono ?_
         · first | exact (Below.refl _ _).drew | exact Below.refl _ _ | exact HB2.out
         rintro e w1 ⟨v1, vs1, rfl, hV1, hB1', hB1⟩
         have HV1 := Lib.hid hV1
         have HB1 := Lib.hid hB1
         have HB1' := Lib.hid hB1'
         clear hV1 hB1 hB1')
      | (go_at_call 28
         (try rw [E4.out])
         with_reducible refine (CB.out _ ?_).mono ?_
         · first | exact (Below.refl _ _).drew | exact Below.refl _ _ | exact HB1.out
         rintro e w2 ⟨v2, vs2, rfl, hV2, hB2', hB2⟩
         have HV2 := Lib.hid hV2
         have HB2 := Lib.hid hB2
         have HB2' := Lib.hid hB2'
         clear hV2 hB2 hB2'))
    all_goals
      go_wp2_with fail
      go_meet
      first | exact ⟨_, _, HV1.out.new HB2'.out, HV2.out, HB2.out⟩ | exact ⟨_, _, HV1.out, HV2.out.new HB1'.out, HB1.out⟩
  case rest =>
  obtain ⟨us, vs, hVx, hVy, hBx⟩ := hcut.out
  clear hcut CA CB E4
  obtain ⟨d, hd⟩ : ∃ d, ptN (l.take p) c = d := ⟨_, rfl⟩
  have hXl : X.length = d := by rw [← hX, ptM_length, hd]
  have hYl : Y.length = d := by rw [← hY, ptM_length, ← hd]; unfold ptN; rw [lp, mp]
  have hd8 : d ≤ 8 := by rw [← hd]; exact ptN_le _ c
  have HRx := Lib.hid (show Rect c X by rw [← hX]; exact ptM_rect (byt_take HBa.out p) (ptN_mul _ c))
  have HRy := Lib.hid (show Rect c Y by rw [← hY]; exact ptM_rect (byt_take HBb.out p) (ptN_mul _ c))
  obtain ⟨ax, cx, rfl⟩ := owns_slice hVx.outer
  obtain ⟨ay, cy, rfl⟩ := owns_slice hVy.outer
  have HMx := Lib.hid hVx.mx
  have HMy := Lib.hid hVy.mx
  have HBx := Lib.hid hBx
  rw [hXl] at HMx ⊢
  rw [hYl] at HMy ⊢
  have HXl := Lib.hid hXl
  have HYl := Lib.hid hYl
  obtain ⟨n, hn⟩ : ∃ n : Nat, (rc : Int) % 6 = (n : Int) := ⟨rc % 6, by omega⟩
  have hn5 : n ≤ 5 := by omega
  clear hVx hVy hBx hXl hYl hd lp mp hX hY hr4 e2 hp hpi hpl hpm hpl' hpm' t1 t2 ha60 hb60 Ha Hb HBa HBb
  by_cases hd0 : d = 0
  · subst hd0
    go_wp2_with fail
    refine (awake54_any _).mono ?_
    rintro e w6 ⟨rfl, hB6⟩
    go_wp2_with fail
    go_ret
    exact ⟨rfl, HBx.out.trans (hB6.mono HBx.out.size)⟩
  have t2 : ((d : Int) == 0) = false := by rw [beq_eq_false_iff_ne]; omega
  have t3 : ((d : Int) != (d : Int)) = false := by simp
  have t4 : ((n : Int) == (n : Int)) = true := by simp
  have hd1 : 1 ≤ d := by omega
  clear hd0
  have HEx := Lib.hid (recErr_ok (n := n) HRx.out hc1 (by omega) (by rw [HXl.out]; exact hd1) (by rw [HXl.out]; omega))
  have HEy := Lib.hid (recErr_ok (n := n) HRy.out hc1 (by omega) (by rw [HYl.out]; exact hd1) (by rw [HYl.out]; omega))
  have HRa := Lib.hid (addM_rect HRx.out HRy.out)
  have HAl := Lib.hid (addM_length HXl.out HYl.out)
  have HEa := Lib.hid (recErr_ok (n := n) HRa.out hc1 (by omega) (by rw [HAl.out]; exact hd1) (by rw [HAl.out]; omega))
  have HAdd := Lib.hid (rec_add (n := n) HRx.out HRy.out HXl.out HYl.out hd1 hc1 (by omega) (by omega))
  obtain ⟨qx1, qx2⟩ := rec_rect (n := n) HRx.out HXl.out hd1 hc1 (by omega) (by omega)
  obtain ⟨qy1, qy2⟩ := rec_rect (n := n) HRy.out HYl.out hd1 hc1 (by omega) (by omega)
  have HQx := Lib.hid qx1
  have HQxl := Lib.hid qx2
  have HQy := Lib.hid qy1
  have HQyl := Lib.hid qy2
  clear qx1 qx2 qy1 qy2
  go_wp2_with fail
  refine (pRecovery_any _ X n _ (by rw [HXl.out]; omega) (rect_byt HRx.out) HMx.out (by omega) (by omega)).mono ?_
  rintro e w1 ⟨v1, hd1', rfl, hG1, hB1⟩
  rw [HEx.out]
  have HM1 := Lib.hid hG1.mx
  have HMx1 := Lib.hid (HMx.out.new hB1)
  have HMy1 := Lib.hid (HMy.out.new hB1)
  have HB1 := Lib.hid (HBx.out.trans (hB1.mono HBx.out.size))
  obtain ⟨a1, c1, rfl, _, _⟩ := hG1.mx
  rw [HQxl.out] at HM1 ⊢
  clear hG1 hB1 HMx HMy HEx HBx
  go_wp2_with fail
  refine (pRecovery_any _ Y n _ (by rw [HYl.out]; omega) (rect_byt HRy.out) HMy1.out (by omega) (by omega)).mono ?_
  rintro e w2 ⟨v2, hd2', rfl, hG2, hB2⟩
  rw [HEy.out]
  have HM2 := Lib.hid hG2.mx
  have HM12 := Lib.hid (HM1.out.new hB2)
  have HMx2 := Lib.hid (HMx1.out.new hB2)
  have HMy2 := Lib.hid (HMy1.out.new hB2)
  have HB2 := Lib.hid (HB1.out.trans (hB2.mono HB1.out.size))
  clear hG2 hB2 HMx1 HMy1 HEy HB1 HM1
  go_wp2_with fail
  refine (add_any _ _ c d X Y _ HMx2.out HMy2.out HRx.out HRy.out HXl.out HYl.out (by omega) hc1 (by omega)).mono ?_
  rintro e w3 ⟨v3, hd3', rfl, hG3, hB3⟩
  have HM3 := Lib.hid hG3.mx
  have HM13 := Lib.hid (HM12.out.new hB3)
  have HM23 := Lib.hid (HM2.out.new hB3)
  have HB3 := Lib.hid (HB2.out.trans (hB3.mono HB2.out.size))
  clear hG3 hB3 HMx2 HMy2 HB2 HM12 HM2
  go_wp2_with fail
  refine (pRecovery_any _ (addM X Y) n _ (by rw [HAl.out]; omega) (rect_byt HRa.out) HM3.out (by omega) (by omega)).mono ?_
  rintro e w4 ⟨v4, hd4', rfl, hG4, hB4⟩
  rw [HEa.out]
  rw [HAdd.out] at hG4
  have HM4 := Lib.hid hG4.mx
  have HM14 := Lib.hid (HM13.out.new hB4)
  have HM24 := Lib.hid (HM23.out.new hB4)
  have HB4 := Lib.hid (HB3.out.trans (hB4.mono HB3.out.size))
  clear hG4 hB4 HM3 HM13 HM23 HB3 HEa
  go_wp2_with fail
  refine (awake54_any _).mono ?_
  rintro e w5 ⟨rfl, hB5⟩
  have HM5 := Lib.hid (HM4.out.new hB5)
  have HM15 := Lib.hid (HM14.out.new hB5)
  have HM25 := Lib.hid (HM24.out.new hB5)
  have HB5 := Lib.hid (HB4.out.trans (hB5.mono HB4.out.size))
  clear hB5 HM4 HM14 HM24 HB4
  go_wp2_with fail
  refine (add_any _ _ c n (recRows X n) (recRows Y n) _ HM15.out HM25.out HQx.out HQy.out HQxl.out HQyl.out (by omega) hc1 (by omega)).mono ?_
  rintro e w6 ⟨v6, hd6', rfl, hG6, hB6⟩
  have HM6 := Lib.hid hG6.mx
  have HM56 := Lib.hid (HM5.out.new hB6)
  have HB6 := Lib.hid (HB5.out.trans (hB6.mono HB5.out.size))
  have HSb := Lib.hid (rect_byt (addM_rect HQx.out HQy.out))
  have HSl := Lib.hid (addM_length HQxl.out HQyl.out)
  clear hG6 hB6 HM5 HM15 HM25 HB5
  generalize addM (recRows X n) (recRows Y n) = S at *
  go_wp2_with fail
  refine (rSame_any v6 _ S S _ (by rw [HSl.out]; omega) HSb.out HSb.out HM6.out HM56.out).mono ?_
  rintro e w7 ⟨rfl, q7, hq7⟩
  rw [sameB_self]
  have HB7 := Lib.hid (show Below w.heap.size w w7 by rw [hq7]; exact below_drewN HB6.out q7)
  clear hq7
  go_wp2_with fail
  go_ret
  exact ⟨rfl, HB7.out⟩
end Go.Proofs.Ytlbomlolomcolaa

namespace Go.Proofs.Ytlbomlolomcolaa
open Go.ChangeShapes Go.WideShapes Go.ChangeAt Go.RowKit

set_option maxRecDepth 100000 in
theorem open_bytes_cell {H : Type} {enc : TypeId × Value → H} {W : World} {n : Nat} {v : Value} {y : DataW H × List MemPlace} (h : DataW.trod enc Try.prog W 0 (fun _ => true) true n 26 [v] = some y) :
    ∃ l : List Nat, Bs W v l ∧ Byt l ∧ l.length ≤ maxLen := by
  rcases open_ints Try.underlying26 Try.underlying5 (by kernel_rfl) h with ⟨hcs, _⟩ | ⟨a, len, cap, zs, hcs, _, hl, hm, hz, _, hc, hw⟩
  · simp only [List.cons.injEq, and_true] at hcs
    subst hcs
    exact ⟨[], ⟨none, 0, rfl, Nat.le_refl _, Or.inl rfl⟩, fun x hx => by simp at hx, Nat.zero_le _⟩
  · simp only [List.cons.injEq, and_true] at hcs
    subst hcs
    simp only [if_true] at hz
    have hb : ∀ i, i < zs.length → (0 : Int) ≤ zs.getD i 0 ∧ zs.getD i 0 < 256 := by
      intro i hi
      have := bounds_u8 (hw (zs.getD i 0) (List.mem_of_getElem? (getD_some hi)))
      omega
    have hlen : ((zs.take len).map Int.toNat).length = len := by simp; omega
    refine ⟨(zs.take len).map Int.toNat, ⟨some a, cap, by rw [hlen], by omega, ?_⟩, ?_, by omega⟩
    · by_cases h0 : len = 0
      · left; subst h0; simp
      · right
        have hp := addr_plain (hc 0 (by omega))
        have hp' : a.spot = none := by
          have : a.add 0 = a := by unfold Addr.add; simp
          rw [this] at hp; exact hp
        refine ⟨a.block, a.off, by obtain ⟨b, o, s⟩ := a; simp only at hp'; subst hp'; rfl, ?_⟩
        intro i x hx
        have hi : i < len := by have := (List.getElem?_eq_some_iff.1 hx).1; omega
        have h1 := hc i (by omega)
        rw [add_plain hp'] at h1
        rw [h1]
        have hb' := hb i (by omega)
        rw [List.getElem?_map, List.getElem?_take_of_lt hi, getD_some (l := zs) (d := 0) (by omega)] at hx
        simp only [Option.map_some, Option.some.injEq] at hx
        unfold bv
        rw [← hx, Int.toNat_of_nonneg hb'.1]
    · intro x hx
      obtain ⟨z, hz', rfl⟩ := List.mem_map.1 hx
      have := bounds_u8 (hw z (List.mem_of_mem_take hz'))
      omega

set_option maxRecDepth 100000 in
theorem open_bytes {H : Type} {enc : TypeId × Value → H} {W : World} {base : Nat} {v : Value} {d : DataW H} {p : List MemPlace} (hv : Value.okWide Try.prog W .any base 26 v) (h : DataW.Trod enc Try.prog W 0 (fun _ => true) true 26 v d p) :
    ∃ l : List Nat, Bs W v l ∧ Byt l ∧ l.length ≤ maxLen := by
  obtain ⟨a0, len0, cap0, rfl⟩ := okWide_slice Try.underlying26 hv
  obtain ⟨fuel, hf⟩ := h
  exact open_bytes_cell hf

set_option maxRecDepth 100000 in
theorem open_change {H : Type} {enc : TypeId × Value → H} {W : World} {base : Nat} {v : Value} {d : DataW H} {p : List MemPlace} (hv : Value.okWide Try.prog W .any base 50 v) (h : DataW.Trod enc Try.prog W 0 (fun _ => true) true 50 v d p) :
    ∃ (a : Int) (vp : Value) (l : List Nat), v = .agg #[.int .i64 a, vp] ∧ (-9223372036854775808 ≤ a ∧ a ≤ 9223372036854775807) ∧ Bs W vp l ∧ Byt l ∧ l.length ≤ maxLen := by
  obtain ⟨c0, c1, y0, y1, m, rfl, rfl, rfl, hy0, hy1⟩ := Joins.open_agg2 Try.underlying50 (by kernel_rfl) (by kernel_rfl) hv h
  obtain ⟨a, e0, rfl, wa⟩ := DataW.trod_int Try.underlying3 hy0
  simp at e0
  subst e0
  obtain ⟨l, h1, h2, h3⟩ := open_bytes_cell hy1
  exact ⟨a, c1, l, rfl, i64_bounds wa, h1, h2, h3⟩
end Go.Proofs.Ytlbomlolomcolaa

namespace Go.Proofs.Ytlbomlolomcolaa
open Go.ChangeShapes Go.WideShapes Go.ChangeAt Go.RowKit
open Go.ChangeMaps (open_string shut_string)
set_option linter.unusedVariables false

set_option maxRecDepth 100000 in
theorem ParityAdds_lifted (os : Os) (started : os.Started) (H : Type) (enc : TypeId × Value → H) :
    ReturnsInHanded {} Try.checked os 8 .any (Rows.parityAddsSpec.pre6 enc Try.prog Try.f8 Rows.parityAddsRow.domain false) (Rows.parityAddsSpec.post enc Try.prog Try.f8 false true false false) := by
  refine returnsInHanded_of_change (C := Try.checked) ownKnobNone started (by kernel_rfl) Try.func8
    (ChangeSpec.witness6 (enc := enc) (C := Try.checked) false ⟨#[], #[.slice none 0 0, .slice none 0 0, .int .u8 0], []⟩ 8 (by kernel_rfl) (by kernel_rfl) (by kernel_rfl) (by kernel_rfl)) ?_
  intro W base args ds gs before hval0 hW hcnd _
  have hval : ∀ (j : Nat) t v, Try.f8.params[j]? = some t → args[j]? = some v → Value.okWide Try.prog W .any base t v := hval0
  have hW' := hW
  obtain ⟨p, q, hA0, hV, rfl, hfz, hnd⟩ := hW
  have hA : DataW.TrodAll enc Try.prog W 0 (fun _ => true) true Try.f8.params.toList args.toList ds p := hA0
  rw [Try.params8] at hA hval
  obtain ⟨v0, vs0, d0, ds0, p0, q0, hargs, rfl, rfl, h0, r0⟩ := trodAll_cons hA
  obtain ⟨v1, vs1, d1, ds1, p1, q1, rfl, rfl, rfl, h1, r1⟩ := trodAll_cons r0
  obtain ⟨v2, vs2, d2, ds2, p2, q2, rfl, rfl, rfl, h2, r2⟩ := trodAll_cons r1
  obtain ⟨rfl, rfl, rfl⟩ := trodAll_nil r2
  obtain rfl : args = #[v0, v1, v2] := by cases args; simp_all
  obtain ⟨rfl, rfl⟩ := trodVars_none hV
  have k0 := h0
  have lt0 : ∀ x ∈ p0, x.block < W.heap.size := by obtain ⟨m, hm⟩ := k0; exact DataW.trod_lt m _ _ _ hm
  obtain ⟨m0, M0, B0, L0⟩ := open_bytes (hval 0 26 v0 rfl rfl) h0
  have k1 := h1
  have lt1 : ∀ x ∈ p1, x.block < W.heap.size := by obtain ⟨m, hm⟩ := k1; exact DataW.trod_lt m _ _ _ hm
  obtain ⟨m1, M1, B1, L1⟩ := open_bytes (hval 1 26 v1 rfl rfl) h1
  obtain ⟨a2, rfl, rfl, rfl, w2⟩ := open_int Try.underlying5 (hval 2 5 v2 rfl rfl) h2
  obtain ⟨x2, b2, rfl⟩ := u8_nat w2
  clear hA0 hval0
  refine (ParityAdds_walk v0 m0 v1 m1 x2 W M0 B0 L0 M1 B1 L1 b2).mono fun e W' ⟨he, bel⟩ => ?_
  subst he
  exact ⟨_, rfl, _, _, _, [], _, [], hW', trodAll_mk1 (shut_bool Try.underlying4 _), (trodAll_cons_mk (Below.trod laidOutYes (by kernel_rfl) (of_decide_eq_true (by kernel_rfl)) k0 bel lt0) (trodAll_cons_mk (Below.trod laidOutYes (by kernel_rfl) (of_decide_eq_true (by kernel_rfl)) k1 bel lt1) (trodAll_cons_mk (shut_int Try.underlying5 w2) trodAll_mk0))), rfl, bel.frame _, fun h => by cases h⟩

theorem parityAdds_holds : Rows.ParityAddsSaid :=
  OpenClaim.holds_of_wide 8 Try.f8 rfl rfl rfl rfl rfl rfl rfl ⟨rfl, rfl, rfl, rfl, rfl⟩ rfl rfl rfl rfl rfl (by kernel_rfl) Try.func8 (by kernel_rfl)
    (of_decide_eq_true (by kernel_rfl)) (by unfold Func.isWrapper; first | (rw [if_pos (by decide +kernel)]; kernel_rfl) | (rw [if_neg (by decide +kernel)]; exact ⟨rfl, rfl⟩))
    (fun os started H enc _ => ParityAdds_lifted os started H enc)
#print axioms parityAdds_holds
end Go.Proofs.Ytlbomlolomcolaa
