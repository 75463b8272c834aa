/- The contract of parity.whole for all arguments. -/
import Derived.Test.YtlbomlolomcolaaPar7
namespace Go.Proofs.Ytlbomlolomcolaa
open Go.RowKit Go.Shelf

attribute [local go_sem] Oper.semAt_some

def wErr (parts : List (List Nat)) (data : Int) : Nat := if parErr parts data = 0 then wholeErr parts data.toNat else parErr parts data
def wRows (parts : List (List Nat)) (data : Int) : List (List Nat) := if parErr parts data = 0 then wholeRows parts data.toNat else []

theorem parErr_in {parts : List (List Nat)} {data : Int} (h : parErr parts data = 0) : 1 ≤ data ∧ data ≤ parts.length ∧ 1 ≤ parts.length ∧ parts.length ≤ 64 := by
  unfold parErr at h
  split at h
  · simp at h
  split at h
  · simp at h
  omega

set_option maxRecDepth 100000 in
set_option maxHeartbeats 2000000 in
theorem whole_any (v : Value) (parts : List (List Nat)) (data : Int) (w : World) (hn : parts.length ≤ 1000000000) (hBy : BytM parts) (hm : Mx w v parts) (hd1 : -9223372036854775808 ≤ data) (hd2 : data ≤ 9223372036854775807) :
    Calls Try.prog 60 #[v, .int .i64 data] w (RowsErr (wRows parts data) (wErr parts data) w) := by
  by_cases hE : parErr parts data = 0
  · obtain ⟨q1, q2, q3, q4⟩ := parErr_in hE
    have e1 : wErr parts data = wholeErr parts data.toNat := by unfold wErr; rw [if_pos hE]
    have e2 : wRows parts data = wholeRows parts data.toNat := by unfold wRows; rw [if_pos hE]
    rw [e1, e2]
    obtain ⟨d, rfl⟩ : ∃ d : Nat, data = d := ⟨data.toNat, by omega⟩
    rw [Int.toNat_natCast]
    have hm' := hm
    obtain ⟨a, cap, rfl, hcap, h⟩ := hm
    rcases h with h | ⟨b, o, A, C, rfl, hM⟩
    · rw [h] at q3; simp at q3
    exact whole_main b o cap d parts A C w hM hm' hBy hE (by omega) (by omega) q4
  · have e1 : wErr parts data = parErr parts data := by unfold wErr; rw [if_neg hE]
    have e2 : wRows parts data = [] := by unfold wRows; rw [if_neg hE]
    rw [e1, e2]
    have HE := Lib.hid hE
    have Hm := Lib.hid hm
    obtain ⟨pe, hpe⟩ : ∃ pe, parErr parts data = pe := ⟨_, rfl⟩
    have tP : ((pe : Int) != 0) = true := by rw [bne_iff_ne]; rw [hpe] at hE; omega
    have Hpe := Lib.hid hpe
    obtain ⟨a, cap, rfl, hcap, h⟩ := hm
    clear hE e1 e2 hpe h
    refine (callsIn_wide (n := 3)).1 ?_
    refine callsIn_of_wp_marks Try.func60 rfl trivial ?_ rfl
    simp only [Try.ntmps60, List.size_toArray, List.length_cons, List.length_nil, Nat.reduceAdd, Nat.reduceSub, Array.replicate_succ, Array.replicate_zero, List.push_toArray, List.append_toArray, List.nil_append, List.cons_append]
    gi_wp2_with fail
    refine ⟨trivial, ?_⟩
    have HB1 := Lib.hid ((Below.refl w.heap.size w).alloc (Nat.le_refl _) (.cells #[.int .i64 data] 3))
    refine (callsIn_wide.2 (pCheck_any _ parts data _ (by omega) (Hm.out.new HB1.out) hd1 hd2)).mono ?_
    rintro e w2 ⟨rfl, hB2⟩
    rw [Hpe.out]
    have HB2 := Lib.hid (HB1.out.trans (hB2.mono HB1.out.size))
    clear hB2
    gi_wp2_with fail
    exact ⟨.tuple #[.slice none 0 0, .int .i64 pe], by simp [results, Try.f60, go_sem], .slice none 0 0, [], by rw [Hpe.out], GM.nil _ _, HB2.out⟩
end Go.Proofs.Ytlbomlolomcolaa
