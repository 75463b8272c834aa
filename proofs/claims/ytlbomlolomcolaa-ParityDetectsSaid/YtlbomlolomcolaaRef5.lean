/- The contract of the reference's reduce: it reduces the two matrices side by side. -/
import Derived.Test.YtlbomlolomcolaaRef4
import Derived.Deep.DeepCutAuto
import Derived.BigRegion
namespace Go.Proofs.Ytlbomlolomcolaa
open Go.RowKit

structure RS (wr w0 : World) (B bm bo n k N : Nat) (hd : List (Nat × Nat)) (vs : List Value) (M O : List (List Nat)) : Prop where
  rp : RP wr w0 B bm bo hd vs M O
  rm : Rect n M
  ro : Rect k O
  lm : M.length = N
  lo : O.length = N

theorem RS.drewN {wr w0 : World} {B bm bo n k N : Nat} {hd : List (Nat × Nat)} {vs : List Value} {M O : List (List Nat)} (h : RS wr w0 B bm bo n k N hd vs M O) (q : Nat) : RS (wr.drewN q) w0 B bm bo n k N hd vs M O :=
  ⟨h.rp.drewN q, h.rm, h.ro, h.lm, h.lo⟩

theorem RS.atM {wr w0 : World} {B bm bo n k N : Nat} {hd : List (Nat × Nat)} {vs : List Value} {M O : List (List Nat)} (h : RS wr w0 B bm bo n k N hd vs M O) {i : Nat} (hi : i < N) :
    ∃ g cg, hd[i]? = some (g, cg) ∧ M[i]? = some (M.getD i []) ∧ wr.cell? ⟨bm, i, none⟩ = some (.slice (some ⟨g, 0, none⟩) n cg) ∧ Blk wr g 5 ((M.getD i []).map bv) ∧ (M.getD i []).length = n ∧ Byt (M.getD i []) ∧ wr.frozen? ⟨bm, i, none⟩ = false := by
  have hi' : i < M.length := by rw [h.lm]; exact hi
  obtain ⟨⟨g, cg⟩, h1, h2, h3, h4, h5, h6, h7⟩ := h.rp.om.at h.rm hi'
  have := h.rm.get hi'
  exact ⟨g, cg, h1, h3, h4, h5, this.1, this.2, h.rp.om.outer.frozen i⟩

theorem RowOwn.form {w : World} {B : Nat} {v : Value} {s : List Nat} (h : RowOwn w B v s) : ∃ a c, v = .slice a s.length c := by
  rcases h with ⟨rfl, rfl⟩ | ⟨_, g, cap, rfl, _⟩
  · exact ⟨none, 0, rfl⟩
  · exact ⟨_, cap, rfl⟩

theorem RS.atO {wr w0 : World} {B bm bo n k N : Nat} {hd : List (Nat × Nat)} {vs : List Value} {M O : List (List Nat)} (h : RS wr w0 B bm bo n k N hd vs M O) {i : Nat} (hi : i < N) :
    ∃ a c, vs[i]? = some (.slice a k c) ∧ O[i]? = some (O.getD i []) ∧ wr.cell? ⟨bo, i, none⟩ = some (.slice a k c) ∧ RowOwn wr B (.slice a k c) (O.getD i []) ∧ (O.getD i []).length = k ∧ Byt (O.getD i []) ∧ wr.frozen? ⟨bo, i, none⟩ = false := by
  have hi' : i < O.length := by rw [h.lo]; exact hi
  have h2 : O[i]? = some (O.getD i []) := getD_some hi'
  have hv0 : i < vs.length := by rw [h.rp.ov.len]; exact hi'
  have h1 : vs[i]? = some vs[i] := List.getElem?_eq_getElem hv0
  have h3 := h.rp.ov.rows i _ _ h1 h2
  obtain ⟨a, c, hv⟩ := h3.form
  have hl := h.ro.get hi'
  rw [hl.1] at hv
  rw [hv] at h1 h3
  exact ⟨a, c, h1, h2, h.rp.ov.outer.cell h1, h3, hl.1, hl.2, h.rp.ov.outer.frozen i⟩

theorem RS.swapM {wr w0 : World} {B bm bo n k N : Nat} {hd : List (Nat × Nat)} {vs : List Value} {M O : List (List Nat)} (h : RS wr w0 B bm bo n k N hd vs M O) {i j : Nat} (hi : i < N) (hj : j < N) {g cg g' cg' : Nat} (hp : hd[i]? = some (g, cg)) (hq : hd[j]? = some (g', cg')) :
    RS ((wr.setCell ⟨bm, i, none⟩ (.slice (some ⟨g', 0, none⟩) n cg')).setCell ⟨bm, j, none⟩ (.slice (some ⟨g, 0, none⟩) n cg)) w0 B bm bo n k N ((hd.set i (g', cg')).set j (g, cg)) vs (swapM M i j) O := by
  have hi' : i < M.length := by rw [h.lm]; exact hi
  have hj' : j < M.length := by rw [h.lm]; exact hj
  have key := h.rp.swapMO hp hq (getD_some (d := []) hi') (getD_some (d := []) hj')
  rw [(h.rm.get hi').1, (h.rm.get hj').1] at key
  exact ⟨key, swapM_rect h.rm hi' hj', h.ro, by rw [swapM_length]; exact h.lm, h.lo⟩

theorem RS.swapO {wr w0 : World} {B bm bo n k N : Nat} {hd : List (Nat × Nat)} {vs : List Value} {M O : List (List Nat)} (h : RS wr w0 B bm bo n k N hd vs M O) {i j : Nat} (hi : i < N) (hj : j < N) {v u : Value} (hp : vs[i]? = some v) (hq : vs[j]? = some u) :
    RS ((wr.setCell ⟨bo, i, none⟩ u).setCell ⟨bo, j, none⟩ v) w0 B bm bo n k N hd ((vs.set i u).set j v) M (Go.Proofs.Ytlbomlolomcolaa.swapM O i j) := by
  have hi' : i < O.length := by rw [h.lo]; exact hi
  have hj' : j < O.length := by rw [h.lo]; exact hj
  have key := h.rp.swapOO hp hq (getD_some (d := []) hi') (getD_some (d := []) hj')
  exact ⟨key, h.rm, swapM_rect h.ro hi' hj', h.lm, by rw [swapM_length]; exact h.lo⟩

theorem scaleRow_byt (x : Nat) (r : List Nat) : Byt (scaleRow x r) := fun y hy => by
  obtain ⟨t, _, rfl⟩ := List.mem_map.1 hy
  exact Gf.gm_lt _ _

theorem RS.scaleM {wr w0 : World} {B bm bo n k N : Nat} {hd : List (Nat × Nat)} {vs : List Value} {M O : List (List Nat)} (h : RS wr w0 B bm bo n k N hd vs M O) {i x : Nat} (hi : i < N) (hn : n ≤ 1000000000) (hx : x < 256) {g cg : Nat} (hp : hd[i]? = some (g, cg)) :
    Calls Try.prog 123 #[.slice (some ⟨g, 0, none⟩) n cg, .int .u8 x] wr fun e w' => e = .returned (.tuple #[]) ∧ RS w' w0 B bm bo n k N hd vs (M.set i (scaleRow x (M.getD i []))) O := by
  have hi' : i < M.length := by rw [h.lm]; exact hi
  have hr := getD_some (d := []) hi'
  have hrow := h.rp.om.rows i _ _ hp hr
  have hl := h.rm.get hi'
  refine (rscale_any g cg n x (M.getD i []) wr hl.1 hn hx hl.2 hrow.1).mono ?_
  rintro e w' ⟨rfl, hk, hb⟩
  exact ⟨rfl, h.rp.setM hp hr (scaleRow_length _ _) hk hb, h.rm.set ⟨by rw [scaleRow_length]; exact hl.1, scaleRow_byt _ _⟩ i, h.ro, by rw [List.length_set]; exact h.lm, h.lo⟩

theorem RS.scaleO {wr w0 : World} {B bm bo n k N : Nat} {hd : List (Nat × Nat)} {vs : List Value} {M O : List (List Nat)} (h : RS wr w0 B bm bo n k N hd vs M O) {i x : Nat} (hi : i < N) (hn : k ≤ 1000000000) (hx : x < 256) {v : Value} (hv : vs[i]? = some v) :
    Calls Try.prog 123 #[v, .int .u8 x] wr fun e w' => e = .returned (.tuple #[]) ∧ RS w' w0 B bm bo n k N hd vs M (O.set i (scaleRow x (O.getD i []))) := by
  have hi' : i < O.length := by rw [h.lo]; exact hi
  have hr := getD_some (d := []) hi'
  have hl := h.ro.get hi'
  refine (rscale_v (h.rp.ov.rows i _ _ hv hr) hl.2 (by rw [hl.1]; exact hn) hx).mono ?_
  rintro e w' ⟨rfl, hk, hb⟩
  exact ⟨rfl, h.rp.setO hv hk hb, h.rm, h.ro.set ⟨by rw [scaleRow_length]; exact hl.1, scaleRow_byt _ _⟩ i, h.lm, by rw [List.length_set]; exact h.lo⟩

theorem RS.subM {wr w0 : World} {B bm bo n k N : Nat} {hd : List (Nat × Nat)} {vs : List Value} {M O : List (List Nat)} (h : RS wr w0 B bm bo n k N hd vs M O) {i j y : Nat} (hi : i < N) (hj : j < N) (hij : j ≠ i) (hn : n ≤ 1000000000) (hy : y < 256) {g cg g' cg' : Nat} (hp : hd[i]? = some (g, cg)) (hq : hd[j]? = some (g', cg')) :
    Calls Try.prog 124 #[.slice (some ⟨g, 0, none⟩) n cg, .slice (some ⟨g', 0, none⟩) n cg', .int .u8 y] wr fun e w' => e = .returned (.tuple #[]) ∧ RS w' w0 B bm bo n k N hd vs (M.set j (addMul y (M.getD j []) (M.getD i []))) O := by
  have hi' : i < M.length := by rw [h.lm]; exact hi
  have hj' : j < M.length := by rw [h.lm]; exact hj
  have hr := getD_some (d := []) hi'
  have hs := getD_some (d := []) hj'
  have a := h.rp.om.rows i _ _ hp hr
  have b := h.rp.om.rows j _ _ hq hs
  have la := h.rm.get hi'
  have lb := h.rm.get hj'
  have hgg : g ≠ g' := fun e => hij (h.rp.om.inj j i _ _ hq hp e.symm)
  refine (rsubtract_any g' cg' g 0 cg y n (M.getD j []) (M.getD i []) wr lb.1 la.1 hn hy lb.2 la.2 b.1 a.1.row hgg).mono ?_
  rintro e w' ⟨rfl, hk, hb⟩
  exact ⟨rfl, h.rp.setM hq hs (by rw [addMul_length]; omega) hk hb, h.rm.set ⟨by rw [addMul_length]; omega, addMul_byt lb.2⟩ j, h.ro, by rw [List.length_set]; exact h.lm, h.lo⟩

theorem RS.subO {wr w0 : World} {B bm bo n k N : Nat} {hd : List (Nat × Nat)} {vs : List Value} {M O : List (List Nat)} (h : RS wr w0 B bm bo n k N hd vs M O) {i j y : Nat} (hi : i < N) (hj : j < N) (hij : j ≠ i) (hn : k ≤ 1000000000) (hy : y < 256) {v u : Value} (hp : vs[i]? = some v) (hq : vs[j]? = some u) :
    Calls Try.prog 124 #[v, u, .int .u8 y] wr fun e w' => e = .returned (.tuple #[]) ∧ RS w' w0 B bm bo n k N hd vs M (O.set j (addMul y (O.getD j []) (O.getD i []))) := by
  have hi' : i < O.length := by rw [h.lo]; exact hi
  have hj' : j < O.length := by rw [h.lo]; exact hj
  have hr := getD_some (d := []) hi'
  have hs := getD_some (d := []) hj'
  have la := h.ro.get hi'
  have lb := h.ro.get hj'
  refine (rsubtract_v (h.rp.ov.rows i _ _ hp hr) (h.rp.ov.rows j _ _ hq hs) la.2 lb.2 (by rw [la.1, lb.1]) (by rw [la.1]; exact hn) hy (fun g h1 h2 => hij (h.rp.ov.inj j i u v g hq hp h2 h1))).mono ?_
  rintro e w' ⟨rfl, hk, hb⟩
  exact ⟨rfl, h.rp.setO hq hk hb, h.rm, h.ro.set ⟨by rw [addMul_length]; omega, addMul_byt lb.2⟩ j, h.lm, by rw [List.length_set]; exact h.lo⟩

/-- What holds at the head of the loop over the columns. -/
def RC (wr w0 : World) (B bm bo n k N c : Nat) (Z : List (List Nat)) : Prop := ∃ hd vs M O, RS wr w0 B bm bo n k N hd vs M O ∧ zip2 M O = (redTo Z c).1

def ReduceRet (w w' : World) (e : Ending) (B bm bo n k N : Nat) (Z : List (List Nat)) : Prop := e = .returned (.int .i64 (redTo Z n).2) ∧ RC w' w B bm bo n k N n Z
end Go.Proofs.Ytlbomlolomcolaa
