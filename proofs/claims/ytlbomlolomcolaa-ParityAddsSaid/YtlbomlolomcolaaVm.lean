/- Slices of rows whose headers the call lays itself, over bytes that others hold; the contracts of chapter 54's parts and set. -/
import Derived.Test.YtlbomlolomcolaaPar13
import Derived.Test.YtlbomlolomcolaaRefP4
import Derived.Laws.AppendOwnNone
import Derived.Test.YtlbomlolomcolaaOpen
namespace Go.Proofs.Ytlbomlolomcolaa
open Go.RowKit

/-- A header that reads as a row. -/
def HdOk (w : World) (x : Value) (r : List Nat) : Prop := ∃ a c, x = .slice a r.length c ∧ r.length ≤ c ∧ (r = [] ∨ ∃ b o, a = some ⟨b, o, none⟩ ∧ RowAt w b o r) ∧ (a = none → c = 0)
theorem HdOk.new {w w' : World} {x : Value} {r : List Nat} (h : HdOk w x r) (k : Below w.heap.size w w') : HdOk w' x r := by
  obtain ⟨a, c, h1, h2, h3, h4⟩ := h
  refine ⟨a, c, h1, h2, ?_, h4⟩
  rcases h3 with h3 | ⟨b, o, ha, hr⟩
  · exact Or.inl h3
  · exact Or.inr ⟨b, o, ha, hr.new k⟩
theorem HdOk.nil (w : World) : HdOk w (.slice none 0 0) [] := ⟨none, 0, rfl, Nat.le_refl _, Or.inl rfl, fun _ => rfl⟩

/-- Headers that read as the rows. -/
def HdsOk (w : World) (vs : List Value) (m : List (List Nat)) : Prop := vs.length = m.length ∧ ∀ (i : Nat) (x : Value) (r : List Nat), vs[i]? = some x → m[i]? = some r → HdOk w x r
theorem HdsOk.new {w w' : World} {vs : List Value} {m : List (List Nat)} (h : HdsOk w vs m) (k : Below w.heap.size w w') : HdsOk w' vs m := ⟨h.1, fun i x r hx hr => (h.2 i x r hx hr).new k⟩
theorem HdsOk.nil (w : World) : HdsOk w [] [] := ⟨rfl, fun i x r h => by simp at h⟩
theorem HdsOk.append {w : World} {vs us : List Value} {m n : List (List Nat)} (h : HdsOk w vs m) (k : HdsOk w us n) : HdsOk w (vs ++ us) (m ++ n) := by
  refine ⟨by rw [List.length_append, List.length_append, h.1, k.1], fun i x r hx hr => ?_⟩
  by_cases hi : i < vs.length
  · rw [List.getElem?_append_left hi] at hx
    rw [List.getElem?_append_left (by rw [← h.1]; exact hi)] at hr
    exact h.2 i x r hx hr
  · rw [List.getElem?_append_right (by omega)] at hx
    rw [List.getElem?_append_right (by rw [← h.1]; omega), ← h.1] at hr
    exact k.2 _ x r hx hr
theorem HdsOk.one {w : World} {x : Value} {r : List Nat} (h : HdOk w x r) : HdsOk w [x] [r] := by
  refine ⟨rfl, fun i y s hy hs => ?_⟩
  cases i with
  | zero =>
    simp only [List.getElem?_cons_zero, Option.some.injEq] at hy hs
    subst hy; subst hs; exact h
  | succ i => simp at hy
theorem HdsOk.set {w : World} {vs : List Value} {m : List (List Nat)} (h : HdsOk w vs m) {i : Nat} {x : Value} {r : List Nat} (hx : HdOk w x r) : HdsOk w (vs.set i x) (m.set i r) := by
  refine ⟨by simp [h.1], fun j y s hy hs => ?_⟩
  by_cases hj : i = j
  · subst hj
    have hi : i < vs.length := by have := (List.getElem?_eq_some_iff.1 hy).1; simpa using this
    rw [List.getElem?_set_self hi] at hy
    rw [List.getElem?_set_self (by rw [← h.1]; exact hi)] at hs
    simp only [Option.some.injEq] at hy hs
    subst hy; subst hs; exact hx
  · rw [List.getElem?_set_ne hj] at hy hs
    exact h.2 j y s hy hs
theorem HdsOk.oneCell {w : World} {vs : List Value} {m : List (List Nat)} (h : HdsOk w vs m) : ∀ u ∈ vs, u.oneCell' = true := by
  intro u hu
  obtain ⟨i, hi⟩ := List.mem_iff_getElem?.1 hu
  have hl := (List.getElem?_eq_some_iff.1 hi).1
  obtain ⟨a, c, h1, _⟩ := h.2 i u _ hi (getD_some (d := []) (by rw [← h.1]; exact hl))
  rw [h1]; rfl

def hdA (vs : List Value) (i : Nat) : Option Addr := match vs.getD i (.slice none 0 0) with | .slice a _ _ => a | _ => none
def hdC (vs : List Value) (i : Nat) : Nat := match vs.getD i (.slice none 0 0) with | .slice _ _ c => c | _ => 0
/-- Headers in a row of cells: a matrix. -/
theorem HdsOk.mxAt {w : World} {b o : Nat} {vs : List Value} {m : List (List Nat)} (h : HdsOk w vs m) (hc : ∀ (i : Nat) (x : Value), vs[i]? = some x → w.cell? ⟨b, o + i, none⟩ = some x) : MxAt w b o m (hdA vs) (hdC vs) := by
  intro i r hr
  have hi : i < vs.length := by rw [h.1]; exact (List.getElem?_eq_some_iff.1 hr).1
  have hx := getD_some (d := Value.slice none 0 0) hi
  obtain ⟨a, c, h1, h2, h3, h4⟩ := h.2 i _ r hx hr
  have hA : hdA vs i = a := by unfold hdA; rw [h1]
  have hC : hdC vs i = c := by unfold hdC; rw [h1]
  rw [hA, hC, hc i _ hx, h1]
  exact ⟨rfl, h2, h3, h4⟩
theorem HdsOk.mx {w : World} {g T cap : Nat} {vs : List Value} {m : List (List Nat)} (h : HdsOk w vs m) (hb : Blk w g T vs) (hc : m.length ≤ cap) : Mx w (.slice (some ⟨g, 0, none⟩) m.length cap) m :=
  ⟨_, cap, rfl, hc, Or.inr ⟨g, 0, _, _, rfl, h.mxAt fun i x hx => by rw [Nat.zero_add]; exact hb.cell hx⟩⟩

/-- The headers of a matrix. -/
def mvs (m : List (List Nat)) (A : Nat → Option Addr) (C : Nat → Nat) : List Value := (List.range m.length).map fun i => .slice (A i) (plen m i) (C i)
theorem mvs_length (m : List (List Nat)) (A : Nat → Option Addr) (C : Nat → Nat) : (mvs m A C).length = m.length := by simp [mvs]
theorem mvs_get {m : List (List Nat)} {A : Nat → Option Addr} {C : Nat → Nat} {i : Nat} {x : Value} (h : (mvs m A C)[i]? = some x) : i < m.length ∧ x = .slice (A i) (plen m i) (C i) := by
  have hi : i < m.length := by have := (List.getElem?_eq_some_iff.1 h).1; rwa [mvs_length] at this
  refine ⟨hi, ?_⟩
  unfold mvs at h
  rw [List.getElem?_map, List.getElem?_range hi] at h
  simpa using h.symm
theorem MxAt.hds {w : World} {b o : Nat} {m : List (List Nat)} {A : Nat → Option Addr} {C : Nat → Nat} (h : MxAt w b o m A C) : HdsOk w (mvs m A C) m := by
  refine ⟨mvs_length _ _ _, fun i x r hx hr => ?_⟩
  obtain ⟨hi, rfl⟩ := mvs_get hx
  obtain ⟨_, h2, h3, h4⟩ := h i r hr
  have e : plen m i = r.length := by unfold plen; rw [List.getD_eq_getElem?_getD, hr]; rfl
  exact ⟨A i, C i, by rw [e], h2, h3, h4⟩
theorem MxAt.src {w : World} {b o : Nat} {m : List (List Nat)} {A : Nat → Option Addr} {C : Nat → Nat} (h : MxAt w b o m A C) : ∀ j u, (mvs m A C)[j]? = some u → w.cell? ((⟨b, o, none⟩ : Addr).add j) = some u := by
  intro j u hu
  obtain ⟨hi, rfl⟩ := mvs_get hu
  rw [add_plain rfl]
  exact (h j _ (getD_some (d := []) hi)).1
theorem GM.hds {w : World} {B : Nat} {v : Value} {hd : List (Nat × Nat)} {m : List (List Nat)} (h : GM w B v hd m) : HdsOk w (hvs hd m) m := by
  refine ⟨hvs_length h.len, fun i x r hx hr => ?_⟩
  have hi : i < hd.length := by rw [h.len]; exact (List.getElem?_eq_some_iff.1 hr).1
  have hp := getD_some (d := (0, 0)) hi
  rw [hvs_get hp hr] at hx
  simp only [Option.some.injEq] at hx
  subst hx
  obtain ⟨k1, _, k3⟩ := h.rows i _ r hp hr
  exact ⟨_, _, rfl, k3, Or.inr ⟨_, 0, rfl, k1.row⟩, by simp⟩

/-- A slice of headers of the call's own. -/
structure VM (w : World) (B : Nat) (v : Value) (vs : List Value) (m : List (List Nat)) : Prop where
  outer : w.ownsRow B 26 1 v m.length vs
  hds : HdsOk w vs m
theorem VM.nil (w : World) (B : Nat) : VM w B (.slice none 0 0) [] [] := ⟨World.ownsRow_nil w B _ 1, HdsOk.nil w⟩
theorem VM.new {w w' : World} {B : Nat} {v : Value} {vs : List Value} {m : List (List Nat)} (h : VM w B v vs m) (k : Below w.heap.size w w') : VM w' B v vs m :=
  ⟨owns_kept h.outer (Kept.of_new k) (S := fun _ => False) (fun _ _ => id), h.hds.new k⟩
theorem VM.done {w : World} {B : Nat} {v : Value} {vs : List Value} {m : List (List Nat)} (h : VM w B v vs m) (hm : m ≠ []) : ∃ bo cap, v = .slice (some ⟨bo, 0, none⟩) m.length cap ∧ m.length ≤ cap ∧ cap ≤ maxLen ∧ Blk w bo 26 vs ∧ B ≤ bo := by
  have h0 := h.outer
  rcases h0.2 with ⟨rfl, hz⟩ | ⟨g, cap, cur, rfl, hb, hgg, h1, h2, h3⟩
  · exact absurd (List.length_eq_zero_iff.1 hz) hm
  · exact ⟨g, cap, rfl, h1, h2, Blk.of_owns h0, hb⟩
theorem VM.mx {w : World} {B : Nat} {v : Value} {vs : List Value} {m : List (List Nat)} (h : VM w B v vs m) : Mx w v m := by
  by_cases hm : m = []
  · subst hm
    obtain ⟨a, c, rfl⟩ := owns_slice h.outer
    exact ⟨a, c, rfl, Nat.zero_le _, Or.inl rfl⟩
  · obtain ⟨bo, cap, rfl, h1, _, hb, _⟩ := h.done hm
    exact h.hds.mx hb h1
/-- What a function that returns a slice of headers of its own leaves. -/
def VmRet (m : List (List Nat)) (w : World) (e : Ending) (w' : World) : Prop := ∃ vo vs, e = .returned vo ∧ VM w' w.heap.size vo vs m ∧ Below w.heap.size w w'

/-- Parts of n bytes. -/
def ptM (l : List Nat) (n k : Nat) : List (List Nat) := (List.range k).map fun i => (l.drop (i * n)).take n
def ptN (l : List Nat) (n : Nat) : Nat := min 8 (l.length / n)
theorem ptM_length (l : List Nat) (n k : Nat) : (ptM l n k).length = k := by simp [ptM]
theorem ptM_succ (l : List Nat) (n k : Nat) : ptM l n (k + 1) = ptM l n k ++ [(l.drop (k * n)).take n] := by
  unfold ptM; rw [List.range_succ, List.map_append]; rfl
theorem ptN_go {l : List Nat} {n k : Nat} (hn : 1 ≤ n) (h1 : k < 8) (h2 : n ≤ l.length - k * n) (h3 : k * n ≤ l.length) : k + 1 ≤ ptN l n := by
  unfold ptN
  refine Nat.le_min.2 ⟨h1, (Nat.le_div_iff_mul_le hn).2 ?_⟩
  rw [Nat.add_mul]; omega
theorem ptN_end {l : List Nat} {n k : Nat} (hn : 1 ≤ n) (hk : k ≤ ptN l n) (h : l.length - k * n < n ∨ 8 ≤ k) : k = ptN l n := by
  unfold ptN at hk ⊢
  have h8 := Nat.le_trans hk (Nat.min_le_left _ _)
  have hd := (Nat.le_div_iff_mul_le hn).1 (Nat.le_trans hk (Nat.min_le_right _ _))
  rcases h with h | h
  · have : l.length / n = k := (Nat.div_eq_iff hn).2 ⟨by omega, by omega⟩
    rw [this]; omega
  · have : 8 ≤ l.length / n := (Nat.le_div_iff_mul_le hn).2 (by have : k = 8 := by omega
                                                                rw [this] at hd; exact hd)
    omega

set_option maxRecDepth 100000 in
set_option maxHeartbeats 2000000 in
theorem parts_any (v : Value) (l : List Nat) (n : Nat) (w : World) (hb : Bs w v l) (hl : l.length ≤ 60) (h1 : 1 ≤ n) (h2 : n ≤ 60) :
    Calls Try.prog 28 #[v, .int .i64 n] w (VmRet (ptM l n (ptN l n)) w) := by
  obtain ⟨j0, gi, gz0, gz1, gz2⟩ := info_parts infoBytes
  obtain ⟨a, cap, rfl, hcap, hb⟩ := hb
  obtain ⟨bb, oo, hab⟩ : ∃ bb oo, l = [] ∨ (a = some ⟨bb, oo, none⟩ ∧ RowAt w bb oo l) := by
    rcases hb with h | ⟨b, o, h⟩
    · exact ⟨0, 0, Or.inl h⟩
    · exact ⟨b, o, Or.inr h⟩
  have Hab := Lib.hid hab
  obtain ⟨L, hL⟩ : ∃ L, l.length = L := ⟨_, rfl⟩
  have HL := Lib.hid hL
  have H0 := Lib.hid (show 1 ≤ L → a = some ⟨bb, oo + 0, none⟩ by
    intro h
    rcases hab with h0 | ⟨h0, _⟩
    · rw [h0] at hL; simp at hL; omega
    · exact h0)
  have HR := Lib.hid (show 1 ≤ L → RowAt w bb oo l by
    intro h
    rcases hab with h0 | ⟨_, h0⟩
    · rw [h0] at hL; simp at hL; omega
    · exact h0)
  rw [hL] at hl hcap ⊢
  clear hb hab hL Hab
  go_enter Try.func28, Try.ntmps28
  go_wp2_with fail
  go_loopg [0, 5] 8 (fun gk s v wr => ∃ (k off rem : Nat) (a' : Option Addr) (c' : Nat), k + gk = 8 ∧ off + rem = L ∧ s = .slice a' rem c' ∧ rem ≤ c' ∧ Hid (off = k * n) ∧ Hid (k ≤ ptN l n) ∧ Hid (1 ≤ rem → a' = some ⟨bb, oo + off, none⟩) ∧ Hid (∃ vs, wr.ownsRow w.heap.size 26 1 v k vs ∧ HdsOk w vs (ptM l n k)) ∧ Hid (Below w.heap.size w wr))
  case atStart => exact ⟨0, 0, L, a, cap, rfl, by omega, rfl, hcap, (Nat.zero_mul n).symm, Nat.zero_le _, H0, ⟨[], World.ownsRow_nil w _ _ 1, HdsOk.nil w⟩, Below.refl _ _⟩
  case round =>
    obtain ⟨k, off, rem, a', c', hgk, hor, rfl, hrc, hoff, hkp, ha', hV, hB⟩ := hrel
    have Hgk := Lib.hid hgk
    have hk8 : k ≤ 8 := by omega
    clear hgk
    obtain ⟨vs, hVo, hVh⟩ := hV.out
    obtain ⟨av, cv, rfl⟩ := owns_slice hVo
    have HVo := Lib.hid hVo
    have HVh := Lib.hid hVh
    clear hVo hVh hV
    by_cases hlt : n ≤ rem
    · have t1 : decide ((n : Int) ≤ (rem : Int)) = true := by simp; omega
      by_cases h8 : k < 8
      · have t2 : decide ((k : Int) < 8) = true := by simp; omega
        obtain rfl := ha'.out (by omega)
        have hzz : w.heap.size ≤ wr.heap.size := hB.out.size
        have Hrow := Lib.hid (show RowAt w bb (oo + off) ((l.drop off).take n) from ((HR.out (by omega)).drop off).take n)
        have Hrl := Lib.hid (show ((l.drop off).take n).length = n by rw [List.length_take, List.length_drop, HL.out]; omega)
        have Hnx := Lib.hid (show k + 1 ≤ ptN l n from ptN_go h1 h8 (by rw [← hoff.out, HL.out]; omega) (by rw [← hoff.out, HL.out]; omega))
        have hnc : (n : Int) ≤ (c' : Int) := by omega
        go_wp2_with (at_builtin; refine wpList_append_own _ rfl _ _ 39 rfl w.heap.size 26 j0 (.slice none 0 0) 1 24 Try.underlying39 gi gz0 gz1 gz2 rfl (by decide) _ _ _ rfl (owns_kept HVo.out (Kept.of_new (al _ _)) (S := fun _ => False) (fun _ _ => id)) ⟨wr.heap.size, 0, none⟩ 1 1 [.slice (some ⟨bb, oo + off, none⟩) n c'] rfl rfl ?d1 ?d2 ?d3 ?d4 ?d5 ?_)
        case d2 => rfl
        case d3 => unfold maxLen; omega
        case d4 => omega
        case d5 => omega
        intro v' w5 hown hgr _
        have hBa := al wr (.cells #[.slice (some ⟨bb, oo + off, none⟩) n c'] 26)
        have HB5 := Lib.hid (show Below w.heap.size w w5 from (hB.out.trans (hBa.mono hzz)).grown hgr (by simp; omega) (fun q hq => (owns_block HVo.out hq).2.1))
        have HV5 := Lib.hid (show ∃ vs, w5.ownsRow w.heap.size 26 1 v' (k + 1) vs ∧ HdsOk w vs (ptM l n (k + 1)) by
          refine ⟨_, hown, ?_⟩
          rw [ptM_succ, ← hoff.out]
          exact HVh.out.append (HdsOk.one ⟨some ⟨bb, oo + off, none⟩, c', by rw [Hrl.out], by rw [Hrl.out]; omega, Or.inr ⟨bb, oo + off, rfl, Hrow.out⟩, by simp⟩))
        have Hof := Lib.hid (show off + n = (k + 1) * n by rw [Nat.add_mul, ← hoff.out]; omega)
        clear hown hgr hBa
        by_cases hcn : c' = n
        · subst hcn
          obtain rfl : rem = c' := by omega
          go_wp2_with fail
          go_roundg (8 - k - 1)
          case measure => have := Hgk.out; omega
          case rel => exact ⟨k + 1, off + rem, 0, _, _, by have := Hgk.out; omega, by omega, rfl, Nat.zero_le _, Hof.out, Hnx.out, fun h => by omega, HV5.out, HB5.out⟩
        · have hcl : n < c' := by omega
          clear hcn
          go_wp2_with fail
          go_roundg (8 - k - 1)
          case measure => have := Hgk.out; omega
          case rel => exact ⟨k + 1, off + n, rem - n, _, _, by have := Hgk.out; omega, by omega, by congr 1, by omega, Hof.out, Hnx.out, fun h => by rw [Nat.add_assoc], HV5.out, HB5.out⟩
      · have t2 : decide ((k : Int) < 8) = false := by simp; omega
        have he := Lib.hid (ptN_end h1 hkp.out (Or.inr (by omega)))
        go_wp2_with fail
        go_ret
        exact ⟨_, vs, rfl, ⟨by rw [ptM_length, ← he.out]; exact HVo.out, by rw [← he.out]; exact HVh.out.new hB.out⟩, hB.out⟩
    · have t1 : decide ((n : Int) ≤ (rem : Int)) = false := by simp; omega
      have he := Lib.hid (ptN_end h1 hkp.out (Or.inl (by rw [← hoff.out, HL.out]; omega)))
      go_wp2_with fail
      go_ret
      exact ⟨_, vs, rfl, ⟨by rw [ptM_length, ← he.out]; exact HVo.out, by rw [← he.out]; exact HVh.out.new hB.out⟩, hB.out⟩
end Go.Proofs.Ytlbomlolomcolaa
