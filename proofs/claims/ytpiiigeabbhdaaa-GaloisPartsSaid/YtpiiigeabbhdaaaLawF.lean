/- The walk of the law GaloisParts. -/
import Derived.Test.YtpiiigeabbhdaaaCauL
import Derived.Test.YtpiiigeabbhdaaaOpen2
import Derived.Test.YtpiiigeabbhdaaaLawE
import Derived.Maps.AppendAt
namespace Go.Proofs.Ytpiiigeabbhdaaa
open Go.RowKit

def iv (n : Nat) : Value := .int .i64 n
/-- Which of sixteen numbers are in a list. -/
def usedV (l : List Nat) : List Value := (List.range 16).map fun i => Value.bool (decide (i ∈ l))

theorem infoInt : (Try.prog.info? 3).map (fun i => (i.zero, i.size, i.bytes)) = some (some (.int .i64 0), 1, 8) := by kernel_rfl

theorem usedV_length (l : List Nat) : (usedV l).length = 16 := by simp [usedV]
theorem usedV_get {l : List Nat} {i : Nat} (h : i < 16) : (usedV l)[i]? = some (.bool (decide (i ∈ l))) := by simp [usedV, h]
theorem usedV_set {l : List Nat} {i : Nat} (h : i < 16) : (usedV l).set i (.bool true) = usedV (l ++ [i]) := by
  apply List.ext_getElem?
  intro j
  by_cases hj : j < 16
  · by_cases hij : i = j
    · subst hij
      rw [List.getElem?_set_self (by rw [usedV_length]; exact h), usedV_get hj]
      simp
    · rw [List.getElem?_set_ne hij, usedV_get hj, usedV_get hj]
      have : (j ∈ l ++ [i]) ↔ j ∈ l := by simp; intro e; omega
      simp only [this]
  · rw [List.getElem?_eq_none (by rw [List.length_set, usedV_length]; omega), List.getElem?_eq_none (by rw [usedV_length]; omega)]

/-- What holds at the head of each round of the first loop. -/
structure PS (wr : World) (B b1 b2 n m : Nat) (v1 v2 : Value) (is ks : List Nat) : Prop where
  o1 : wr.ownsRow B 3 1 v1 is.length (is.map iv)
  o2 : wr.ownsRow B 3 1 v2 ks.length (ks.map iv)
  ne : ∀ g, v1.ownBlock = some g → v2.ownBlock = some g → False
  u1 : Blk wr b1 54 (usedV is)
  u2 : Blk wr b2 54 (usedV ks)
  len : is.length = ks.length
  le : is.length ≤ 8
  i1 : ∀ i ∈ is, i < n
  k1 : ∀ k ∈ ks, k < m
  d1 : is.Nodup
  d2 : ks.Nodup

theorem PS.kept {wr w' : World} {B b1 b2 n m : Nat} {v1 v2 : Value} {is ks : List Nat} (h : PS wr B b1 b2 n m v1 v2 is ks) (k : Below wr.heap.size wr w') : PS w' B b1 b2 n m v1 v2 is ks :=
  { h with
    o1 := owns_kept (S := fun _ => False) h.o1 (.of_new k) fun _ _ => id
    o2 := owns_kept (S := fun _ => False) h.o2 (.of_new k) fun _ _ => id
    u1 := h.u1.below k h.u1.lt
    u2 := h.u2.below k h.u2.lt }

theorem owns_form {w : World} {B T n : Nat} {v : Value} {xs : List Value} (h : w.ownsRow B T 1 v n xs) : ∃ a c, v = .slice a n c := by
  rcases h.2 with ⟨rfl, hl⟩ | ⟨g, cg, cur, rfl, _⟩
  · exact ⟨none, 0, by rw [hl]⟩
  · exact ⟨_, cg, rfl⟩

theorem owns_type {w : World} {B T T' n g : Nat} {v : Value} {xs ys : List Value} (h : w.ownsRow B T 1 v n xs) (hg : v.ownBlock = some g) (h' : Blk w g T' ys) : T = T' := (owns_block h hg).1.type h'

/-- Two numbers have been marked. -/
def mk2 (w : World) (b1 b2 i j : Nat) : World := (w.setCell ⟨b1, i, none⟩ (.bool true)).setCell ⟨b2, j, none⟩ (.bool true)

theorem mk2_kept (w : World) (b1 b2 i j : Nat) : Kept (fun g => g = b1 ∨ g = b2) w (mk2 w b1 b2 i j) :=
  ((Kept.refl _ w).setCell (p := ⟨b1, i, none⟩) (fun _ => Or.inl rfl) _).setCell (p := ⟨b2, j, none⟩) (fun _ => Or.inr rfl) _
theorem mk2_size (w : World) (b1 b2 i j : Nat) : (mk2 w b1 b2 i j).heap.size = w.heap.size := by simp [mk2, World.setCell]

theorem PS.marked {w3 : World} {B b1 b2 n m i j : Nat} {v1 v2 : Value} {is ks : List Nat} (h : PS w3 B b1 b2 n m v1 v2 is ks) (hi : i < 16) (hj : j < 16) (hbb : b1 ≠ b2) :
    (mk2 w3 b1 b2 i j).ownsRow B 3 1 v1 is.length (is.map iv) ∧ (mk2 w3 b1 b2 i j).ownsRow B 3 1 v2 ks.length (ks.map iv) ∧ Blk (mk2 w3 b1 b2 i j) b1 54 (usedV (is ++ [i])) ∧ Blk (mk2 w3 b1 b2 i j) b2 54 (usedV (ks ++ [j])) := by
  refine ⟨owns_kept h.o1 (mk2_kept w3 b1 b2 i j) ?_, owns_kept h.o2 (mk2_kept w3 b1 b2 i j) ?_, ?_, ?_⟩
  · rintro g hg (rfl | rfl)
    · exact absurd (owns_type h.o1 hg h.u1) (by decide)
    · exact absurd (owns_type h.o1 hg h.u2) (by decide)
  · rintro g hg (rfl | rfl)
    · exact absurd (owns_type h.o2 hg h.u1) (by decide)
    · exact absurd (owns_type h.o2 hg h.u2) (by decide)
  · have := (h.u1.setCell (i := i) (by rw [usedV_length]; exact hi) (.bool true)).setCell_other (p := ⟨b2, j, none⟩) hbb (.bool true)
    rw [usedV_set hi] at this
    exact this
  · have := (h.u2.setCell_other (p := ⟨b1, i, none⟩) (fun e => hbb e.symm) (.bool true)).setCell (i := j) (by rw [usedV_length]; exact hj) (.bool true)
    rw [usedV_set hj] at this
    exact this

theorem PS.second {w3 w5 : World} {B b1 b2 n m i j : Nat} {v1 v2 : Value} {is ks : List Nat} (h : PS w3 B b1 b2 n m v1 v2 is ks) (hi : i < 16) (hj : j < 16) (hbb : b1 ≠ b2) {o1 : Obj} (gr1 : ((mk2 w3 b1 b2 i j).alloc o1).grownBy w5 v1.ownBlock) :
    w5.ownsRow B 3 1 v2 ks.length (ks.map iv) ∧ Blk w5 b1 54 (usedV (is ++ [i])) ∧ Blk w5 b2 54 (usedV (ks ++ [j])) := by
  obtain ⟨q1, q2, q3, q4⟩ := h.marked hi hj hbb
  have K5 : Kept (fun g => some g = v1.ownBlock) (mk2 w3 b1 b2 i j) w5 := ((Kept.refl _ _).alloc o1).trans (Kept.of_grown gr1)
  refine ⟨owns_kept q2 K5 fun g hg e => h.ne g e.symm hg, q3.kept K5 fun e => ?_, q4.kept K5 fun e => ?_⟩
  · exact absurd (owns_type q1 e.symm q3) (by decide)
  · exact absurd (owns_type q1 e.symm q4) (by decide)

theorem nodup_snoc {l : List Nat} {i : Nat} (h : l.Nodup) (hi : i ∉ l) : (l ++ [i]).Nodup := by
  rw [List.nodup_append]
  refine ⟨h, by simp, fun a ha b hb e => ?_⟩
  simp at hb
  exact hi (by rw [← hb, ← e]; exact ha)

theorem PS.add {w3 w5 w7 : World} {B b1 b2 n m i j : Nat} {v1 v2 v1' v2' : Value} {is ks : List Nat} (h : PS w3 B b1 b2 n m v1 v2 is ks) (hi : i < n) (hj : j < m) (hn : n ≤ 16) (hm : m ≤ 16) (ni : i ∉ is) (nj : j ∉ ks) (hlen : is.length < 8) (hbb : b1 ≠ b2) {o1 o2 : Obj}
    (own1 : w5.ownsRow B 3 1 v1' (is.length + 1) (is.map iv ++ [.int .i64 i])) (gr1 : ((mk2 w3 b1 b2 i j).alloc o1).grownBy w5 v1.ownBlock) (at1 : v1'.ownBlock = v1.ownBlock ∨ v1'.ownBlock = some (w3.heap.size + 1))
    (own2 : w7.ownsRow B 3 1 v2' (ks.length + 1) (ks.map iv ++ [.int .i64 j])) (gr2 : (w5.alloc o2).grownBy w7 v2.ownBlock) (at2 : v2'.ownBlock = v2.ownBlock ∨ v2'.ownBlock = some (w5.heap.size + 1)) :
    PS w7 B b1 b2 n m v1' v2' (is ++ [i]) (ks ++ [j]) := by
  obtain ⟨q1, q2, q3, q4⟩ := h.marked (i := i) (j := j) (by omega) (by omega) hbb
  obtain ⟨s2, s3, s4⟩ := h.second (i := i) (j := j) (by omega) (by omega) hbb gr1
  have K7 : Kept (fun g => some g = v2.ownBlock) w5 w7 := ((Kept.refl _ _).alloc o2).trans (Kept.of_grown gr2)
  have hne : ∀ g, v1'.ownBlock = some g → v2.ownBlock = some g → False := by
    intro g e1 e2
    rcases at1 with a | a
    · exact h.ne g (by rw [← a]; exact e1) e2
    · rw [a] at e1
      have hb := (owns_block h.o2 e2).1.lt
      have hs := mk2_size w3 b1 b2 i j
      simp at e1
      omega
  have hiv : is.map iv ++ [.int .i64 (i : Int)] = (is ++ [i]).map iv := by simp [iv]
  have hkv : ks.map iv ++ [.int .i64 (j : Int)] = (ks ++ [j]).map iv := by simp [iv]
  rw [hiv] at own1
  rw [hkv] at own2
  exact {
    o1 := by rw [List.length_append]; exact owns_kept own1 K7 fun g hg e => hne g hg e.symm
    o2 := by rw [List.length_append]; exact own2
    ne := by
      intro g e1 e2
      rcases at2 with a | a
      · exact hne g e1 (by rw [← a]; exact e2)
      · rw [a] at e2
        have hb := (owns_block own1 e1).1.lt
        simp at e2
        omega
    u1 := s3.kept K7 fun e => absurd (owns_type s2 e.symm s3) (by decide)
    u2 := s4.kept K7 fun e => absurd (owns_type s2 e.symm s4) (by decide)
    len := by simp [h.len]
    le := by simp; omega
    i1 := by intro a ha; rcases List.mem_append.1 ha with ha | ha; exact h.i1 a ha; simp at ha; omega
    k1 := by intro a ha; rcases List.mem_append.1 ha with ha | ha; exact h.k1 a ha; simp at ha; omega
    d1 := nodup_snoc h.d1 ni
    d2 := nodup_snoc h.d2 nj }

theorem cau_get {n m i : Nat} (hi : i < n) : (cauM n m)[i]? = some (cauRow n m i) := by simp [cauM, hi]
theorem cauRow_get {n m i k : Nat} (hk : k < m) : (cauRow n m i)[k]? = some (Gf.gi (i ^^^ (n + k))) := by simp [cauRow, hk]
def partR (n i : Nat) (ks : List Nat) : List Nat := ks.map fun k => Gf.gi (i ^^^ (n + k))
theorem partR_length (n i : Nat) (ks : List Nat) : (partR n i ks).length = ks.length := by simp [partR]
theorem partR_take {n i k q : Nat} {ks : List Nat} (h : ks[q]? = some k) : (partR n i ks).take (q + 1) = (partR n i ks).take q ++ [Gf.gi (i ^^^ (n + k))] := by
  rw [List.take_add_one]; simp [partR, h]
theorem partM_take {n i q : Nat} {is ks : List Nat} (h : is[q]? = some i) : (Alg.partM n is ks).take (q + 1) = (Alg.partM n is ks).take q ++ [partR n i ks] := by
  rw [List.take_add_one]; simp [Alg.partM, partR, h]
/-- What the part is good for. -/
theorem part_sq {n m : Nat} {is ks : List Nat} (hn : n ≤ 16) (hm : m ≤ 16) (hl : is.length = ks.length) (h1 : 1 ≤ is.length) (h8 : is.length ≤ 8) (hi : ∀ i ∈ is, i < n) (hk : ∀ k ∈ ks, k < m) (di : is.Nodup) (dk : ks.Nodup) :
    Sq is.length (Alg.partM n is ks) ∧ invErr (Alg.partM n is ks) = 0 := by
  have hR := Alg.partM_rect n is ks
  rw [← hl] at hR
  have hS : Sq is.length (Alg.partM n is ks) := ⟨hR, Alg.partM_length n is ks, h1, by omega⟩
  exact ⟨hS, hS.inv_zero.2 (Alg.part_full (m := m) (by omega) (by omega) hl hi hk di dk)⟩

theorem PS.start (w : World) (n m : Nat) : PS ((w.alloc (.cells #[.bool false, .bool false, .bool false, .bool false, .bool false, .bool false, .bool false, .bool false, .bool false, .bool false, .bool false, .bool false, .bool false, .bool false, .bool false, .bool false] 54)).alloc (.cells #[.bool false, .bool false, .bool false, .bool false, .bool false, .bool false, .bool false, .bool false, .bool false, .bool false, .bool false, .bool false, .bool false, .bool false, .bool false, .bool false] 54)) w.heap.size w.heap.size (w.heap.size + 1) n m (.slice none 0 0) (.slice none 0 0) [] [] where
  o1 := World.ownsRow_nil _ _ _ _
  o2 := World.ownsRow_nil _ _ _ _
  ne := fun g h => by simp [Value.ownBlock] at h
  u1 := (Blk.new w 54 _).alloc _
  u2 := by
    have := Blk.new (w.alloc (.cells #[.bool false, .bool false, .bool false, .bool false, .bool false, .bool false, .bool false, .bool false, .bool false, .bool false, .bool false, .bool false, .bool false, .bool false, .bool false, .bool false] 54)) 54 #[.bool false, .bool false, .bool false, .bool false, .bool false, .bool false, .bool false, .bool false, .bool false, .bool false, .bool false, .bool false, .bool false, .bool false, .bool false, .bool false]
    rw [show (w.alloc (.cells #[.bool false, .bool false, .bool false, .bool false, .bool false, .bool false, .bool false, .bool false, .bool false, .bool false, .bool false, .bool false, .bool false, .bool false, .bool false, .bool false] 54)).heap.size = w.heap.size + 1 from by simp] at this
    exact this
  len := rfl
  le := by simp
  i1 := by simp
  k1 := by simp
  d1 := List.nodup_nil
  d2 := List.nodup_nil

set_option maxRecDepth 100000 in
set_option maxHeartbeats 8000000 in
theorem parts_main (x y : Nat) (a : Option Addr) (cap : Nat) (l : List (List Nat)) (w : World) (hx : x < 256) (hy : y < 256) (hl : l.length ≤ maxLen) (hP : l = [] ∨ ∃ b o, a = some ⟨b, o, none⟩ ∧ PgAt w b o 2 l) (hr2 : ∀ r ∈ l, r.length = 2) (hB : BytM l) :
    Calls Try.prog 10 #[.int .u8 x, .int .u8 y, .slice a l.length cap] w fun e w' => e = .returned (.bool true) ∧ Below w.heap.size w w' := by
  obtain ⟨i0, hi, hz0, hz1, hz2⟩ := info_parts infoInt
  have HP := Lib.hid hP
  have HR := Lib.hid hr2
  have HBY := Lib.hid hB
  unfold maxLen at hl
  obtain ⟨n, hn⟩ : ∃ n, n = 1 + x % 16 := ⟨_, rfl⟩
  obtain ⟨m, hm⟩ : ∃ m, m = 1 + y % 16 := ⟨_, rfl⟩
  have en : (1 : Int) + (x : Int) % 16 = (n : Int) := by omega
  have em : (1 : Int) + (y : Int) % 16 = (m : Int) := by omega
  have n1 : 1 ≤ n := by omega
  have n2 : n ≤ 16 := by omega
  have m1 : 1 ≤ m := by omega
  have m2 : m ≤ 16 := by omega
  clear hn hm hP hr2 hB
  go_enter Try.func10, Try.ntmps10
  go_wp2_with fail
  refine (Cauchy_in n m _ n1 (by omega) m1 (by omega)).mono ?_
  rintro e w1 ⟨vc, hdc, rfl, hG, hB1⟩
  obtain ⟨bc, cc, rfl, hcc, _, hO⟩ := hG.done (by intro h; have := cauM_length n m; rw [h] at this; simp at this; omega)
  rw [cauM_length] at hcc ⊢
  have B1 := Lib.hid hB1
  obtain ⟨Ac, Cc, hMc⟩ : ∃ Ac Cc, MxAt w1 bc 0 (cauM n m) Ac Cc := ⟨_, _, hO.mxAt⟩
  have C1 := Lib.hid hMc
  clear hMc
  clear hG hO hB1 en em
  go_wp2_with fail
  have hs1 : w.heap.size ≤ w1.heap.size := B1.out.size
  go_loopg [11, 12, 53] l.length (fun gk v1 v2 i wr => ∃ k : Nat, k + gk = l.length ∧ i = .int .i64 k ∧ Hid (∃ is ks, PS wr w1.heap.size w1.heap.size (w1.heap.size + 1) n m v1 v2 is ks) ∧ Hid (Below w1.heap.size w1 wr))
  case atStart => exact ⟨0, by omega, rfl, ⟨[], [], PS.start w1 n m⟩, ((Below.refl _ _).alloc (Nat.le_refl _) _).alloc (by simp) _⟩
  case round =>
    obtain ⟨k, hgk, rfl, hS, hBr⟩ := hrel
    have Hgk := Lib.hid hgk
    have hk : k ≤ l.length := by omega
    clear hgk
    by_cases hlt : k < l.length
    · obtain ⟨is, ks, hS⟩ := hS.out
      obtain ⟨p, q, hpq⟩ : ∃ p q, l[k]? = some [p, q] := by
        have h1 : l[k]? = some (l.getD k []) := getD_some hlt
        have h2 := HR.out _ (List.mem_of_getElem? h1)
        match h3 : l.getD k [], h2 with
        | [p, q], _ => exact ⟨p, q, by rw [h1, h3]⟩
      have hBw := B1.out.trans (hBr.out.mono hs1)
      obtain ⟨b, o, rfl, hPw⟩ : ∃ b o, a = some ⟨b, o, none⟩ ∧ PgAt w b o 2 l := by
        rcases HP.out with h0 | h
        · rw [h0] at hlt; simp at hlt
        · exact h
      have hrow := (hPw.new hBw) k _ hpq
      have c0 : wr.cell? ⟨b, o + k * 2, none⟩ = some (.int .u8 p) := hrow 0 p rfl
      have c1 : wr.cell? ⟨b, o + k * 2 + 1, none⟩ = some (.int .u8 q) := hrow 1 q rfl
      have hp : p < 256 := HBY.out _ (List.mem_of_getElem? hpq) p (by simp)
      have hq : q < 256 := HBY.out _ (List.mem_of_getElem? hpq) q (by simp)
      have HS := Lib.hid hS
      have HBr := Lib.hid hBr.out
      have hzr : w1.heap.size + 2 ≤ wr.heap.size := by have := hS.u2.lt; omega
      clear hS hBr hpq hrow hBw hPw
      obtain ⟨i, hie⟩ : ∃ i, i = p % n := ⟨_, rfl⟩
      obtain ⟨j, hje⟩ : ∃ j, j = q % m := ⟨_, rfl⟩
      have hi1 : i < n := by rw [hie]; exact Nat.mod_lt _ (by omega)
      have hj1 : j < m := by rw [hje]; exact Nat.mod_lt _ (by omega)
      have t1 : (p : Int).tmod (n : Int) = (i : Int) := by rw [Int.tmod_eq_emod_of_nonneg (by omega), hie]; omega
      have t2 : (q : Int).tmod (m : Int) = (j : Int) := by rw [Int.tmod_eq_emod_of_nonneg (by omega), hje]; omega
      have t3 : IntKind.i64.wrap (p : Int) = p := IntWalk.i64_in _ (by omega)
      have t4 : IntKind.i64.wrap (q : Int) = q := IntWalk.i64_in _ (by omega)
      have t5 : ((n : Int) == 0) = false := by rw [beq_eq_false_iff_ne]; omega
      have t6 : ((m : Int) == 0) = false := by rw [beq_eq_false_iff_ne]; omega
      clear hie hje
      go_wp2_with fail
      go_quiet (fail)
      clear t1 t2 t3 t4 t5 t6
      have HB3 := Lib.hid (below_drewN ((Below.refl wr.heap.size wr).alloc (Nat.le_refl _) (.cells #[.int .u8 p, .int .u8 q] 55)) nq)
      generalize (wr.alloc (.cells #[.int .u8 (p : Int), .int .u8 (q : Int)] 55)).drewN nq = w3 at *
      have HS3 := Lib.hid (HS.out.kept HB3.out)
      have HB13 := Lib.hid (HBr.out.trans (HB3.out.mono (by omega)))
      have d1 := HS3.out.u1.cell (usedV_get (l := is) (i := i) (by omega))
      have d2 := HS3.out.u2.cell (usedV_get (l := ks) (i := j) (by omega))
      have f1 := HS3.out.u1.frozen i
      have f2 := HS3.out.u2.frozen j
      have hle := HS3.out.le
      obtain ⟨a1, c1', hv1⟩ := owns_form HS3.out.o1
      obtain ⟨a2, c2', hv2⟩ := owns_form HS3.out.o2
      subst hv1 hv2
      clear HS
      by_cases hI : i ∈ is
      · rw [decide_eq_true hI] at d1
        clear d2 hI
        go_wp2_with fail
        go_roundg (l.length - k - 1)
        case measure => have := Hgk.out; omega
        case rel => exact ⟨k + 1, by have := Hgk.out; omega, by go_num, ⟨is, ks, HS3.out⟩, HB13.out⟩
      rw [decide_eq_false hI] at d1
      have HI := Lib.hid hI
      clear hI
      by_cases hK : j ∈ ks
      · rw [decide_eq_true hK] at d2
        clear hK HI
        go_wp2_with fail
        go_roundg (l.length - k - 1)
        case measure => have := Hgk.out; omega
        case rel => exact ⟨k + 1, by have := Hgk.out; omega, by go_num, ⟨is, ks, HS3.out⟩, HB13.out⟩
      rw [decide_eq_false hK] at d2
      have HK := Lib.hid hK
      clear hK
      by_cases h8' : 8 ≤ is.length
      · clear HI HK
        go_wp2_with fail
        go_roundg (l.length - k - 1)
        case measure => have := Hgk.out; omega
        case rel => exact ⟨k + 1, by have := Hgk.out; omega, by go_num, ⟨is, ks, HS3.out⟩, HB13.out⟩
      have h8 : is.length < 8 := by omega
      have hbb : w1.heap.size ≠ w1.heap.size + 1 := by omega
      obtain ⟨Q1, Q2, Q3, Q4⟩ := HS3.out.marked (i := i) (j := j) (by omega) (by omega) hbb
      have Q1 := Lib.hid Q1
      have hlen : ks.length < 8 := by have := HS3.out.len; omega
      have hz4 : w1.heap.size ≤ w3.heap.size := HB13.out.size
      have hz5 := mk2_size w3 w1.heap.size (w1.heap.size + 1) i j
      have Hbb := Lib.hid hbb
      have Hz5 := Lib.hid hz5
      clear Q2 Q3 Q4 hbb hz5 h8'
      go_wp2_with (at_builtin; refine wpList_append_own_at _ rfl (.tmp 86) (.tmp 88) 53 rfl w1.heap.size 3 i0 (.int .i64 0) 1 8 Try.underlying53 hi hz0 hz1 hz2 rfl (by decide) _ _ _ rfl (Q1.out.alloc _) ⟨w3.heap.size, 0, none⟩ 1 1 [.int .i64 i] rfl rfl ?c1 ?c2 ?c3 ?c4 ?c5 ?_)
      case c1 => have := cell_one_new (mk2 w3 w1.heap.size (w1.heap.size + 1) i j) (.int .i64 i) 3; rw [Hz5.out] at this; exact this
      case c2 => intro u hu; simp only [List.mem_cons, List.not_mem_nil, or_false] at hu; subst hu; rfl
      case c3 => unfold maxLen; omega
      case c4 => omega
      case c5 => simp; omega
      intro v5 w5 hown hgr _ hat
      have Hown := Lib.hid hown
      have Hgr := Lib.hid hgr
      have Hat := Lib.hid hat
      have hw5 : w3.heap.size < w5.heap.size := by have := hgr.size; simp at this; omega
      have Q2 := Lib.hid (HS3.out.second (i := i) (j := j) (by omega) (by omega) Hbb.out (by exact hgr)).1
      clear hown hgr hat
      go_wp2_with (at_builtin; refine wpList_append_own_at _ rfl (.tmp 90) (.tmp 92) 53 rfl w1.heap.size 3 i0 (.int .i64 0) 1 8 Try.underlying53 hi hz0 hz1 hz2 rfl (by decide) _ _ _ rfl (Q2.out.alloc _) ⟨w5.heap.size, 0, none⟩ 1 1 [.int .i64 j] rfl rfl ?d1 ?d2 ?d3 ?d4 ?d5 ?_)
      case d1 => exact cell_one_new _ _ _
      case d2 => intro u hu; simp only [List.mem_cons, List.not_mem_nil, or_false] at hu; subst hu; rfl
      case d3 => unfold maxLen; omega
      case d4 => omega
      case d5 => simp; omega
      intro v7 w7 hown hgr _ hat
      have HS7 := Lib.hid (HS3.out.add hi1 hj1 n2 m2 HI.out HK.out h8 Hbb.out Hown.out (by exact Hgr.out) (by exact Hat.out) hown (by exact hgr) hat)
      have HB17 : Hid (Below w1.heap.size w1 w7) := by
        have hg1 := Hgr.out
        have k4 : Below w1.heap.size w1 (mk2 w3 w1.heap.size (w1.heap.size + 1) i j) := (HB13.out.setCell (p := ⟨w1.heap.size, i, none⟩) (Nat.le_refl _) _).setCell (p := ⟨w1.heap.size + 1, j, none⟩) (by simp) _
        have k5 : Below w1.heap.size w1 w5 := (k4.alloc (by rw [Hz5.out]; omega) _).grown hg1 (by simp [Hz5.out]; omega) (fun g hg => (owns_block HS3.out.o1 hg).2.1)
        exact (k5.alloc (by omega) _).grown hgr (by simp; omega) (fun g hg => (owns_block HS3.out.o2 hg).2.1)
      clear hown hgr hat
      go_wp2_with fail
      go_roundg (l.length - k - 1)
      case measure => have := Hgk.out; omega
      case rel => exact ⟨k + 1, by have := Hgk.out; omega, by go_num, ⟨_, _, HS7.out⟩, HB17.out⟩
    · obtain ⟨is, ks, hS⟩ := hS.out
      obtain ⟨w2, rfl⟩ : ∃ w2 : World, w2 = wr := ⟨_, rfl⟩
      have HB2 := Lib.hid (B1.out.trans (hBr.out.mono hs1))
      have C2 := Lib.hid (C1.out.new hBr.out)
      by_cases he : is.length = 0
      · have t1 : ((is.length : Int) == 0) = true := by rw [beq_iff_eq]; omega
        obtain ⟨a1, c1', hv1⟩ := owns_form hS.o1
        subst hv1
        clear hS he hBr
        go_wp2_with fail
        refine (awake_any _).mono ?_
        rintro e wz ⟨rfl, hBz⟩
        have Bz := Lib.hid (HB2.out.trans (hBz.mono HB2.out.size))
        clear hBz
        go_wp2_with fail
        go_ret
        exact ⟨rfl, Bz.out⟩
      have t1 : ((is.length : Int) == 0) = false := by rw [beq_eq_false_iff_ne]; omega
      have hlen := hS.len
      obtain ⟨g1, cg1, hv1, _, hcg1, _⟩ := ne_of_owns hS.o1 he
      obtain ⟨g2, cg2, hv2, _, hcg2, _⟩ := ne_of_owns hS.o2 (by omega)
      have hO1 := hS.o1
      have hO2 := hS.o2
      rw [hv1] at hO1
      rw [hv2] at hO2
      subst hv1 hv2
      have K1 := Lib.hid (Blk.of_owns hO1)
      have K2 := Lib.hid (Blk.of_owns hO2)
      have Hp := Lib.hid (part_sq n2 m2 hlen (by omega) hS.le hS.i1 hS.k1 hS.d1 hS.d2)
      have HI1 := Lib.hid hS.i1
      have HK1 := Lib.hid hS.k1
      have h8 := hS.le
      have h81 : ks.length ≤ 8 := by omega
      have h82 : 1 ≤ ks.length := by omega
      have h83 : 1 ≤ is.length := by omega
      have Hlen := Lib.hid hlen
      obtain ⟨i1, hib, hy0, hy1, hy2⟩ := info_parts infoByte
      obtain ⟨j0, gi, gz0, gz1, gz2⟩ := info_parts infoBytes
      clear hS he hBr hlen hO1 hO2
      go_wp2_with fail
      go_loopg [19, 101] is.length (fun gk v i wr => ∃ q : Nat, q + gk = is.length ∧ i = .int .i64 q ∧ Hid (∃ hd, GM wr w2.heap.size v hd ((Alg.partM n is ks).take q)) ∧ Hid (Below w2.heap.size w2 wr))
      case atStart => exact ⟨0, by omega, rfl, ⟨[], GM.nil _ _⟩, Below.refl _ _⟩
      case round =>
        obtain ⟨q, hgq, rfl, hG, hB⟩ := hrel
        have Hgq := Lib.hid hgq
        have hq : q ≤ is.length := by omega
        clear hgq
        by_cases hltq : q < is.length
        · obtain ⟨wo, rfl⟩ : ∃ wo : World, wo = wr := ⟨_, rfl⟩
          have hiq : is[q]? = some (is.getD q 0) := getD_some hltq
          have hin := HI1.out _ (List.mem_of_getElem? hiq)
          have hpk := Lib.hid (partM_take (n := n) (ks := ks) hiq)
          have cI := (K1.out.below hB.out K1.out.lt).cell (show (is.map iv)[q]? = some (iv (is.getD q 0)) by rw [List.getElem?_map, hiq]; rfl)
          unfold iv at cI
          generalize is.getD q 0 = i at *
          obtain ⟨hcR, _, hcD, _⟩ := C2.out i _ (cau_get hin)
          rw [Nat.zero_add, cauRow_length] at hcR
          obtain ⟨b', o', hA, hrow⟩ : ∃ b' o', Ac i = some ⟨b', o', none⟩ ∧ RowAt w2 b' o' (cauRow n m i) := by
            rcases hcD with h0 | h
            · have := cauRow_length n m i; rw [h0] at this; simp at this; omega
            · exact h
          rw [hA] at hcR
          have HcR := Lib.hid hcR
          have Hrow := Lib.hid hrow
          clear hiq hA hrow hcR hcD
          go_wp2_with fail
          go_loopg [22, 107] ks.length (fun gk v j wx => ∃ t : Nat, t + gk = ks.length ∧ j = .int .i64 t ∧ Hid (wx.ownsRow wo.heap.size 5 1 v t (((partR n i ks).take t).map bv)) ∧ Hid (Below wo.heap.size wo wx))
          case atStart => exact ⟨0, by omega, rfl, World.ownsRow_nil _ _ _ _, Below.refl _ _⟩
          case round =>
            obtain ⟨t, hgt, rfl, hW, hBx⟩ := hrel
            have Hgt := Lib.hid hgt
            have ht : t ≤ ks.length := by omega
            clear hgt
            by_cases hltt : t < ks.length
            · have hkt : ks[t]? = some (ks.getD t 0) := getD_some hltt
              have hkm := HK1.out _ (List.mem_of_getElem? hkt)
              have htk := Lib.hid (partR_take (n := n) (i := i) hkt)
              have hB2x : Below w2.heap.size w2 wr := hB.out.trans (hBx.out.mono hB.out.size)
              have cK := (K2.out.below hB2x K2.out.lt).cell (show (ks.map iv)[t]? = some (iv (ks.getD t 0)) by rw [List.getElem?_map, hkt]; rfl)
              unfold iv at cK
              generalize ks.getD t 0 = k' at *
              have c3 : wr.cell? ⟨bc, i, none⟩ = some (.slice (some ⟨b', o', none⟩) m (Cc i)) := by
                rw [hB2x.cell (p := ⟨bc, i, none⟩) (World.block_lt_of_cell? w2 _ HcR.out)]; exact HcR.out
              have c4 : wr.cell? ⟨b', o' + k', none⟩ = some (.int .u8 (Gf.gi (i ^^^ (n + k')))) := (Hrow.out.new hB2x) k' _ (cauRow_get hkm)
              generalize Gf.gi (i ^^^ (n + k')) = ac at *
              have hO := Lib.hid hW.out
              have hz3 : wo.heap.size ≤ wr.heap.size := hBx.out.size
              have HBx := Lib.hid hBx.out
              clear hkt hB2x hW hBx
              go_wp2_with (at_builtin; refine wpList_append_own _ rfl _ _ 56 rfl wo.heap.size 5 i1 (.int .u8 0) 1 1 Try.underlying56 hib hy0 hy1 hy2 rfl (by decide) _ _ _ rfl (hO.out.alloc _) ⟨wr.heap.size, 0, none⟩ 1 1 [bv ac] rfl rfl ?c1 ?c2 ?c3 ?c4 ?c5 ?_)
              case c1 => exact cell_one_new _ _ _
              case c2 => intro u hu; simp at hu; subst hu; rfl
              case c3 => unfold maxLen; omega
              case c4 => omega
              case c5 => simp; omega
              intro v' w5 hown hgr _
              have hown' : w5.ownsRow wo.heap.size 5 1 v' (t + 1) (((partR n i ks).take (t + 1)).map bv) := by rw [htk.out, List.map_append, List.map_take]; exact hown
              have hB5 : Below wo.heap.size wo w5 := (HBx.out.alloc hz3 _).grown hgr (by simp; omega) (fun q hq => (owns_block hO.out hq).2.1)
              have Hown := Lib.hid hown'
              have HB5 := Lib.hid hB5
              clear hown hown' hB5 hgr
              go_wp2_with fail
              go_roundg (ks.length - t - 1)
              case measure => have := Hgt.out; omega
              case rel => exact ⟨t + 1, by have := Hgt.out; omega, by go_num, Hown.out, HB5.out⟩
            · have hpl := partR_length n i ks
              have hO' := hW.out
              rw [List.take_of_length_le (by rw [hpl]; omega), show t = (partR n i ks).length by rw [hpl]; omega] at hO'
              obtain ⟨g, cg, hv8, g1', g3, g4⟩ := ne_of_owns hO' (by rw [hpl]; omega)
              rw [hv8] at hO'
              rw [hv8]
              obtain ⟨hd, hG⟩ := hG.out
              have Hblk := Lib.hid (Blk.of_owns hO')
              have HG := Lib.hid hG
              have HGo := Lib.hid ((hG.new hBx.out).outer)
              have hzr : w2.heap.size ≤ wr.heap.size := by have := hB.out.size; have := hBx.out.size; omega
              have hlk : ((Alg.partM n is ks).take q).length = q := by rw [List.length_take, Alg.partM_length]; omega
              have Hlk := Lib.hid hlk
              have Hg3 := Lib.hid g3
              have HBx := Lib.hid hBx.out
              have HBo := Lib.hid hB.out
              generalize partR n i ks = pr at *
              clear hG hlk hW hO' hpl hv8 g3 g4 hBx hB
              go_wp2_with (at_builtin; refine wpList_append_own _ rfl _ _ 31 rfl w2.heap.size 56 j0 (.slice none 0 0) 1 24 Try.underlying31 gi gz0 gz1 gz2 rfl (by decide) _ _ _ rfl (HGo.out.alloc _) ⟨wr.heap.size, 0, none⟩ 1 1 [hv pr.length (g, cg)] rfl rfl ?d1 ?d2 ?d3 ?d4 ?d5 ?_)
              case d1 => exact cell_one_new _ _ _
              case d2 => intro u hu; simp only [List.mem_cons, List.not_mem_nil, or_false] at hu; subst hu; rfl
              case d3 => rw [Hlk.out]; unfold maxLen; omega
              case d4 => rw [Hlk.out]; omega
              case d5 => simp; omega
              intro v' w5 hown hgr _
              have hG5 := HG.out.snoc HBx.out (p := (g, cg)) (r := pr) Hblk.out g1' HBo.out.size Hg3.out (by rw [Hlk.out]; simpa [Alg.partM_length, Nat.min_eq_left hq] using hown) (by simpa using hgr)
              rw [← hpk.out] at hG5
              have hB5 : Below w2.heap.size w2 w5 := ((HBo.out.trans (HBx.out.mono HBo.out.size)).alloc hzr _).grown hgr (by simp; omega) (fun q hq => (owns_block HG.out.outer hq).2.1)
              have HG5 := Lib.hid hG5
              have HB5 := Lib.hid hB5
              clear hown hgr hG5 hB5
              go_wp2_with fail
              go_roundg (is.length - q - 1)
              case measure => have := Hgq.out; omega
              case rel => exact ⟨q + 1, by have := Hgq.out; omega, by go_num, ⟨_, HG5.out⟩, HB5.out⟩
        · have hkn : (Alg.partM n is ks).take q = Alg.partM n is ks := List.take_of_length_le (by rw [Alg.partM_length]; omega)
          obtain ⟨hd, hG⟩ := hG.out
          rw [hkn] at hG
          have G0 := Lib.hid hG.mx
          have B0 := Lib.hid (HB2.out.trans (hB.out.mono HB2.out.size))
          generalize Alg.partM n is ks = pm at *
          obtain ⟨hSq, hE⟩ := Hp.out
          have SA := Lib.hid hSq
          have KA := Lib.hid hE
          have bA : pm.length ≤ 1000000000 := by have := hSq.len; omega
          clear hG hkn hSq hE Hp
          go_wp2_with fail
          refine (Invert_e _ pm 0 _ KA.out bA SA.out.bytM G0.out).mono ?_
          rintro e w4 ⟨vx, hdx, rfl, hG4, hB4⟩
          have B4 := Lib.hid (B0.out.trans (hB4.mono B0.out.size))
          have P4 := Lib.hid (G0.out.new hB4)
          have X4 := Lib.hid hG4.mx
          clear hG4 hB4 B0 G0
          go_wp2_with fail
          refine (Product_e _ vx pm (invRows pm) (idM is.length) is.length _ SA.out (SA.out.inv KA.out).1 (SA.out.inv_right KA.out) P4.out X4.out).mono ?_
          rintro e w5 ⟨vy, hdy, rfl, hG5, hB5⟩
          have B5 := Lib.hid (B4.out.trans (hB5.mono B4.out.size))
          have Y5 := Lib.hid hG5.mx
          clear hG5 hB5 B4
          go_wp2_with fail
          refine (rIdentity_any is.length _ (by omega)).mono ?_
          rintro e w6 ⟨vi, hdi, rfl, hG6, hB6⟩
          have B6 := Lib.hid (B5.out.trans (hB6.mono B5.out.size))
          have Y6 := Lib.hid (Y5.out.new hB6)
          have I6 := Lib.hid hG6.mx
          clear hG6 hB6 B5
          go_wp2_with fail
          refine (Same_e vy vi (idM is.length) is.length _ (Sq.idM (by omega) (by omega)) Y6.out I6.out).mono ?_
          rintro e w7 ⟨rfl, q7, hq7⟩
          have B7 : Hid (Below w.heap.size w w7) := by rw [← hq7]; exact below_drewN B6.out _
          clear hq7 B6
          go_wp2_with fail
          refine (awake_any _).mono ?_
          rintro e wz ⟨rfl, hBz⟩
          have Bz := Lib.hid (B7.out.trans (hBz.mono B7.out.size))
          clear hBz
          go_wp2_with fail
          go_ret
          exact ⟨rfl, Bz.out⟩

theorem GaloisParts_walk (x y : Nat) (v : Value) (l : List (List Nat)) (w : World) (hx : x < 256) (hy : y < 256) (hP : Pgs w v 2 l) (hr2 : ∀ r ∈ l, r.length = 2) (hB : BytM l) (hl : l.length ≤ maxLen) :
    Calls Try.prog 10 #[.int .u8 x, .int .u8 y, v] w fun e w' => e = .returned (.bool true) ∧ Below w.heap.size w w' := by
  obtain ⟨a, cap, rfl, _, h⟩ := hP
  exact parts_main x y a cap l w hx hy hl h hr2 hB
end Go.Proofs.Ytpiiigeabbhdaaa
