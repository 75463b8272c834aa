/- Plain: the register of the checksum. -/
/- Contracts of slices.Clone at any bytes, of wire.put and PutInt. -/
/- How slices of arrays of bytes are opened. -/
/- Plain: the image of a disk, and the disk of an image. -/
/- Appends of bytes onto bytes of the call's own, whatever the source. -/
/- Contracts of the second reference's power, number, Size, rest and PutInt. -/
import Derived.Test.YtkclmfppjhmnjaaB04
import Derived.Test.YtkclmfppjhmnjaaB01
import Derived.Test.YtkclmfppjhmnjaaB02
import Derived.Deep.LoopGhost
import Derived.Deep.Slices
import Derived.Maps.AppendAt
import Derived.RegionTactic
import Derived.OwnWalk
namespace Go.Proofs.Ytkclmfppjhmnjaa
namespace Crc

def poly : Nat := 3988292384
/-- One shift. -/
def s1 (r : Nat) : Nat := if r % 2 = 1 then (r / 2) ^^^ 3988292384 else r / 2
/-- Some shifts. -/
def sh : Nat → Nat → Nat
  | 0, r => r
  | k + 1, r => s1 (sh k r)
/-- Eight shifts. -/
def shf (r : Nat) : Nat := sh 8 r
theorem s1_lt {r : Nat} (h : r < 4294967296) : s1 r < 4294967296 := by
  unfold s1
  split
  · exact Nat.xor_lt_two_pow (n := 32) (by omega) (by decide)
  · omega
theorem sh_lt {r : Nat} (h : r < 4294967296) (k : Nat) : sh k r < 4294967296 := by
  induction k with
  | zero => exact h
  | succ k ih => exact s1_lt ih
theorem shf_lt {r : Nat} (h : r < 4294967296) : shf r < 4294967296 := sh_lt h 8
theorem s1_xor (x y : Nat) : s1 (x ^^^ y) = s1 x ^^^ s1 y := by
  have hd : (x ^^^ y) / 2 = x / 2 ^^^ y / 2 := Nat.xor_div_two
  have hm : ((x ^^^ y) % 2 = 1) ↔ ¬ ((x % 2 = 1) ↔ (y % 2 = 1)) := Nat.xor_mod_two_eq_one
  unfold s1
  rw [hd]
  by_cases hx : x % 2 = 1
  · by_cases hy : y % 2 = 1
    · rw [if_neg (by rw [hm]; simp [hx, hy]), if_pos hx, if_pos hy]
      rw [Nat.xor_assoc, Nat.xor_comm (3988292384) (y / 2 ^^^ 3988292384), Nat.xor_assoc, Nat.xor_self, Nat.xor_zero]
    · rw [if_pos (by rw [hm]; simp [hx, hy]), if_pos hx, if_neg hy, Nat.xor_assoc, Nat.xor_comm (y / 2), ← Nat.xor_assoc]
  · by_cases hy : y % 2 = 1
    · rw [if_pos (by rw [hm]; simp [hx, hy]), if_neg hx, if_pos hy, Nat.xor_assoc]
    · rw [if_neg (by rw [hm]; simp [hx, hy]), if_neg hx, if_neg hy]
theorem sh_xor (k x y : Nat) : sh k (x ^^^ y) = sh k x ^^^ sh k y := by
  induction k with
  | zero => rfl
  | succ k ih => rw [sh, ih, s1_xor]; rfl
theorem sh_comm (k r : Nat) : sh k (s1 r) = s1 (sh k r) := by
  induction k with
  | zero => rfl
  | succ k ih => rw [sh, ih]; rfl
theorem s1_even (q : Nat) : s1 (2 * q) = q := by
  unfold s1; rw [if_neg (by omega)]; omega
theorem sh_pow (k q : Nat) : sh k (2 ^ k * q) = q := by
  induction k generalizing q with
  | zero => simp [sh]
  | succ k ih =>
    rw [sh, ← sh_comm, Nat.pow_succ, Nat.mul_comm (2 ^ k) 2, Nat.mul_assoc, s1_even]
    exact ih q
/-- The register behind a byte. -/
def reg (r b : Nat) : Nat := shf (r ^^^ b)
theorem reg_lt {r b : Nat} (hr : r < 4294967296) (hb : b < 256) : reg r b < 4294967296 := shf_lt (Nat.xor_lt_two_pow (n := 32) hr (by omega))
/-- By the table. -/
theorem reg_tab (r b : Nat) : reg r b = (r / 256) ^^^ shf ((r % 256) ^^^ b) := by
  have h1 : 2 ^ 8 * (r / 256) ^^^ (r % 256) = r := by
    have hm : r % 256 < 2 ^ 8 := Nat.mod_lt _ (by decide)
    have e : 2 ^ 8 * (r / 256) ^^^ (r % 256) = 2 ^ 8 * (r / 256) + r % 256 := by
      apply Nat.eq_of_testBit_eq
      intro j
      rw [Nat.testBit_xor, Nat.testBit_two_pow_mul_add _ hm]
      have h0 := Nat.testBit_two_pow_mul_add (r / 256) (b := 0) (i := 8) (by decide) j
      rw [Nat.add_zero] at h0
      rw [h0]
      by_cases hj : j < 8
      · rw [if_pos hj, if_pos hj]; simp
      · rw [if_neg hj, if_neg hj, Nat.testBit_lt_two_pow (Nat.lt_of_lt_of_le hm (Nat.pow_le_pow_right (by decide) (by omega)))]; simp
    rw [e]; omega
  unfold reg shf
  have h2 := sh_xor 8 (2 ^ 8 * (r / 256)) ((r % 256) ^^^ b)
  rw [← Nat.xor_assoc, h1, sh_pow] at h2
  exact h2
/-- The register behind bytes. -/
def upd (r : Nat) (l : List Nat) : Nat := l.foldl reg r
theorem upd_lt {r : Nat} {l : List Nat} (hr : r < 4294967296) (hl : ∀ x ∈ l, x < 256) : upd r l < 4294967296 := by
  induction l generalizing r with
  | nil => exact hr
  | cons b l ih => exact ih (reg_lt hr (hl b (by simp))) (fun x hx => hl x (by simp [hx]))
theorem upd_snoc (r : Nat) (l : List Nat) (b : Nat) : upd r (l ++ [b]) = reg (upd r l) b := by unfold upd; rw [List.foldl_append]; rfl
/-- The sum of bytes behind those with a sum. -/
def crc (s : Nat) (l : List Nat) : Nat := 4294967295 - upd (4294967295 - s) l
theorem crc_lt (s : Nat) (l : List Nat) : crc s l < 4294967296 := by unfold crc; omega
/-- Bytes with their sum. -/
def tail4 (s : Nat) : List Nat := [s % 256, s / 256 % 256, s / 65536 % 256, s / 16777216 % 256]
def seal4 (l : List Nat) : List Nat := l ++ tail4 (crc 0 l)
theorem seal4_length (l : List Nat) : (seal4 l).length = l.length + 4 := by unfold seal4 tail4; simp
theorem seal4_byt {l : List Nat} (h : ∀ x ∈ l, x < 256) : ∀ x ∈ seal4 l, x < 256 := by
  intro x hx
  unfold seal4 tail4 at hx
  rcases List.mem_append.1 hx with hx | hx
  · exact h x hx
  · simp only [List.mem_cons, List.not_mem_nil, or_false] at hx
    omega
end Crc
end Go.Proofs.Ytkclmfppjhmnjaa

namespace Go.Proofs.Ytkclmfppjhmnjaa
open Go.RowKit Wire

/-- A slice of bytes that owns its block. -/
def BO (w : World) (B : Nat) (v : Value) (l : List Nat) : Prop := w.ownsRow B 5 1 v l.length (l.map bv)
theorem BO.nil (w : World) (B : Nat) : BO w B (.slice none 0 0) [] := ⟨by simp, .inl ⟨rfl, rfl⟩⟩
theorem BO.bs {w : World} {B : Nat} {v : Value} {l : List Nat} (h : BO w B v l) : Bs w v l := by
  have h' := h
  rcases h.2 with ⟨rfl, h0⟩ | ⟨g, cap, cur, rfl, hb, hg, hn, hc, hs, ht⟩
  · exact ⟨none, 0, by rw [h0], by omega, Or.inl (List.eq_nil_of_length_eq_zero h0)⟩
  · exact ⟨some ⟨g, 0, none⟩, cap, rfl, hn, Or.inr ⟨g, 0, rfl, (Blk.of_owns h').row⟩⟩
theorem BO.new {w w' : World} {B : Nat} {v : Value} {l : List Nat} (h : BO w B v l) (k : Below w.heap.size w w') : BO w' B v l :=
  World.ownsRow.kept h (row := none) ⟨k.os, k.tape, k.output, k.size, fun i hi _ => k.block i hi⟩ (by cases v.ownBlock <;> simp)
theorem BO.base {w : World} {B B' : Nat} {v : Value} {l : List Nat} (h : BO w B v l) (hB : B' ≤ B) : BO w B' v l := by
  refine ⟨h.1, ?_⟩
  rcases h.2 with h | ⟨g, cap, cur, hv, hb, rest⟩
  · exact .inl h
  · exact .inr ⟨g, cap, cur, hv, by omega, rest⟩
theorem BO.form {w : World} {B : Nat} {v : Value} {l : List Nat} (h : BO w B v l) : ∃ a cap, v = .slice a l.length cap := by
  rcases h.2 with ⟨rfl, h0⟩ | ⟨g, cap, cur, hv, _⟩
  · exact ⟨none, 0, by rw [h0]⟩
  · exact ⟨_, _, hv⟩
theorem BO.block {w : World} {B : Nat} {v : Value} {l : List Nat} (h : BO w B v l) : ∀ q, v.ownBlock = some q → B ≤ q := by
  intro q hq
  rcases h.2 with ⟨rfl, h0⟩ | ⟨g, cap, cur, rfl, hb, _⟩
  · simp [Value.ownBlock] at hq
  · simp only [Value.ownBlock, Option.some.injEq] at hq; omega
theorem Bs.src {w w' : World} {a : Addr} {n cap : Nat} {l : List Nat} (h : Bs w (.slice (some a) n cap) l) (hb : Below w.heap.size w w') : ∀ j u, (l.map bv)[j]? = some u → w'.cell? (a.add j) = some u := by
  obtain ⟨a', cap', hv, _, h⟩ := h
  simp only [Value.slice.injEq] at hv
  rcases h with h | ⟨b, o, ha, hr⟩
  · subst h; intro j u hu; simp at hu
  · rw [← hv.1] at ha
    simp only [Option.some.injEq] at ha
    subst ha
    exact hr.src hb
theorem Bs.len {w : World} {a : Option Addr} {n cap : Nat} {l : List Nat} (h : Bs w (.slice a n cap) l) : n = l.length := by
  obtain ⟨a', cap', hv, _, _⟩ := h
  simp only [Value.slice.injEq] at hv
  exact hv.2.1
theorem Bs.isNil {w : World} {n cap : Nat} {l : List Nat} (h : Bs w (.slice none n cap) l) : l = [] := by
  obtain ⟨a', cap', hv, _, h⟩ := h
  simp only [Value.slice.injEq] at hv
  rcases h with h | ⟨b, o, ha, _⟩
  · exact h
  · rw [← hv.1] at ha; cases ha

/-- What a function that returns bytes of its own leaves. -/
def BytesRet (l : List Nat) (w : World) (e : Ending) (w' : World) : Prop := ∃ v', e = .returned v' ∧ BO w' w.heap.size v' l ∧ Below w.heap.size w w'

set_option maxRecDepth 100000 in
set_option maxHeartbeats 400000 in
theorem Clone_bs (v : Value) (l : List Nat) (w : World) (h : Bs w v l) (hl : l.length ≤ 1000000000) : Calls Try.prog 30 #[v] w (BytesRet l w) := by
  have q1 := eqnil
  have q2 := noBytes
  obtain ⟨i0, hi, hz0, hz1, hz2⟩ := info_parts infoByte
  have H := Lib.hid h
  obtain ⟨a, cap, rfl, hcap, _⟩ := h
  cases a with
  | none =>
    have h0 := H.out.isNil
    subst h0
    clear H
    go_enter Try.func30, Try.ntmps30
    go_wp2_with fail
    go_ret
    exact ⟨_, rfl, BO.nil _ _, Below.refl _ _⟩
  | some ad =>
    go_enter Try.func30, Try.ntmps30
    go_wp2_with (at_builtin; refine wpList_append_own _ rfl _ _ 26 rfl w.heap.size 5 i0 (.int .u8 0) 1 1 Try.underlying26 hi hz0 hz1 hz2 rfl (by decide) _ 0 [] rfl (World.ownsRow_made w #[] 0 (Nat.le_refl _) (by decide) rfl) ad l.length cap (l.map bv) rfl ?c1 ?c2 ?c3 ?c4 ?c5 ?c6 ?_)
    case c1 => simp
    case c2 => exact H.out.src ((Below.refl _ _).alloc (Nat.le_refl _) _)
    case c3 => intro u hu; obtain ⟨x, _, rfl⟩ := List.mem_map.1 hu; rfl
    case c4 => unfold maxLen; omega
    case c5 => omega
    case c6 => simp
    intro v' w' hown hg _
    have hown' : w'.ownsRow w.heap.size 5 1 v' l.length (l.map bv) := by simpa only [Nat.zero_add, List.nil_append] using hown
    have hB : Below w.heap.size w w' := ((Below.refl _ _).alloc (Nat.le_refl _) _).grown hg (by simp) (by intro k hk; simp [Value.ownBlock] at hk; omega)
    have HO := Lib.hid (show BO w' w.heap.size v' l from hown')
    have HB := Lib.hid hB
    clear hown hown' hg hB
    go_wp2_with fail
    go_ret
    exact ⟨v', rfl, HO.out, HB.out⟩

theorem cell1 (W : World) (T : Nat) (x : Value) : ∀ j u, [x][j]? = some u → (W.alloc (.cells #[x] T)).cell? ((⟨W.heap.size, 0, none⟩ : Addr).add j) = some u := by
  intro j u hu
  have hj := (List.getElem?_eq_some_iff.1 hu).1
  simp only [List.length_cons, List.length_nil] at hj
  obtain rfl : j = 0 := by omega
  have h := (Blk.new W T #[x]).cell (i := 0) (v := u) hu
  exact h
theorem or_u8 (a b : Nat) (ha : a < 256) (hb : b < 256) : bits .or .u8 (a : Int) (b : Int) = ((a ||| b : Nat) : Int) := by
  have hx : a ||| b < 2 ^ 8 := Nat.or_lt_two_pow (by omega) (by omega)
  have h1 : (BitVec.ofInt 8 (a : Int)).toNat = a := by
    rw [BitVec.ofInt_natCast, BitVec.toNat_ofNat]; exact Nat.mod_eq_of_lt (by omega)
  have h2 : (BitVec.ofInt 8 (b : Int)).toNat = b := by
    rw [BitVec.ofInt_natCast, BitVec.toNat_ofNat]; exact Nat.mod_eq_of_lt (by omega)
  show IntKind.u8.wrap ((BitVec.ofInt 8 (a : Int) ||| BitVec.ofInt 8 (b : Int)).toNat : Int) = _
  rw [BitVec.toNat_or, h1, h2]
  exact IntWalk.u8_in _ (by omega)
theorem eight {k : Nat} (h : k ≤ 7) : k = 0 ∨ k = 1 ∨ k = 2 ∨ k = 3 ∨ k = 4 ∨ k = 5 ∨ k = 6 ∨ k = 7 := by omega
theorem mark_eq {k : Nat} (hk : k ≤ 7) : (255 : Int) * 2 ^ (8 - k) % 256 = ((256 - 2 ^ (8 - k) : Nat) : Int) ∧ 256 - 2 ^ (8 - k) = 2 ^ (8 - k) * (2 ^ k - 1) ∧ 2 ^ (8 - k) ≤ 256 ∧ 2 ^ (7 - k) < 2 ^ (8 - k) := by
  rcases eight hk with rfl | rfl | rfl | rfl | rfl | rfl | rfl | rfl <;> decide
theorem head_or {k x : Nat} (hk : k ≤ 7) (hx : x < 2 ^ (7 - k)) : bits .or .u8 ((255 : Int) * 2 ^ (8 - k) % 256) ((x : Int) % 256) = ((256 - 2 ^ (8 - k) + x : Nat) : Int) := by
  obtain ⟨h1, h2, h3, h4⟩ := mark_eq hk
  have hp : 1 ≤ 2 ^ (7 - k) := Nat.two_pow_pos _
  rw [h1, show (x : Int) % 256 = (x : Int) by omega, or_u8 _ _ (by omega) (by omega), h2]
  congr 1
  exact (Nat.two_pow_add_eq_or_of_lt (by omega) _).symm
theorem div_cast (m k : Nat) : (m : Int) / 2 ^ k = ((m / 2 ^ k : Nat) : Int) := by
  rw [Int.natCast_ediv, Int.natCast_pow]; rfl
theorem low_step (m q : Nat) : low m (q + 1) = (m / 2 ^ (8 * q)) % 256 :: low m q := rfl

set_option maxRecDepth 100000 in
set_option maxHeartbeats 4000000 in
theorem wput_any (B : Nat) (v : Value) (l : List Nat) (n : Int) (w : World) (hO : BO w B v l) (hB : B ≤ w.heap.size) (hl : l.length ≤ 100000000) :
    Calls Try.prog 69 #[v, .int .i64 n] w fun e w' => ∃ v', e = .returned v' ∧ BO w' B v' (l ++ enc (num n)) ∧ Below B w w' := by
  obtain ⟨i0, hi, hz0, hz1, hz2⟩ := info_parts infoByte
  have HO := Lib.hid hO
  obtain ⟨a, cap, rfl⟩ := hO.form
  have hm := num_lt n
  have hmf := fur_lt8 hm
  obtain ⟨m, hm'⟩ : ∃ m, num n = m := ⟨_, rfl⟩
  have hN := Lib.hid (wnumber_any n w)
  rw [hm'] at hN hm hmf ⊢
  have hF := Lib.hid (wfurther_any m w (Nat.lt_of_lt_of_le hm (by decide)))
  have hh := head_lt hm
  have hE : enc m = (256 - 2 ^ (8 - fur m) + m / 2 ^ (8 * fur m)) :: low m (fur m) := rfl
  clear hm' hO
  have hm53 : m < 9007199254740992 := Nat.lt_of_lt_of_le hm (by decide)
  clear hm
  obtain ⟨k, hk⟩ : ∃ k, fur m = k := ⟨_, rfl⟩
  rw [hk] at hF hmf hh hE
  clear hk
  have e1 := head_or hmf hh
  obtain ⟨x, hx⟩ : ∃ x, m / 2 ^ (8 * k) = x := ⟨_, rfl⟩
  have e0 : (m : Int) / 2 ^ (8 * k) = (x : Int) := by rw [div_cast, hx]
  rw [hx] at e1 hE
  obtain ⟨h, hh2⟩ : ∃ h, 256 - 2 ^ (8 - k) + x = h := ⟨_, rfl⟩
  rw [hh2] at e1 hE
  have HE := Lib.hid hE
  clear hE hh2 hh hx
  go_enter Try.func69, Try.ntmps69
  go_wp2_with fail
  refine hN.out.mono ?_
  rintro e w' ⟨rfl, rfl⟩
  go_wp2_with fail
  refine hF.out.mono ?_
  rintro e w' ⟨rfl, rfl⟩
  clear hN hF
  go_wp2_with (at_builtin; refine wpList_append_own _ rfl _ _ 26 rfl B 5 i0 (.int .u8 0) 1 1 Try.underlying26 hi hz0 hz1 hz2 rfl (by decide) _ l.length (l.map bv) rfl (World.ownsRow.alloc HO.out _) ⟨_, 0, none⟩ 1 1 [.int .u8 (h : Nat)] rfl rfl (cell1 _ _ _) ?c3 ?c4 ?c5 ?c6 ?_)
  case c3 => intro u hu; simp only [List.mem_cons, List.not_mem_nil, or_false] at hu; subst hu; rfl
  case c4 => unfold maxLen; omega
  case c5 => omega
  case c6 => simp; omega
  intro v5 w5 hown hgr _
  have hO5 : BO w5 B v5 (l ++ [h]) := by unfold BO; rw [List.length_append, List.map_append]; exact hown
  have hB5 : Below B w' w5 := Below.grown ((Below.refl B w').alloc hB _) hgr (by simp; omega) HO.out.block
  have HO5 := Lib.hid hO5
  have HB5 := Lib.hid hB5
  clear hown hgr hO5 hB5
  go_wp2_with fail
  go_loopg [0, 7] k (fun gk v i wr => ∃ (r : Nat) (p : List Nat), r = gk ∧ r ≤ 7 ∧ i = .int .i64 ((r : Int) - 1) ∧ Hid (BO wr B v p) ∧ Hid (p ++ low m r = l ++ enc m) ∧ Hid (Below B w' wr))
  case atStart => exact ⟨k, l ++ [h], rfl, hmf, by go_num, HO5.out, show l ++ [h] ++ low m k = l ++ enc m by rw [HE.out, List.append_assoc]; rfl, HB5.out⟩
  case round =>
    obtain ⟨r, p, hgk, hr7, rfl, hO, hP, hBr⟩ := hrel
    have Hgk := Lib.hid hgk
    clear hgk
    cases r with
    | zero =>
      have hO' := hO.out
      have hP' := hP.out
      rw [low, List.append_nil] at hP'
      rw [hP'] at hO'
      have HO' := Lib.hid hO'
      clear hO' hP' hO
      go_wp2_with fail
      go_ret
      exact ⟨_, rfl, HO'.out, hBr.out⟩
    | succ q =>
      have hP' := hP.out
      rw [low_step] at hP'
      have hlen := congrArg List.length hP'
      have hel := congrArg List.length HE.out
      simp only [List.length_append, List.length_cons, low_length] at hlen hel
      rw [show ((q + 1 : Nat) : Int) - 1 = (q : Int) by omega]
      have e2 : (m : Int) / 2 ^ (8 * q) = ((m / 2 ^ (8 * q) : Nat) : Int) := div_cast _ _
      have HP := Lib.hid hP'
      obtain ⟨y, hy⟩ : ∃ y, m / 2 ^ (8 * q) = y := ⟨_, rfl⟩
      rw [hy] at e2 HP
      clear hP' hy hP
      obtain ⟨ap, cp, hvp⟩ := hO.out.form
      subst hvp
      have hz : B ≤ wr.heap.size := by have := hBr.out.size; omega
      go_wp2_with (at_builtin; refine wpList_append_own _ rfl _ _ 26 rfl B 5 i0 (.int .u8 0) 1 1 Try.underlying26 hi hz0 hz1 hz2 rfl (by decide) _ p.length (p.map bv) rfl (World.ownsRow.alloc hO.out _) ⟨_, 0, none⟩ 1 1 [.int .u8 ((y % 256 : Nat) : Int)] rfl rfl (cell1 _ _ _) ?c3 ?c4 ?c5 ?c6 ?_)
      case c3 => intro u hu; simp only [List.mem_cons, List.not_mem_nil, or_false] at hu; subst hu; rfl
      case c4 => unfold maxLen; omega
      case c5 => omega
      case c6 => simp; omega
      intro v6 w6 hown hgr _
      have hO6 : BO w6 B v6 (p ++ [y % 256]) := by unfold BO; rw [List.length_append, List.map_append]; exact hown
      have hB6 : Below B w' w6 := Below.grown (hBr.out.alloc hz _) hgr (by simp; omega) hO.out.block
      have HO6 := Lib.hid hO6
      have HB6 := Lib.hid hB6
      clear hown hgr hO6 hB6
      go_wp2_with fail
      go_roundg q
      case measure => have := Hgk.out; omega
      case rel => exact ⟨q, p ++ [y % 256], rfl, by omega, by go_num, HO6.out, show p ++ [y % 256] ++ low m q = l ++ enc m by rw [List.append_assoc]; exact HP.out, HB6.out⟩

set_option maxRecDepth 100000 in
theorem PutInt_any (v : Value) (l : List Nat) (n : Int) (w : World) (h : Bs w v l) (hl : l.length ≤ 100000000) : Calls Try.prog 37 #[v, .int .i64 n] w (BytesRet (l ++ enc (num n)) w) := by
  have H := Lib.hid h
  obtain ⟨a, cap, rfl, hcap, _⟩ := h
  go_enter Try.func37, Try.ntmps37
  go_wp2_with fail
  refine (Clone_bs _ l _ H.out (by omega)).mono ?_
  rintro e w1 ⟨v1, rfl, hO, hB⟩
  have HO := Lib.hid hO
  have HB := Lib.hid hB
  have hz := hB.size
  clear hO hB
  go_wp2_with fail
  refine (wput_any w.heap.size v1 l n _ HO.out hz hl).mono ?_
  rintro e w2 ⟨v2, rfl, hO2, hB2⟩
  have HO2 := Lib.hid hO2
  have HB2 := Lib.hid (HB.out.trans hB2)
  clear hO2 hB2
  go_wp2_with fail
  go_ret
  exact ⟨_, rfl, HO2.out, HB2.out⟩
end Go.Proofs.Ytkclmfppjhmnjaa

namespace Go.Proofs.Ytkclmfppjhmnjaa
open Go.ChangeShapes Go.WideShapes Go.ChangeAt Go.RowKit

/-- From (b, o) on lie arrays of n bytes each. -/
def PgAt (w : World) (b o n : Nat) (l : List (List Nat)) : Prop := ∀ i r, l[i]? = some r → RowAt w b (o + i * n) r
/-- A slice of arrays of n bytes reads as l. -/
def Pgs (w : World) (v : Value) (n : Nat) (l : List (List Nat)) : Prop :=
  ∃ (a : Option Addr) (cap : Nat), v = .slice a l.length cap ∧ l.length ≤ cap ∧ (l = [] ∨ ∃ b o, a = some ⟨b, o, none⟩ ∧ PgAt w b o n l)

def vnat : Value → Nat
  | .int _ z => z.toNat
  | _ => 0

theorem PgAt.new {w w' : World} {b o n : Nat} {l : List (List Nat)} (h : PgAt w b o n l) (k : Below w.heap.size w w') : PgAt w' b o n l := fun i r hr => (h i r hr).new k
theorem Pgs.new {w w' : World} {v : Value} {n : Nat} {l : List (List Nat)} (h : Pgs w v n l) (k : Below w.heap.size w w') : Pgs w' v n l := by
  obtain ⟨a, cap, hv, hc, h⟩ := h
  exact ⟨a, cap, hv, hc, h.imp id fun ⟨b, o, ha, hp⟩ => ⟨b, o, ha, hp.new k⟩⟩

theorem open_arr {H : Type} {enc : TypeId × Value → H} {P : Program} {W : World} {base : Nat} {spare : Nat → Bool} {held : Bool} {e eb n fuel : Nat} {cs : List Value} {x : DataW H × List MemPlace} (he : P.underlying e = some (.array n eb)) (hb : P.underlying eb = some (.int .u8)) (hce : P.cellsOf eb = 1) (hcn : P.cellsOf e = n)
    (h : DataW.trod enc P W base spare held fuel e cs = some x) : cs.length = n ∧ Byt (cs.map vnat) ∧ cs = (cs.map vnat).map bv := by
  obtain ⟨xs, m, _, _, hl, hxl, hx⟩ := DataW.trod_array he h
  rw [hcn] at hl
  have key : ∀ (j : Nat) (v : Value), cs[j]? = some v → vnat v < 256 ∧ v = bv (vnat v) := by
    intro j v hj
    have hj1 := (List.getElem?_eq_some_iff.1 hj).1
    have h1 := hx j (by omega)
    rw [hce, Nat.mul_one, List.getElem?_eq_getElem (by omega)] at h1
    obtain ⟨z, hz, _, hw⟩ := DataW.trod_int hb h1
    rw [List.drop_eq_getElem_cons hj1] at hz
    simp only [List.take_succ_cons, List.take_zero, List.cons.injEq, and_true] at hz
    rw [List.getElem?_eq_getElem hj1, Option.some.injEq] at hj
    rw [hj] at hz
    subst hz
    have := bounds_u8 hw
    refine ⟨show z.toNat < 256 by omega, ?_⟩
    show Value.int .u8 z = .int .u8 (z.toNat : Int)
    rw [Int.toNat_of_nonneg this.1]
  refine ⟨hl, ?_, ?_⟩
  · intro y hy
    obtain ⟨v, hv, rfl⟩ := List.mem_map.1 hy
    obtain ⟨j, hj⟩ := List.mem_iff_getElem?.1 hv
    exact (key j v hj).1
  · apply List.ext_getElem?
    intro j
    rw [List.getElem?_map, List.getElem?_map]
    cases hj : cs[j]? with
    | none => rfl
    | some v => simp only [Option.map_some]; rw [← (key j v hj).2]

theorem open_pgs {H : Type} {enc : TypeId × Value → H} {P : Program} {W : World} {base bs t e eb n : Nat} {r : Reach} {v : Value} {d : DataW H} {p : List MemPlace} {spare : Nat → Bool} {held : Bool} (ht : P.underlying t = some (.slice e)) (he : P.underlying e = some (.array n eb)) (hb : P.underlying eb = some (.int .u8)) (hce : P.cellsOf eb = 1) (hcn : P.cellsOf e = n) (hn : 0 < n)
    (hv : Value.okWide P W r base t v) (h : DataW.Trod enc P W bs spare held t v d p) :
    ∃ l : List (List Nat), Pgs W v n l ∧ (∀ r ∈ l, r.length = n) ∧ BytM l ∧ l.length ≤ maxLen := by
  obtain ⟨a0, len0, cap0, rfl⟩ := okWide_slice ht hv
  obtain ⟨fuel, hf⟩ := h
  rcases Go.Deep.open_slice ht hf with ⟨hcs, _⟩ | ⟨a, len, cap, m, q, D, Pl, hcs, _, hl, hm, hmm, _, hi⟩
  · simp only [Value.cells] at hcs
    obtain ⟨rfl, rfl, rfl⟩ : a0 = none ∧ len0 = 0 ∧ cap0 = 0 := by simpa using hcs
    exact ⟨[], ⟨none, 0, rfl, Nat.le_refl _, Or.inl rfl⟩, by simp, fun r hr => by simp at hr, Nat.zero_le _⟩
  · simp only [Value.cells] at hcs
    obtain ⟨rfl, rfl, rfl⟩ : a0 = some a ∧ len0 = len ∧ cap0 = cap := by simpa using hcs
    have hlm : len0 ≤ m := by rw [hmm]; split <;> omega
    have row : ∀ i : Nat, ∃ s : List Nat, i < len0 → s.length = n ∧ Byt s ∧ ∀ (j x : Nat), s[j]? = some x → W.cell? ((a.add (i * n)).add j) = some (bv x) := by
      intro i
      by_cases hil : i < len0
      · obtain ⟨cs', hc, htr⟩ := hi i (by omega)
        rw [hcn] at hc
        obtain ⟨_, hcl, hat⟩ := World.cells?_some hc
        obtain ⟨k1, k2, k3⟩ := open_arr he hb hce hcn htr
        refine ⟨cs'.map vnat, fun _ => ⟨by simpa using k1, k2, fun j x hx => ?_⟩⟩
        have hj := (List.getElem?_eq_some_iff.1 hx).1
        rw [List.length_map, k1] at hj
        rw [hat j hj]
        rw [k3, List.getElem?_map, hx]
        rfl
      · exact ⟨[], fun h => absurd h hil⟩
    obtain ⟨f, hf⟩ := Classical.axiomOfChoice row
    have hget : ∀ (i : Nat) (r : List Nat), ((List.range len0).map f)[i]? = some r → i < len0 ∧ r = f i := by
      intro i r hr
      have h1 := (List.getElem?_eq_some_iff.1 hr).1
      simp only [List.length_map, List.length_range] at h1
      simp [h1] at hr
      exact ⟨h1, hr.symm⟩
    refine ⟨(List.range len0).map f, ⟨some a, cap0, by simp, by simpa using hl, ?_⟩, ?_, ?_, by simp; omega⟩
    · by_cases h0 : len0 = 0
      · subst h0; exact Or.inl rfl
      · right
        have h00 := hf 0 (by omega)
        have hpl := addr_plain (h00.2.2 0 _ (List.getElem?_eq_getElem (by omega)))
        have e0 : (a.add (0 * n)).add 0 = a := by rw [Nat.zero_mul]; unfold Addr.add; simp
        rw [e0] at hpl
        refine ⟨a.block, a.off, by obtain ⟨b, o, s⟩ := a; simp only at hpl; subst hpl; rfl, ?_⟩
        intro i r hr j x hx
        obtain ⟨h1, rfl⟩ := hget i r hr
        have := (hf i h1).2.2 j x hx
        rw [add_plain hpl, add_plain rfl] at this
        exact this
    · intro r hr
      obtain ⟨i, hi⟩ := List.mem_iff_getElem?.1 hr
      obtain ⟨h1, rfl⟩ := hget i r hi
      exact (hf i h1).1
    · intro r hr
      obtain ⟨i, hi⟩ := List.mem_iff_getElem?.1 hr
      obtain ⟨h1, rfl⟩ := hget i r hi
      exact (hf i h1).2.1
end Go.Proofs.Ytkclmfppjhmnjaa

namespace Go.Proofs.Ytkclmfppjhmnjaa
namespace Img
open Wire

/-- A page of zeros. -/
def zp : List Nat := List.replicate 16 0
theorem zp_length : zp.length = 16 := by simp [zp]
/-- The error of a disk. -/
def dkErr (n : Nat) (q : List (Int × List Nat)) : Nat := if n < 1 ∨ 8192 < n ∨ ∃ p ∈ q, p.1 < 0 ∨ (n : Int) ≤ p.1 then 2 else 0
/-- The contents of a disk. -/
def cont (l : List (List Nat)) : List (Int × List Nat) → List (List Nat)
  | [] => l
  | p :: q => cont (l.set p.1.toNat p.2) q
theorem cont_length (l : List (List Nat)) (q : List (Int × List Nat)) : (cont l q).length = l.length := by
  induction q generalizing l with
  | nil => rfl
  | cons p q ih => rw [cont, ih, List.length_set]
theorem cont_all {C : List Nat → Prop} {l : List (List Nat)} {q : List (Int × List Nat)} (h : ∀ r ∈ l, C r) (k : ∀ p ∈ q, C p.2) : ∀ r ∈ cont l q, C r := by
  induction q generalizing l with
  | nil => exact h
  | cons p q ih =>
    rw [cont]
    refine ih ?_ (fun x hx => k x (List.mem_cons_of_mem _ hx))
    intro r hr
    rcases List.mem_or_eq_of_mem_set hr with hr | hr
    · exact h r hr
    · rw [hr]; exact k p (List.mem_cons_self ..)
/-- How many pages stand up to the last one that is not zero, of the first n. -/
def cutN (l : List (List Nat)) : Nat → Nat
  | 0 => 0
  | n + 1 => if l.getD n [] = zp then cutN l n else n + 1
theorem cutN_le (l : List (List Nat)) (n : Nat) : cutN l n ≤ n := by
  induction n with
  | zero => exact Nat.le_refl _
  | succ n ih => rw [cutN]; split <;> omega
theorem cutN_last {l : List (List Nat)} {n : Nat} (h : cutN l n ≠ 0) : l.getD (cutN l n - 1) [] ≠ zp := by
  induction n with
  | zero => exact absurd rfl h
  | succ n ih =>
    rw [cutN] at h ⊢
    split
    · rename_i hz; rw [if_pos hz] at h; exact ih h
    · rename_i hz; simpa using hz
theorem cutN_zero {l : List (List Nat)} {n i : Nat} (h : cutN l n ≤ i) (hi : i < n) : l.getD i [] = zp := by
  induction n with
  | zero => omega
  | succ n ih =>
    rw [cutN] at h
    split at h
    · rename_i hz
      by_cases hin : i = n
      · subst hin; exact hz
      · exact ih h (by omega)
    · omega
theorem cutN_eq {l : List (List Nat)} {n k : Nat} (hk : k ≤ n) (h0 : k ≠ 0 → l.getD (k - 1) [] ≠ zp) (h1 : ∀ i, k ≤ i → i < n → l.getD i [] = zp) : cutN l n = k := by
  have h2 := cutN_le l n
  apply Nat.le_antisymm
  · apply Classical.byContradiction
    intro h
    exact cutN_last (l := l) (n := n) (by omega) (h1 _ (by omega) (by omega))
  · apply Classical.byContradiction
    intro h
    exact h0 (by omega) (cutN_zero (l := l) (n := n) (by omega) (by omega))
/-- The image. -/
def imgB (l : List (List Nat)) : List Nat := enc l.length ++ (l.take (cutN l l.length)).flatten
def imErr (l : List (List Nat)) (q : List (Int × List Nat)) : Nat := if dkErr l.length q = 0 then if 65536 < (imgB (cont l q)).length then 5 else 0 else dkErr l.length q
def imRes (l : List (List Nat)) (q : List (Int × List Nat)) : List Nat := if imErr l q = 0 then imgB (cont l q) else []
/-- A page of bytes. -/
def chunk (r : List Nat) (i : Nat) : List Nat := (r.drop (i * 16)).take 16
def pagesOf (r : List Nat) (n : Nat) : List (List Nat) := (List.range n).map fun i => if i < r.length / 16 then chunk r i else zp
theorem pagesOf_length (r : List Nat) (n : Nat) : (pagesOf r n).length = n := by simp [pagesOf]
theorem pagesOf_get {r : List Nat} {n i : Nat} (h : i < n) : (pagesOf r n).getD i [] = if i < r.length / 16 then chunk r i else zp := by
  unfold pagesOf; rw [List.getD_eq_getElem?_getD, List.getElem?_map, List.getElem?_range h]; rfl
/-- The last page that is read. -/
def lastZ (r : List Nat) : Prop := r.length / 16 ≠ 0 ∧ chunk r (r.length / 16 - 1) = zp
instance (r : List Nat) : Decidable (lastZ r) := by unfold lastZ; infer_instance
def reErr (b : List Nat) : Nat :=
  if 65536 < b.length then 5 else if rdErr b ≠ 0 then rdErr b else if rdNum b < 1 ∨ 8192 < rdNum b then 2 else
  if (rdRest b).length % 16 ≠ 0 ∨ rdNum b < (rdRest b).length / 16 then 3 else if lastZ (rdRest b) then 3 else 0
def rePg (b : List Nat) : List (List Nat) := if reErr b = 0 then pagesOf (rdRest b) (rdNum b) else []

theorem flatten_length {l : List (List Nat)} (h : ∀ r ∈ l, r.length = 16) : l.flatten.length = 16 * l.length := by
  induction l with
  | nil => rfl
  | cons a l ih => rw [List.flatten_cons, List.length_append, ih (fun r hr => h r (List.mem_cons_of_mem _ hr)), h a (List.mem_cons_self ..), List.length_cons]; omega
theorem chunk_flatten {l : List (List Nat)} (h : ∀ r ∈ l, r.length = 16) {i : Nat} (hi : i < l.length) : chunk l.flatten i = l.getD i [] := by
  induction l generalizing i with
  | nil => simp at hi
  | cons a l ih =>
    have ha := h a (List.mem_cons_self ..)
    unfold chunk
    cases i with
    | zero =>
      rw [Nat.zero_mul, List.drop_zero, List.flatten_cons, List.take_append_of_le_length (by omega), List.take_of_length_le (by omega)]
      rfl
    | succ i =>
      rw [List.flatten_cons, show (i + 1) * 16 = a.length + i * 16 by omega, List.drop_append, List.drop_of_length_le (by omega), List.nil_append, Nat.add_sub_cancel_left]
      have := ih (fun r hr => h r (List.mem_cons_of_mem _ hr)) (i := i) (by simpa using hi)
      rw [List.getD_cons_succ]
      exact this
/-- All the pages of bytes. -/
theorem flatten_chunks (r : List Nat) (k : Nat) (h : r.length = 16 * k) : ((List.range k).map (chunk r)).flatten = r := by
  induction k generalizing r with
  | zero => simp; exact List.eq_nil_of_length_eq_zero (by omega)
  | succ k ih =>
    rw [List.range_succ_eq_map, List.map_cons, List.flatten_cons, List.map_map]
    have e : (List.range k).map (chunk r ∘ Nat.succ) = (List.range k).map (chunk (r.drop 16)) := by
      apply List.map_congr_left
      intro i _
      show chunk r (i + 1) = _
      unfold chunk
      rw [List.drop_drop]
      congr 2
      omega
    rw [e, ih (r.drop 16) (by rw [List.length_drop]; omega)]
    unfold chunk
    rw [Nat.zero_mul, List.drop_zero, List.take_append_drop]
theorem fur_small {n : Nat} (h : n ≤ 8192) : fur n ≤ 1 := (fur_le n 1).2 (by omega)
theorem imgB_length {l : List (List Nat)} (h : ∀ r ∈ l, r.length = 16) : (imgB l).length = fur l.length + 1 + 16 * cutN l l.length := by
  unfold imgB
  rw [List.length_append, enc_length, flatten_length (fun r hr => h r (List.mem_of_mem_take hr)), List.length_take, Nat.min_eq_left (cutN_le _ _)]

/-- An image is restored. -/
theorem re_img {l : List (List Nat)} (h : ∀ r ∈ l, r.length = 16) (h1 : 1 ≤ l.length) (h2 : l.length ≤ 8192) (hL : (imgB l).length ≤ 65536) : reErr (imgB l) = 0 ∧ rePg (imgB l) = l := by
  obtain ⟨k1, k2, k3⟩ := rd_enc (n := l.length) (Nat.lt_of_le_of_lt h2 (by decide)) (l.take (cutN l l.length)).flatten
  have hle := cutN_le l l.length
  have hlt : (l.take (cutN l l.length)).length = cutN l l.length := by rw [List.length_take, Nat.min_eq_left hle]
  have hF := flatten_length (l := l.take (cutN l l.length)) (fun r hr => h r (List.mem_of_mem_take hr))
  rw [hlt] at hF
  have hch : ∀ i, i < cutN l l.length → chunk (l.take (cutN l l.length)).flatten i = l.getD i [] := by
    intro i hi
    rw [chunk_flatten (fun r hr => h r (List.mem_of_mem_take hr)) (by omega), List.getD_eq_getElem?_getD, List.getElem?_take_of_lt hi, ← List.getD_eq_getElem?_getD]
  have hz : ¬ lastZ (l.take (cutN l l.length)).flatten := by
    unfold lastZ
    rw [hF, show 16 * cutN l l.length / 16 = cutN l l.length by omega]
    rintro ⟨h0, hc⟩
    rw [hch _ (by omega)] at hc
    exact cutN_last h0 hc
  have he : reErr (imgB l) = 0 := by
    unfold reErr
    rw [if_neg (by omega)]
    unfold imgB
    rw [k1, k2, k3, if_neg (by simp), if_neg (by omega), if_neg (by rw [hF]; omega), if_neg hz]
  refine ⟨he, ?_⟩
  unfold rePg
  rw [if_pos he]
  unfold imgB
  rw [k2, k3]
  apply List.ext_getElem?
  intro i
  by_cases hi : i < l.length
  · unfold pagesOf
    rw [List.getElem?_map, List.getElem?_range hi, Option.map_some, hF, show 16 * cutN l l.length / 16 = cutN l l.length by omega]
    have hs : l[i]? = some (l.getD i []) := by rw [List.getD_eq_getElem?_getD, List.getElem?_eq_getElem hi]; rfl
    rw [hs]
    congr 1
    split
    · rename_i hx; exact hch i hx
    · exact (cutN_zero (by omega) hi).symm
  · rw [List.getElem?_eq_none (by rw [pagesOf_length]; omega), List.getElem?_eq_none (by omega)]

theorem pagesOf_16 (r : List Nat) (n : Nat) : ∀ p ∈ pagesOf r n, p.length = 16 := by
  intro p hp
  unfold pagesOf at hp
  obtain ⟨i, _, rfl⟩ := List.mem_map.1 hp
  split
  · unfold chunk; rw [List.length_take, List.length_drop]; omega
  · exact zp_length
theorem zp_byt : ∀ x ∈ zp, x < 256 := by intro x hx; unfold zp at hx; rw [List.eq_of_mem_replicate hx]; decide
theorem pagesOf_byt {r : List Nat} (h : ∀ x ∈ r, x < 256) (n : Nat) : ∀ p ∈ pagesOf r n, ∀ x ∈ p, x < 256 := by
  intro p hp
  unfold pagesOf at hp
  obtain ⟨i, _, rfl⟩ := List.mem_map.1 hp
  split
  · intro x hx; unfold chunk at hx; exact h x (List.mem_of_mem_drop (List.mem_of_mem_take hx))
  · exact zp_byt

/-- What is restored has the bytes as its image. -/
theorem img_re {b : List Nat} (hb : ∀ x ∈ b, x < 256) (h : reErr b = 0) : imgB (rePg b) = b ∧ (rePg b).length = rdNum b ∧ 1 ≤ rdNum b ∧ rdNum b ≤ 8192 ∧ b.length ≤ 65536 := by
  have hp : rePg b = pagesOf (rdRest b) (rdNum b) := by unfold rePg; rw [if_pos h]
  unfold reErr at h
  split at h
  · omega
  rename_i h5
  split at h
  · rename_i h9; exact absurd h h9
  rename_i h9
  split at h
  · omega
  rename_i hn
  split at h
  · omega
  rename_i hf
  split at h
  · omega
  rename_i hz
  have h9' : rdErr b = 0 := by omega
  obtain ⟨_, e⟩ := enc_rd hb h9'
  rw [hp]
  refine ⟨?_, pagesOf_length _ _, by omega, by omega, by omega⟩
  have hc : cutN (pagesOf (rdRest b) (rdNum b)) (rdNum b) = (rdRest b).length / 16 := by
    refine cutN_eq (by omega) ?_ ?_
    · intro h0
      rw [pagesOf_get (by omega), if_pos (by omega)]
      intro hx
      exact hz ⟨h0, hx⟩
    · intro i h1 h2
      rw [pagesOf_get h2, if_neg (by omega)]
  have ht : (pagesOf (rdRest b) (rdNum b)).take ((rdRest b).length / 16) = (List.range ((rdRest b).length / 16)).map (chunk (rdRest b)) := by
    unfold pagesOf
    rw [← List.map_take, List.take_range, Nat.min_eq_left (by omega)]
    apply List.map_congr_left
    intro i hi
    rw [if_pos (List.mem_range.1 hi)]
  unfold imgB
  rw [pagesOf_length, hc, ht, flatten_chunks _ _ (by omega)]
  exact e.symm
end Img
end Go.Proofs.Ytkclmfppjhmnjaa

namespace Go.Proofs.Ytkclmfppjhmnjaa
open Go.RowKit

theorem run_append_bs (w : World) (base : Nat) (ty : TypeId) (v x : Value) (l r : List Nat) (hO : BO w base v l) (hx : Bs w x r) (hn : l.length + r.length ≤ 1000000000) (hbase : base ≤ w.heap.size) :
    ∃ v' w', (Builtin.append_ #[26, 26] ty #[v, x]).run Try.prog w = .ok v' w' ∧ BO w' base v' (l ++ r) ∧ w.grownBy w' v.ownBlock := by
  obtain ⟨i0, hi, hz0, hz1, hz2⟩ := info_parts infoByte
  obtain ⟨a, cap, rfl, hcap, hr⟩ := hx
  cases a with
  | none =>
    have h0 : r = [] := by
      rcases hr with h | ⟨b, o, ha, _⟩
      · exact h
      · cases ha
    subst h0
    refine ⟨v, w, ?_, by simpa using hO, World.grownBy.refl w _⟩
    rcases hO.2 with ⟨rfl, h0⟩ | ⟨g, cap', cur, rfl, _, _, hnc, _⟩
    · simp [Builtin.append_, run_underlying Try.underlying26, sizeOf, typeInfo, hi, Builtin.lenOf, Builtin.firstCells]
    · simp [Builtin.append_, run_underlying Try.underlying26, sizeOf, typeInfo, hi, Builtin.lenOf, Builtin.firstCells, hnc, storeCells]
  | some ad =>
    have hcells : ∀ j u, (r.map bv)[j]? = some u → w.cell? (ad.add j) = some u := by
      rcases hr with h | ⟨b, o, ha, hrow⟩
      · subst h; intro j u hu; simp at hu
      · simp only [Option.some.injEq] at ha
        subst ha
        exact hrow.src (Below.refl _ _)
    obtain ⟨v', w', hrun, h2, h3, _, _⟩ := run_append_own_at (P := Try.prog) w base 26 ty 5 i0 (.int .u8 0) 1 1 Try.underlying26 hi hz0 hz1 hz2 rfl (by decide) v l.length (l.map bv) hO ad r.length cap (r.map bv) (by simp) hcells (by intro u hu; obtain ⟨x, _, rfl⟩ := List.mem_map.1 hu; rfl) (by unfold maxLen; omega) (by omega) hbase
    refine ⟨v', w', hrun, ?_, h3⟩
    unfold BO
    rw [List.length_append, List.map_append]
    exact h2

theorem wp_append_bs {w : World} {o : Oper} {a : Act} {K : Act → World → Prop} {Q : Exit → Act → World → Prop} (s x : Operand) (ho : o.op = .call { callee := .builtin .append, args := #[s, x], argTypes := #[26, 26] })
    (base : Nat) (v vx : Value) (l r : List Nat) (hs : a.eval s = v) (hx : a.eval x = vx) (hO : BO w base v l) (hr : Bs w vx r) (hn : l.length + r.length ≤ 1000000000) (hbase : base ≤ w.heap.size)
    (h : ∀ v' w', BO w' base v' (l ++ r) → w.grownBy w' v.ownBlock → K (a.put o.dst v') w') : o.wp Try.prog a w K Q := by
  obtain ⟨v', w', hrun, h2, h3⟩ := run_append_bs w base o.type v vx l r hO hr hn hbase
  unfold Oper.wp execOp
  simp only [ho, resolve, invoke, builtin, Sem.run_bind, Sem.run_pure, Result.andThen_ok, List.map_toArray, List.map_cons, List.map_nil, hs, hx, hrun]
  exact h v' w' h2 h3

theorem wpList_append_bs {w : World} {ops : Array Oper} {rest : List Oper} {o : Oper} {a : Act} {Q : Exit → Act → World → Prop} (hgd : o.guard = none) (s x : Operand) (ho : o.op = .call { callee := .builtin .append, args := #[s, x], argTypes := #[26, 26] })
    (base : Nat) (v vx : Value) (l r : List Nat) (hs : a.eval s = v) (hx : a.eval x = vx) (hO : BO w base v l) (hr : Bs w vx r) (hn : l.length + r.length ≤ 1000000000) (hbase : base ≤ w.heap.size)
    (h : ∀ v' w', BO w' base v' (l ++ r) → w.grownBy w' v.ownBlock → wpList Try.prog ops Q rest (a.put o.dst v') w') : wpList Try.prog ops Q (o :: rest) a w :=
  wpList_plain hgd fun _ hK => wp_append_bs s x ho base v vx l r hs hx hO hr hn hbase fun v' w' h2 h3 => hK _ _ (h v' w' h2 h3)

theorem step_append_bs {w : World} {ops : Array Oper} {o : Oper} {a : Act} {K : Act → World → Prop} {Q : Exit → Act → World → Prop} {E : Prop} (hgd : o.guard = none) (s x : Operand) (ho : o.op = .call { callee := .builtin .append, args := #[s, x], argTypes := #[26, 26] })
    (base : Nat) (v vx : Value) (l r : List Nat) (hs : a.eval s = v) (hx : a.eval x = vx) (hO : BO w base v l) (hr : Bs w vx r) (hn : l.length + r.length ≤ 1000000000) (hbase : base ≤ w.heap.size)
    (h : ∀ v' w', BO w' base v' (l ++ r) → w.grownBy w' v.ownBlock → K (a.put o.dst v') w') :
    if Region.wanted o (yielded ops a.tmps) = true then Oper.wp Try.prog o a w K Q else E := by
  have hw : Region.wanted o (yielded ops a.tmps) = true := by simp [Region.wanted, hgd]
  rw [if_pos hw]
  exact wp_append_bs s x ho base v vx l r hs hx hO hr hn hbase h

/-- Nothing older has changed. -/
theorem bo_below {w0 w w' : World} {B base : Nat} {v : Value} {l : List Nat} (hB : Below B w0 w) (hg : w.grownBy w' v.ownBlock) (hs : B ≤ w.heap.size) (hO : BO w base v l) (hb : B ≤ base) : Below B w0 w' :=
  hB.grown hg hs fun q hq => Nat.le_trans hb (hO.block q hq)
/-- Bytes just laid. -/
theorem bs_new (w : World) (xs : List Nat) : Bs (w.alloc (.cells (xs.map bv).toArray 5)) (.slice (some ⟨w.heap.size, 0, none⟩) xs.length xs.length) xs :=
  ⟨_, _, rfl, Nat.le_refl _, Or.inr ⟨w.heap.size, 0, rfl, (show Blk (w.alloc (.cells (xs.map bv).toArray 5)) w.heap.size 5 (xs.map bv) from Blk.new w 5 (xs.map bv).toArray).row⟩⟩
theorem BO.alloc {w : World} {B : Nat} {v : Value} {l : List Nat} (h : BO w B v l) (o : Obj) : BO (w.alloc o) B v l := World.ownsRow.alloc h o
end Go.Proofs.Ytkclmfppjhmnjaa

namespace Go.Proofs.Ytkclmfppjhmnjaa
open Go.RowKit Wire

set_option maxRecDepth 100000 in
theorem r2power_any (n : Nat) (w : World) (hn : n ≤ 62) : Calls Try.prog 78 #[.int .i64 n] w fun e w' => e = .returned (.int .i64 ((2 ^ n : Nat) : Int)) ∧ w = w' := by
  go_enter Try.func78, Try.ntmps78
  go_wp2_with fail
  go_loop [3, 4] (fun p i => ∃ k : Nat, k ≤ n ∧ i = .int .i64 k ∧ p = .int .i64 ((2 ^ k : Nat) : Int)) (fun _ i => n - (intOf i).toNat)
  case atStart => exact ⟨0, by omega, rfl, rfl⟩
  case round =>
    obtain ⟨k, hk, rfl, rfl⟩ := hrel
    by_cases hlt : k < n
    · have hp : 2 ^ k ≤ 2 ^ 61 := Nat.pow_le_pow_right (by decide) (by omega)
      have hS := Lib.hid (show 2 ^ (k + 1) = 2 * 2 ^ k by rw [Nat.pow_succ]; omega)
      obtain ⟨p, hpd⟩ : ∃ p, 2 ^ k = p := ⟨_, rfl⟩
      rw [hpd] at hp hS ⊢
      have hp2 : p ≤ 2305843009213693952 := hp
      clear hpd hp
      go_wp2_with fail
      go_round
      case rel => exact ⟨k + 1, by omega, by go_num, by rw [hS.out]; go_num⟩
      case measure => simp [intOf]; omega
    · obtain rfl : k = n := by omega
      go_wp2_with fail
      go_ret
      exact ⟨rfl, rfl⟩

set_option maxRecDepth 100000 in
theorem r2number_any (n : Int) (w : World) : Calls Try.prog 76 #[.int .i64 n] w fun e w' => e = .returned (.int .i64 (num n)) ∧ w = w' := by
  have hq : Hid (num n = if n < 0 ∨ 9007199254740991 < n then 0 else n.toNat) := rfl
  generalize num n = q at *
  go_enter Try.func76, Try.ntmps76
  go_wp2_with fail
  all_goals
    go_ret
    have h := hq.out
    refine ⟨ret_int ?_, rfl⟩
    split at h <;> omega

set_option maxRecDepth 100000 in
theorem r2Size_any (n : Int) (w : World) : Calls Try.prog 77 #[.int .i64 n] w fun e w' => e = .returned (.int .i64 ((fur (num n) : Nat) + 1)) ∧ w = w' := by
  have hN := Lib.hid (r2number_any n w)
  have hmf := fur_lt8 (num_lt n)
  have hm53 : num n < 9007199254740992 := num_lt n
  obtain ⟨m, hm'⟩ : ∃ m, num n = m := ⟨_, rfl⟩
  rw [hm'] at hN hmf hm53 ⊢
  clear hm'
  go_enter Try.func77, Try.ntmps77
  go_wp2_with fail
  go_loop [3] (fun i => ∃ k : Nat, k ≤ fur m ∧ i = .int .i64 k) (fun i => 8 - (intOf i).toNat)
  case atStart => exact ⟨0, by omega, rfl⟩
  case round =>
    obtain ⟨k, hk, rfl⟩ := hrel
    have hP := Lib.hid (r2power_any (7 * (k + 1)) w (by omega))
    have hf := fur_le m k
    rw [show 7 * k + 7 = 7 * (k + 1) by omega] at hf
    have hb : 2 ^ (7 * (k + 1)) ≤ 2 ^ 61 := Nat.pow_le_pow_right (by decide) (by omega)
    obtain ⟨p, hpd⟩ : ∃ p, 2 ^ (7 * (k + 1)) = p := ⟨_, rfl⟩
    rw [hpd] at hP hf hb
    have hb2 : p ≤ 2305843009213693952 := hb
    have hk7 : k ≤ 7 := by omega
    clear hpd hb
    by_cases hlt : p ≤ m
    · have hk2 : k + 1 ≤ fur m := by omega
      have t1 : decide (p ≤ m) = true := by simp; omega
      have Hk2 := Lib.hid hk2
      clear hlt hf hk2
      go_wp2_with fail
      refine hN.out.mono ?_
      rintro e w' ⟨rfl, rfl⟩
      go_wp2_with fail
      refine (show Calls Try.prog 78 #[.int .i64 (7 * ((k : Int) + 1))] w _ from by have := hP.out; rwa [show ((7 * (k + 1) : Nat) : Int) = 7 * ((k : Int) + 1) by omega] at this).mono ?_
      rintro e w' ⟨rfl, rfl⟩
      go_wp2_with fail
      go_round
      case rel => exact ⟨k + 1, Hk2.out, by go_num⟩
      case measure => have := Hk2.out; simp [intOf]; omega
    · have hk2 : fur m = k := by omega
      have t1 : decide (p ≤ m) = false := by simp; omega
      have Hk2 := Lib.hid hk2
      clear hlt hf hk2
      go_wp2_with fail
      refine hN.out.mono ?_
      rintro e w' ⟨rfl, rfl⟩
      go_wp2_with fail
      refine (show Calls Try.prog 78 #[.int .i64 (7 * ((k : Int) + 1))] w _ from by have := hP.out; rwa [show ((7 * (k + 1) : Nat) : Int) = 7 * ((k : Int) + 1) by omega] at this).mono ?_
      rintro e w' ⟨rfl, rfl⟩
      go_wp2_with fail
      go_ret
      exact ⟨ret_int (by rw [Hk2.out]), rfl⟩

set_option maxRecDepth 100000 in
set_option maxHeartbeats 400000 in
theorem r2rest_any (v : Value) (l : List Nat) (w : World) (h : Bs w v l) (hl : l.length ≤ 1000000000) : Calls Try.prog 79 #[v] w (BytesRet l w) := by
  have H := Lib.hid h
  clear h
  go_enter Try.func79, Try.ntmps79
  go_wp2_with (at_builtin; refine wpList_append_bs rfl _ _ rfl w.heap.size _ _ [] l rfl rfl (BO.nil _ _) H.out (by simpa using hl) (Nat.le_refl _) ?_)
  intro v1 w1 hO hg
  have HB := Lib.hid (bo_below (Below.refl w.heap.size w) hg (Nat.le_refl _) (BO.nil w w.heap.size) (Nat.le_refl _))
  have HO := Lib.hid hO
  clear hO hg
  go_wp2_with fail
  go_ret
  exact ⟨_, rfl, by simpa using HO.out, HB.out⟩
end Go.Proofs.Ytkclmfppjhmnjaa
