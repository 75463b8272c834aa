/- Contracts of slices.Clone at any bytes, of wire.put and PutInt. -/
import Derived.Test.YtkclmfppjhmnjaaW1
import Derived.Test.YtkclmfppjhmnjaaGal3
import Derived.Test.YtkclmfppjhmnjaaOwn
import Derived.Deep.LoopGhost
namespace Go.Proofs.Ytkclmfppjhmnjaa
open Go.RowKit Wire

/-- A slice of bytes that owns its block. -/
def BO (w : World) (B : Nat) (v : Value) (l : List Nat) : Prop := w.ownsRow B 5 1 v l.length (l.map bv)
theorem BO.nil (w : World) (B : Nat) : BO w B (.slice none 0 0) [] := ⟨by simp, .inl ⟨rfl, rfl⟩⟩
theorem BO.bs {w : World} {B : Nat} {v : Value} {l : List Nat} (h : BO w B v l) : Bs w v l := by
  have h' := h
  rcases h.2 with ⟨rfl, h0⟩ | ⟨g, cap, cur, rfl, hb, hg, hn, hc, hs, ht⟩
  · exact ⟨none, 0, by rw [h0], by omega, Or.inl (List.eq_nil_of_length_eq_zero h0)⟩
  · exact ⟨some ⟨g, 0, none⟩, cap, rfl, hn, Or.inr ⟨g, 0, rfl, (Blk.of_owns h').row⟩⟩
theorem BO.new {w w' : World} {B : Nat} {v : Value} {l : List Nat} (h : BO w B v l) (k : Below w.heap.size w w') : BO w' B v l :=
  World.ownsRow.kept h (row := none) ⟨k.os, k.tape, k.output, k.size, fun i hi _ => k.block i hi⟩ (by cases v.ownBlock <;> simp)
theorem BO.base {w : World} {B B' : Nat} {v : Value} {l : List Nat} (h : BO w B v l) (hB : B' ≤ B) : BO w B' v l := by
  refine ⟨h.1, ?_⟩
  rcases h.2 with h | ⟨g, cap, cur, hv, hb, rest⟩
  · exact .inl h
  · exact .inr ⟨g, cap, cur, hv, by omega, rest⟩
theorem BO.form {w : World} {B : Nat} {v : Value} {l : List Nat} (h : BO w B v l) : ∃ a cap, v = .slice a l.length cap := by
  rcases h.2 with ⟨rfl, h0⟩ | ⟨g, cap, cur, hv, _⟩
  · exact ⟨none, 0, by rw [h0]⟩
  · exact ⟨_, _, hv⟩
theorem BO.block {w : World} {B : Nat} {v : Value} {l : List Nat} (h : BO w B v l) : ∀ q, v.ownBlock = some q → B ≤ q := by
  intro q hq
  rcases h.2 with ⟨rfl, h0⟩ | ⟨g, cap, cur, rfl, hb, _⟩
  · simp [Value.ownBlock] at hq
  · simp only [Value.ownBlock, Option.some.injEq] at hq; omega
theorem Bs.src {w w' : World} {a : Addr} {n cap : Nat} {l : List Nat} (h : Bs w (.slice (some a) n cap) l) (hb : Below w.heap.size w w') : ∀ j u, (l.map bv)[j]? = some u → w'.cell? (a.add j) = some u := by
  obtain ⟨a', cap', hv, _, h⟩ := h
  simp only [Value.slice.injEq] at hv
  rcases h with h | ⟨b, o, ha, hr⟩
  · subst h; intro j u hu; simp at hu
  · rw [← hv.1] at ha
    simp only [Option.some.injEq] at ha
    subst ha
    exact hr.src hb
theorem Bs.len {w : World} {a : Option Addr} {n cap : Nat} {l : List Nat} (h : Bs w (.slice a n cap) l) : n = l.length := by
  obtain ⟨a', cap', hv, _, _⟩ := h
  simp only [Value.slice.injEq] at hv
  exact hv.2.1
theorem Bs.isNil {w : World} {n cap : Nat} {l : List Nat} (h : Bs w (.slice none n cap) l) : l = [] := by
  obtain ⟨a', cap', hv, _, h⟩ := h
  simp only [Value.slice.injEq] at hv
  rcases h with h | ⟨b, o, ha, _⟩
  · exact h
  · rw [← hv.1] at ha; cases ha

/-- What a function that returns bytes of its own leaves. -/
def BytesRet (l : List Nat) (w : World) (e : Ending) (w' : World) : Prop := ∃ v', e = .returned v' ∧ BO w' w.heap.size v' l ∧ Below w.heap.size w w'

set_option maxRecDepth 100000 in
set_option maxHeartbeats 400000 in
theorem Clone_bs (v : Value) (l : List Nat) (w : World) (h : Bs w v l) (hl : l.length ≤ 1000000000) : Calls Try.prog 30 #[v] w (BytesRet l w) := by
  have q1 := eqnil
  have q2 := noBytes
  obtain ⟨i0, hi, hz0, hz1, hz2⟩ := info_parts infoByte
  have H := Lib.hid h
  obtain ⟨a, cap, rfl, hcap, _⟩ := h
  cases a with
  | none =>
    have h0 := H.out.isNil
    subst h0
    clear H
    go_enter Try.func30, Try.ntmps30
    go_wp2_with fail
    go_ret
    exact ⟨_, rfl, BO.nil _ _, Below.refl _ _⟩
  | some ad =>
    go_enter Try.func30, Try.ntmps30
    go_wp2_with (at_builtin; refine wpList_append_own _ rfl _ _ 26 rfl w.heap.size 5 i0 (.int .u8 0) 1 1 Try.underlying26 hi hz0 hz1 hz2 rfl (by decide) _ 0 [] rfl (World.ownsRow_made w #[] 0 (Nat.le_refl _) (by decide) rfl) ad l.length cap (l.map bv) rfl ?c1 ?c2 ?c3 ?c4 ?c5 ?c6 ?_)
    case c1 => simp
    case c2 => exact H.out.src ((Below.refl _ _).alloc (Nat.le_refl _) _)
    case c3 => intro u hu; obtain ⟨x, _, rfl⟩ := List.mem_map.1 hu; rfl
    case c4 => unfold maxLen; omega
    case c5 => omega
    case c6 => simp
    intro v' w' hown hg _
    have hown' : w'.ownsRow w.heap.size 5 1 v' l.length (l.map bv) := by simpa only [Nat.zero_add, List.nil_append] using hown
    have hB : Below w.heap.size w w' := ((Below.refl _ _).alloc (Nat.le_refl _) _).grown hg (by simp) (by intro k hk; simp [Value.ownBlock] at hk; omega)
    have HO := Lib.hid (show BO w' w.heap.size v' l from hown')
    have HB := Lib.hid hB
    clear hown hown' hg hB
    go_wp2_with fail
    go_ret
    exact ⟨v', rfl, HO.out, HB.out⟩

theorem cell1 (W : World) (T : Nat) (x : Value) : ∀ j u, [x][j]? = some u → (W.alloc (.cells #[x] T)).cell? ((⟨W.heap.size, 0, none⟩ : Addr).add j) = some u := by
  intro j u hu
  have hj := (List.getElem?_eq_some_iff.1 hu).1
  simp only [List.length_cons, List.length_nil] at hj
  obtain rfl : j = 0 := by omega
  have h := (Blk.new W T #[x]).cell (i := 0) (v := u) hu
  exact h
theorem or_u8 (a b : Nat) (ha : a < 256) (hb : b < 256) : bits .or .u8 (a : Int) (b : Int) = ((a ||| b : Nat) : Int) := by
  have hx : a ||| b < 2 ^ 8 := Nat.or_lt_two_pow (by omega) (by omega)
  have h1 : (BitVec.ofInt 8 (a : Int)).toNat = a := by
    rw [BitVec.ofInt_natCast, BitVec.toNat_ofNat]; exact Nat.mod_eq_of_lt (by omega)
  have h2 : (BitVec.ofInt 8 (b : Int)).toNat = b := by
    rw [BitVec.ofInt_natCast, BitVec.toNat_ofNat]; exact Nat.mod_eq_of_lt (by omega)
  show IntKind.u8.wrap ((BitVec.ofInt 8 (a : Int) ||| BitVec.ofInt 8 (b : Int)).toNat : Int) = _
  rw [BitVec.toNat_or, h1, h2]
  exact IntWalk.u8_in _ (by omega)
theorem eight {k : Nat} (h : k ≤ 7) : k = 0 ∨ k = 1 ∨ k = 2 ∨ k = 3 ∨ k = 4 ∨ k = 5 ∨ k = 6 ∨ k = 7 := by omega
theorem mark_eq {k : Nat} (hk : k ≤ 7) : (255 : Int) * 2 ^ (8 - k) % 256 = ((256 - 2 ^ (8 - k) : Nat) : Int) ∧ 256 - 2 ^ (8 - k) = 2 ^ (8 - k) * (2 ^ k - 1) ∧ 2 ^ (8 - k) ≤ 256 ∧ 2 ^ (7 - k) < 2 ^ (8 - k) := by
  rcases eight hk with rfl | rfl | rfl | rfl | rfl | rfl | rfl | rfl <;> decide
theorem head_or {k x : Nat} (hk : k ≤ 7) (hx : x < 2 ^ (7 - k)) : bits .or .u8 ((255 : Int) * 2 ^ (8 - k) % 256) ((x : Int) % 256) = ((256 - 2 ^ (8 - k) + x : Nat) : Int) := by
  obtain ⟨h1, h2, h3, h4⟩ := mark_eq hk
  have hp : 1 ≤ 2 ^ (7 - k) := Nat.two_pow_pos _
  rw [h1, show (x : Int) % 256 = (x : Int) by omega, or_u8 _ _ (by omega) (by omega), h2]
  congr 1
  exact (Nat.two_pow_add_eq_or_of_lt (by omega) _).symm
theorem div_cast (m k : Nat) : (m : Int) / 2 ^ k = ((m / 2 ^ k : Nat) : Int) := by
  rw [Int.natCast_ediv, Int.natCast_pow]; rfl
theorem low_step (m q : Nat) : low m (q + 1) = (m / 2 ^ (8 * q)) % 256 :: low m q := rfl

set_option maxRecDepth 100000 in
set_option maxHeartbeats 4000000 in
theorem wput_any (B : Nat) (v : Value) (l : List Nat) (n : Int) (w : World) (hO : BO w B v l) (hB : B ≤ w.heap.size) (hl : l.length ≤ 100000000) :
    Calls Try.prog 69 #[v, .int .i64 n] w fun e w' => ∃ v', e = .returned v' ∧ BO w' B v' (l ++ enc (num n)) ∧ Below B w w' := by
  obtain ⟨i0, hi, hz0, hz1, hz2⟩ := info_parts infoByte
  have HO := Lib.hid hO
  obtain ⟨a, cap, rfl⟩ := hO.form
  have hm := num_lt n
  have hmf := fur_lt8 hm
  obtain ⟨m, hm'⟩ : ∃ m, num n = m := ⟨_, rfl⟩
  have hN := Lib.hid (wnumber_any n w)
  rw [hm'] at hN hm hmf ⊢
  have hF := Lib.hid (wfurther_any m w (Nat.lt_of_lt_of_le hm (by decide)))
  have hh := head_lt hm
  have hE : enc m = (256 - 2 ^ (8 - fur m) + m / 2 ^ (8 * fur m)) :: low m (fur m) := rfl
  clear hm' hO
  have hm53 : m < 9007199254740992 := Nat.lt_of_lt_of_le hm (by decide)
  clear hm
  obtain ⟨k, hk⟩ : ∃ k, fur m = k := ⟨_, rfl⟩
  rw [hk] at hF hmf hh hE
  clear hk
  have e1 := head_or hmf hh
  obtain ⟨x, hx⟩ : ∃ x, m / 2 ^ (8 * k) = x := ⟨_, rfl⟩
  have e0 : (m : Int) / 2 ^ (8 * k) = (x : Int) := by rw [div_cast, hx]
  rw [hx] at e1 hE
  obtain ⟨h, hh2⟩ : ∃ h, 256 - 2 ^ (8 - k) + x = h := ⟨_, rfl⟩
  rw [hh2] at e1 hE
  have HE := Lib.hid hE
  clear hE hh2 hh hx
  go_enter Try.func69, Try.ntmps69
  go_wp2_with fail
  refine hN.out.mono ?_
  rintro e w' ⟨rfl, rfl⟩
  go_wp2_with fail
  refine hF.out.mono ?_
  rintro e w' ⟨rfl, rfl⟩
  clear hN hF
  go_wp2_with (at_builtin; refine wpList_append_own _ rfl _ _ 26 rfl B 5 i0 (.int .u8 0) 1 1 Try.underlying26 hi hz0 hz1 hz2 rfl (by decide) _ l.length (l.map bv) rfl (World.ownsRow.alloc HO.out _) ⟨_, 0, none⟩ 1 1 [.int .u8 (h : Nat)] rfl rfl (cell1 _ _ _) ?c3 ?c4 ?c5 ?c6 ?_)
  case c3 => intro u hu; simp only [List.mem_cons, List.not_mem_nil, or_false] at hu; subst hu; rfl
  case c4 => unfold maxLen; omega
  case c5 => omega
  case c6 => simp; omega
  intro v5 w5 hown hgr _
  have hO5 : BO w5 B v5 (l ++ [h]) := by unfold BO; rw [List.length_append, List.map_append]; exact hown
  have hB5 : Below B w' w5 := Below.grown ((Below.refl B w').alloc hB _) hgr (by simp; omega) HO.out.block
  have HO5 := Lib.hid hO5
  have HB5 := Lib.hid hB5
  clear hown hgr hO5 hB5
  go_wp2_with fail
  go_loopg [0, 7] k (fun gk v i wr => ∃ (r : Nat) (p : List Nat), r = gk ∧ r ≤ 7 ∧ i = .int .i64 ((r : Int) - 1) ∧ Hid (BO wr B v p) ∧ Hid (p ++ low m r = l ++ enc m) ∧ Hid (Below B w' wr))
  case atStart => exact ⟨k, l ++ [h], rfl, hmf, by go_num, HO5.out, show l ++ [h] ++ low m k = l ++ enc m by rw [HE.out, List.append_assoc]; rfl, HB5.out⟩
  case round =>
    obtain ⟨r, p, hgk, hr7, rfl, hO, hP, hBr⟩ := hrel
    have Hgk := Lib.hid hgk
    clear hgk
    cases r with
    | zero =>
      have hO' := hO.out
      have hP' := hP.out
      rw [low, List.append_nil] at hP'
      rw [hP'] at hO'
      have HO' := Lib.hid hO'
      clear hO' hP' hO
      go_wp2_with fail
      go_ret
      exact ⟨_, rfl, HO'.out, hBr.out⟩
    | succ q =>
      have hP' := hP.out
      rw [low_step] at hP'
      have hlen := congrArg List.length hP'
      have hel := congrArg List.length HE.out
      simp only [List.length_append, List.length_cons, low_length] at hlen hel
      rw [show ((q + 1 : Nat) : Int) - 1 = (q : Int) by omega]
      have e2 : (m : Int) / 2 ^ (8 * q) = ((m / 2 ^ (8 * q) : Nat) : Int) := div_cast _ _
      have HP := Lib.hid hP'
      obtain ⟨y, hy⟩ : ∃ y, m / 2 ^ (8 * q) = y := ⟨_, rfl⟩
      rw [hy] at e2 HP
      clear hP' hy hP
      obtain ⟨ap, cp, hvp⟩ := hO.out.form
      subst hvp
      have hz : B ≤ wr.heap.size := by have := hBr.out.size; omega
      go_wp2_with (at_builtin; refine wpList_append_own _ rfl _ _ 26 rfl B 5 i0 (.int .u8 0) 1 1 Try.underlying26 hi hz0 hz1 hz2 rfl (by decide) _ p.length (p.map bv) rfl (World.ownsRow.alloc hO.out _) ⟨_, 0, none⟩ 1 1 [.int .u8 ((y % 256 : Nat) : Int)] rfl rfl (cell1 _ _ _) ?c3 ?c4 ?c5 ?c6 ?_)
      case c3 => intro u hu; simp only [List.mem_cons, List.not_mem_nil, or_false] at hu; subst hu; rfl
      case c4 => unfold maxLen; omega
      case c5 => omega
      case c6 => simp; omega
      intro v6 w6 hown hgr _
      have hO6 : BO w6 B v6 (p ++ [y % 256]) := by unfold BO; rw [List.length_append, List.map_append]; exact hown
      have hB6 : Below B w' w6 := Below.grown (hBr.out.alloc hz _) hgr (by simp; omega) hO.out.block
      have HO6 := Lib.hid hO6
      have HB6 := Lib.hid hB6
      clear hown hgr hO6 hB6
      go_wp2_with fail
      go_roundg q
      case measure => have := Hgk.out; omega
      case rel => exact ⟨q, p ++ [y % 256], rfl, by omega, by go_num, HO6.out, show p ++ [y % 256] ++ low m q = l ++ enc m by rw [List.append_assoc]; exact HP.out, HB6.out⟩

set_option maxRecDepth 100000 in
theorem PutInt_any (v : Value) (l : List Nat) (n : Int) (w : World) (h : Bs w v l) (hl : l.length ≤ 100000000) : Calls Try.prog 37 #[v, .int .i64 n] w (BytesRet (l ++ enc (num n)) w) := by
  have H := Lib.hid h
  obtain ⟨a, cap, rfl, hcap, _⟩ := h
  go_enter Try.func37, Try.ntmps37
  go_wp2_with fail
  refine (Clone_bs _ l _ H.out (by omega)).mono ?_
  rintro e w1 ⟨v1, rfl, hO, hB⟩
  have HO := Lib.hid hO
  have HB := Lib.hid hB
  have hz := hB.size
  clear hO hB
  go_wp2_with fail
  refine (wput_any w.heap.size v1 l n _ HO.out hz hl).mono ?_
  rintro e w2 ⟨v2, rfl, hO2, hB2⟩
  have HO2 := Lib.hid hO2
  have HB2 := Lib.hid (HB.out.trans hB2)
  clear hO2 hB2
  go_wp2_with fail
  go_ret
  exact ⟨_, rfl, HO2.out, HB2.out⟩
end Go.Proofs.Ytkclmfppjhmnjaa
