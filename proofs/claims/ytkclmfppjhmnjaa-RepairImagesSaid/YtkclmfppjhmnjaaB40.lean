/- Plain: the joining of a set. -/
/- The contract of the reference's put. -/
import Derived.Test.YtkclmfppjhmnjaaB35
import Derived.Test.YtkclmfppjhmnjaaB36
import Derived.Test.YtkclmfppjhmnjaaB30
import Derived.Test.YtkclmfppjhmnjaaB32
import Derived.Test.YtkclmfppjhmnjaaB33
import Derived.Test.YtkclmfppjhmnjaaB38
import Derived.Deep.RegionHeld3
namespace Go.Proofs.Ytkclmfppjhmnjaa
open Go.RowKit Wire Vol Crc

theorem flatLen {l : List (List Nat)} {n : Nat} (h : Rect n l) : l.flatten.length = l.length * n := by
  induction l with
  | nil => simp
  | cons a l ih =>
    rw [List.flatten_cons, List.length_append, (h a (by simp)).1, ih (fun r hr => h r (by simp [hr])), List.length_cons, Nat.add_mul, Nat.one_mul]
    omega
theorem overTo_rect {n : Nat} {parts out : List (List Nat)} (hB : ∀ i, 1 ≤ plen parts i → (parts.getD i []).length = n ∧ Byt (parts.getD i [])) (hO : Rect n out) (l : List (PI parts)) : Rect n (overTo parts out l) := by
  induction l generalizing out with
  | nil => exact hO
  | cons x l ih =>
    refine ih fun r hr => ?_
    rcases List.mem_or_eq_of_mem_set hr with h | h
    · exact hO r h
    · rw [h]; exact hB _ x.2.2
theorem repRows_rect {parts : List (List Nat)} {data : Int} {n : Nat} (hE : wErr parts data = 0) (hBy : BytM parts) (hn : ∀ i, parts.getD i [] = [] ∨ (parts.getD i []).length = n) : Rect n (repRows parts data) ∧ (repRows parts data).length = parts.length := by
  obtain ⟨hl, hP⟩ := wRows_length hE
  obtain ⟨q1, q2, q3, q4⟩ := parErr_in hP
  obtain ⟨hlo, hmi⟩ := parErr_flags hP
  have hW : wholeErr parts data.toNat = 0 := by unfold wErr at hE; rw [if_pos hP] at hE; exact hE
  have hd : data.toNat ≤ (pidx parts).length := by
    unfold wholeErr at hW
    by_cases h : (pidx parts).length < data.toNat
    · rw [if_pos h] at hW; simp at hW
    · omega
  have e : wRows parts data = wholeM parts data.toNat := by unfold wRows wholeRows; rw [if_pos hP, if_pos hW]
  have hne : pidx parts ≠ [] := by intro h; rw [h] at hd; simp at hd; omega
  obtain ⟨x, hx⟩ : ∃ x, x ∈ piTo parts parts.length := by
    have : piTo parts parts.length ≠ [] := by intro h; apply hne; unfold pidx; rw [h]; rfl
    exact List.exists_mem_of_ne_nil _ this
  have hR := selP_rect (d := data.toNat) hBy hmi (x := x)
  have hsl : (selP parts data.toNat).length = data.toNat := by unfold selP; rw [List.length_map, List.length_take]; omega
  have hsq := selM_sq (d := data.toNat) (by omega) (by omega) q4 hd
  have hiv : invErr (selM parts data.toNat) = 0 := by unfold wholeErr at hW; rw [if_neg (by omega)] at hW; exact hW
  have hi := (hsq.inv hiv).1
  have hR2 : Rect (plen parts x.1) (wholeM parts data.toNat) := prodM_rect (prodM_rect hR (by omega)) (by rw [prodM_length, hi.len]; omega)
  have hall : ∀ i, 1 ≤ plen parts i → (parts.getD i []).length = n := fun i h1 => by
    rcases hn i with h | h
    · unfold plen at h1; rw [h] at h1; simp at h1
    · exact h
  have hx2 : plen parts x.1 = n := hall x.1 x.2.2
  rw [hx2] at hR2
  unfold repRows
  rw [if_pos hE, e]
  refine ⟨overTo_rect (fun i h1 => ⟨hall i h1, ?_⟩) hR2 _, ?_⟩
  · have hi : i < parts.length := by
      by_cases h : i < parts.length
      · exact h
      · unfold plen at h1; rw [List.getD_eq_getElem?_getD, List.getElem?_eq_none (by omega)] at h1; simp at h1
    exact hBy _ (List.mem_of_getElem? (getD_some hi))
  · unfold overM
    rw [overTo_length, ← e, hl]

/-- What joining computes. -/
def jnAll (h : Hd) (P : List (List Nat)) : List Nat := (((repRows P (h.2.2.1 : Nat)).take h.2.2.1).flatten).take h.2.2.2.2
def jnErr (h : Hd) (P : List (List Nat)) : Nat := if repErr P (h.2.2.1 : Nat) ≠ 0 then repErr P (h.2.2.1 : Nat) else if crc 0 (jnAll h P) ≠ h.1 then 10 else 0
def jnB (h : Hd) (P : List (List Nat)) : List Nat := if jnErr h P = 0 then jnAll h P else []
/-- What holds of the head and the parts of a set. -/
structure SetOk (h : Hd) (P : List (List Nat)) : Prop where
  len : P.length = h.2.2.1 + h.2.2.2.1
  d1 : 1 ≤ h.2.2.1
  dr : h.2.2.1 + h.2.2.2.1 ≤ 64
  ln : h.2.2.2.2 ≤ 65536
  crc : h.1 ≤ 4294967295
  rows : ∀ i, P.getD i [] = [] ∨ (P.getD i []).length = szP h.2.2.2.2 h.2.2.1
  byt : BytM P
theorem SetOk.join {h : Hd} {P : List (List Nat)} (k : SetOk h P) (hE : repErr P (h.2.2.1 : Nat) = 0) :
    Rect (szP h.2.2.2.2 h.2.2.1) (repRows P (h.2.2.1 : Nat)) ∧ (repRows P (h.2.2.1 : Nat)).length = P.length ∧ h.2.2.1 ≤ P.length ∧ (((repRows P (h.2.2.1 : Nat)).take h.2.2.1).flatten).length = h.2.2.1 * szP h.2.2.2.2 h.2.2.1 ∧ h.2.2.2.2 ≤ h.2.2.1 * szP h.2.2.2.2 h.2.2.1 ∧ h.2.2.1 * szP h.2.2.2.2 h.2.2.1 ≤ 64 * 65536 ∧ (jnAll h P).length = h.2.2.2.2 ∧ Byt (jnAll h P) := by
  obtain ⟨h1, h2⟩ := repRows_rect hE k.byt k.rows
  have hl := k.len
  have hd := k.d1
  have hdr := k.dr
  have hm := szP_mul h.2.2.2.2 hd
  have hle := szP_le k.ln hd
  have hR : Rect (szP h.2.2.2.2 h.2.2.1) ((repRows P (h.2.2.1 : Nat)).take h.2.2.1) := fun r hr => h1 r (List.mem_of_mem_take hr)
  have hf : (((repRows P (h.2.2.1 : Nat)).take h.2.2.1).flatten).length = h.2.2.1 * szP h.2.2.2.2 h.2.2.1 := by
    rw [flatLen hR, List.length_take, h2, Nat.min_eq_left (by omega)]
  refine ⟨h1, h2, by omega, hf, hm, Nat.mul_le_mul (by omega) hle, ?_, ?_⟩
  · unfold jnAll
    rw [List.length_take, hf]
    omega
  · unfold jnAll
    intro x hx
    obtain ⟨r, hr, hxr⟩ := List.mem_flatten.1 (List.mem_of_mem_take hx)
    exact (hR r hr).2 x hxr
theorem hdP_byt {b : List Nat} (hB : Byt b) : Byt (hdP b) := by
  unfold hdP
  split
  · exact (nmR_byt (opB_byt hB).1 5).1
  · intro x hx; simp at hx
theorem clStep_byt {s : Cs} (h : BytM s.2) {b : List Nat} (hB : Byt b) : BytM (clStep s b).2 := by
  have hset : ∀ (l : List (List Nat)) (i : Nat), BytM l → BytM (l.set i (hdP b)) := fun l i hl r hr => by
    rcases List.mem_or_eq_of_mem_set hr with h | h
    · exact hl r h
    · rw [h]; exact hdP_byt hB
  unfold clStep
  split
  · exact h
  · split
    · refine hset _ _ fun r hr => ?_
      rw [(List.mem_replicate.1 hr).2]
      intro x hx; simp at hx
    · split
      · exact hset _ _ h
      · exact h
theorem clTo_byt {L : List (List Nat)} (hB : BytM L) (k : Nat) : BytM (clTo L k).2 := by
  unfold clTo
  have : ∀ (M : List (List Nat)) (s : Cs), BytM M → BytM s.2 → BytM (M.foldl clStep s).2 := by
    intro M
    induction M with
    | nil => intro s _ h; exact h
    | cons a M ih => intro s hM h; exact ih _ (fun r hr => hM r (by simp [hr])) (clStep_byt h (hM a (by simp)))
  exact this _ _ (fun r hr => hB r (List.mem_of_mem_take hr)) (fun r hr => by simp at hr)
theorem setOk_cl {L : List (List Nat)} (hB : BytM L) (hE : clErr L = 0) : SetOk (clHd L) (clP L) ∧ (clHd L).2.1 = 0 ∧ ∃ i, (clP L).getD i [] ≠ [] := by
  have hn : (clAll L).1 ≠ none := by
    intro h
    unfold clErr at hE
    rw [if_pos h] at hE
    split at hE <;> simp at hE
  obtain ⟨k, hk⟩ : ∃ k, (clAll L).1 = some k := Option.ne_none_iff_exists'.1 hn
  have hH : clHd L = k := by unfold clHd; rw [if_pos hE, hk]; rfl
  obtain ⟨h1, h2, h3, h4, h5, h6, h7, h8⟩ := (clTo_ok L L.length).2 k hk
  rw [hH]
  exact ⟨⟨h2, h3, h4, h5, h6, h8, clTo_byt hB _⟩, h1, h7⟩
end Go.Proofs.Ytkclmfppjhmnjaa

namespace Go.Proofs.Ytkclmfppjhmnjaa
open Go.RowKit Wire Vol Crc

theorem cell_nw {B : Nat} {W W' : World} (k : Below B W W') {p : Addr} {v : Value} (h : W.cell? p = some v) (hp : p.block < B) : W'.cell? p = some v := (k.cell hp).trans h
theorem bs_drew {w : World} {v : Value} {l : List Nat} (h : Bs w v l) : Bs w.drew v l := h
theorem bs_nil (w : World) : Bs w (.slice none 0 0) [] := ⟨none, 0, rfl, Nat.le_refl _, Or.inl rfl⟩

set_option maxRecDepth 100000 in
set_option maxHeartbeats 4000000 in
theorem r5put_any (h : Hd) (v : Value) (p : List Nat) (w : World) (hs : hdSmall h) (hv : Bs w v p) (hB : Byt p) (hl : p.length ≤ 10000000) : Calls Try.prog 58 #[hdV h, v] w (BytesRet (putB h p) w) := by
  have hX := Lib.hid (show putB h p = seal4 (hdB h ++ p) from rfl)
  have hby := Lib.hid (show Byt (hdB h ++ p) from fun x hx => (List.mem_append.1 hx).elim (hdB_byt hs x) (hB x))
  have hb40 := hdB_le hs
  obtain ⟨a, b, c, d, e⟩ := h
  have s0 : a < 9007199254740992 := hs a (by simp [hdN])
  have s1 : b < 9007199254740992 := hs b (by simp [hdN])
  have s2 : c < 9007199254740992 := hs c (by simp [hdN])
  have s3 : d < 9007199254740992 := hs d (by simp [hdN])
  have s4 : e < 9007199254740992 := hs e (by simp [hdN])
  have k0 := Lib.hid (r2PutInt_any (.slice none 0 0) [] (a : Nat) · (bs_nil _) (by decide))
  have L0 : (enc a).length ≤ 8 := by rw [enc_length]; have := fur_lt8 s0; omega
  have L1 : (enc b).length ≤ 8 := by rw [enc_length]; have := fur_lt8 s1; omega
  have L2 : (enc c).length ≤ 8 := by rw [enc_length]; have := fur_lt8 s2; omega
  have L3 : (enc d).length ≤ 8 := by rw [enc_length]; have := fur_lt8 s3; omega
  have N0 := Lib.hid (num_of s0)
  have N1 := Lib.hid (num_of s1)
  have N2 := Lib.hid (num_of s2)
  have N3 := Lib.hid (num_of s3)
  have N4 := Lib.hid (num_of s4)
  have K1 := Lib.hid (show ([] ++ enc a).length ≤ 100000000 by simp; omega)
  have K2 := Lib.hid (show ([] ++ enc a ++ enc b).length ≤ 100000000 by simp; omega)
  have K3 := Lib.hid (show ([] ++ enc a ++ enc b ++ enc c).length ≤ 100000000 by simp; omega)
  have K4 := Lib.hid (show ([] ++ enc a ++ enc b ++ enc c ++ enc d).length ≤ 100000000 by simp; omega)
  have KX := Lib.hid (show [] ++ enc a ++ enc b ++ enc c ++ enc d ++ enc e = hdB (a, b, c, d, e) by unfold hdB; simp)
  have hBa := (Below.refl w.heap.size w).alloc (Nat.le_refl _) (.cells #[.int .u32 a, .int .i64 b, .int .i64 c, .int .i64 d, .int .i64 e] 54)
  have hNb := Blk.new w 54 #[.int .u32 a, .int .i64 b, .int .i64 c, .int .i64 d, .int .i64 e]
  have c0 := hNb.cell (i := 0) rfl
  have c1 := hNb.cell (i := 1) rfl
  have c2 := hNb.cell (i := 2) rfl
  have c3 := hNb.cell (i := 3) rfl
  have c4 := hNb.cell (i := 4) rfl
  have hz : w.heap.size < (w.alloc (.cells #[.int .u32 a, .int .i64 b, .int .i64 c, .int .i64 d, .int .i64 e] 54)).heap.size := by simp
  have HB0 := Lib.hid hBa
  have HV := Lib.hid (hv.new hBa)
  clear hNb hBa hv hs hB L0 L1 L2 L3 k0
  have EW := Lib.hid (show IntKind.i64.wrap (a : Int) = (a : Int) from IntWalk.i64_in _ (by omega))
  unfold hdV hdL
  go_enter Try.func58, Try.ntmps58
  go_wp2_with fail
  generalize w.alloc (.cells #[.int .u32 a, .int .i64 b, .int .i64 c, .int .i64 d, .int .i64 e] 54) = W0 at *
  go_region_held3 (fun w' => w'.cell? ⟨w.heap.size, 0, none⟩ = some (.int .u32 (a : Nat)) ∧ w'.cell? ⟨w.heap.size, 1, none⟩ = some (.int .i64 (b : Nat)) ∧ w'.cell? ⟨w.heap.size, 2, none⟩ = some (.int .i64 (c : Nat)))
    (first
      | exact ⟨cell_nw HB3.out c0 hz, cell_nw HB3.out c1 hz, cell_nw HB3.out c2 hz⟩
      | exact ⟨cell_nw HB2.out c0 hz, cell_nw HB2.out c1 hz, cell_nw HB2.out c2 hz⟩
      | exact ⟨cell_nw HB1.out c0 hz, cell_nw HB1.out c1 hz, cell_nw HB1.out c2 hz⟩
      | exact ⟨c0, c1, c2⟩)
    (first
      | (go_at_call 45
         with_reducible refine (r2PutInt_any v2 ([] ++ enc a ++ enc b) (c : Nat) _ HS2.out K2.out).mono ?_
         rintro e w3 ⟨v3, rfl, hO3, hB3⟩
         rw [N2.out] at hO3
         have HS3 := Lib.hid hO3.bs
         have HB3 := Lib.hid (HB2.out.trans (hB3.mono HB2.out.size))
         clear hO3 hB3)
      | (go_at_call 45
         with_reducible refine (r2PutInt_any v1 ([] ++ enc a) (b : Nat) _ HS1.out K1.out).mono ?_
         rintro e w2 ⟨v2, rfl, hO2, hB2⟩
         rw [N1.out] at hO2
         have HS2 := Lib.hid hO2.bs
         have HB2 := Lib.hid (HB1.out.trans (hB2.mono HB1.out.size))
         clear hO2 hB2)
      | (go_at_call 45
         rw [EW.out]
         with_reducible refine (r2PutInt_any (.slice none 0 0) [] (a : Nat) _ (bs_nil _) (by decide)).mono ?_
         rintro e w1 ⟨v1, rfl, hO1, hB1⟩
         rw [N0.out] at hO1
         have HS1 := Lib.hid hO1.bs
         have HB1 := Lib.hid (((Below.refl W0.heap.size W0).drew).trans hB1)
         clear hO1 hB1))
  have d3 := cell_nw HB3.out c3 hz
  have d4 := cell_nw HB3.out c4 hz
  have hz3 : w.heap.size < w3.heap.size := Nat.lt_of_lt_of_le hz HB3.out.size
  have HV3 := Lib.hid (HV.out.new HB3.out)
  have HW3 := Lib.hid (HB0.out.trans (HB3.out.mono HB0.out.size))
  clear c0 c1 c2 c3 c4 hz HB1 HB2 HS1 HS2
  go_wp2_with fail
  go_region_held3 (fun w' => w'.cell? ⟨w.heap.size, 3, none⟩ = some (.int .i64 (d : Nat)) ∧ w'.cell? ⟨w.heap.size, 4, none⟩ = some (.int .i64 (e : Nat)))
    (first
      | exact ⟨cell_nw HB5.out d3 hz3, cell_nw HB5.out d4 hz3⟩
      | exact ⟨cell_nw HB4.out d3 hz3, cell_nw HB4.out d4 hz3⟩
      | exact ⟨d3, d4⟩)
    (first
      | (go_at_call 45
         with_reducible refine (r2PutInt_any v4 ([] ++ enc a ++ enc b ++ enc c ++ enc d) (e : Nat) _ HS4.out K4.out).mono ?_
         rintro e w5 ⟨v5, rfl, hO5, hB5⟩
         rw [N4.out] at hO5
         have HS5 := Lib.hid hO5
         have HB5 := Lib.hid (HB4.out.trans (hB5.mono HB4.out.size))
         clear hO5 hB5)
      | (go_at_call 45
         with_reducible refine (r2PutInt_any v3 ([] ++ enc a ++ enc b ++ enc c) (d : Nat) _ (bs_drew HS3.out) K3.out).mono ?_
         rintro e w4 ⟨v4, rfl, hO4, hB4⟩
         rw [N3.out] at hO4
         have HS4 := Lib.hid hO4.bs
         have HB4 := Lib.hid (((Below.refl w3.heap.size w3).drew).trans hB4)
         have HZ4 := Lib.hid (show w3.heap.size ≤ w4.heap.size from hB4.size)
         clear hO4 hB4))
  have hO5 := HS5.out
  rw [KX.out] at hO5
  have HW5 := Lib.hid (HW3.out.trans (HB5.out.mono HW3.out.size))
  have HV5 := Lib.hid (HV3.out.new HB5.out)
  have hz5 := HW5.out.size
  have HO5 := Lib.hid (hO5.base (B' := w.heap.size) (Nat.le_trans HW3.out.size HZ4.out))
  generalize hdB (a, b, c, d, e) = hb at *
  clear hO5 d3 d4 HS3 HS4 HS5 HB4 HB5 HB3 HZ4
  go_wp2_with (at_builtin; refine wpList_append_bs rfl (.tmp 23) (.tmp 24) rfl w.heap.size _ _ hb p rfl rfl HO5.out HV5.out (by omega) hz5 ?_)
  intro v6 w6 hO6 hg6
  have HB6 := Lib.hid (bo_below HW5.out hg6 hz5 HO5.out (Nat.le_refl _))
  have HO6 := Lib.hid hO6
  have hz6 := HB6.out.size
  clear hO6 hg6
  go_wp2_with fail
  refine (r3Seal_any v6 (hb ++ p) _ HO6.out.bs hby.out (by rw [List.length_append]; omega)).mono ?_
  rintro e w7 ⟨v7, rfl, hO7, hB7⟩
  have HO7 := Lib.hid (hO7.base hz6)
  have HB7 := Lib.hid (HB6.out.trans (hB7.mono hz6))
  clear hO7 hB7
  go_wp2_with fail
  go_ret
  exact ⟨_, rfl, by rw [hX.out]; exact HO7.out, HB7.out⟩
end Go.Proofs.Ytkclmfppjhmnjaa
