/- Appends of headers onto headers of the call's own; slices.Grow and slices.Concat at slices of bytes. -/
/- The contract of volume.cut. -/
import Derived.Test.YtkclmfppjhmnjaaB07
import Derived.Test.YtkclmfppjhmnjaaB32
import Derived.Lib.AppendZeros
import Derived.Deep.LoopGhost
import Derived.Test.YtkclmfppjhmnjaaB30
import Derived.Laws.CopyOwn
namespace Go.Proofs.Ytkclmfppjhmnjaa
open Go.RowKit

theorem cell_new' {W W' : World} (k : Below W.heap.size W W') {p : Addr} {v : Value} (h : W.cell? p = some v) : W'.cell? p = some v := (k.cell (World.block_lt_of_cell? W p h)).trans h
/-- A slice of headers reads as xs. -/
def HdR (w : World) (v : Value) (xs : List Value) : Prop := ∃ a c, v = .slice a xs.length c ∧ xs.length ≤ c ∧ (xs = [] ∨ ∃ b o, a = some ⟨b, o, none⟩ ∧ ValsAt w b o xs) ∧ ∀ u ∈ xs, u.oneCell' = true
theorem ValsAt.new {w w' : World} {b o : Nat} {xs : List Value} (h : ValsAt w b o xs) (k : Below w.heap.size w w') : ValsAt w' b o xs := fun i v hv => by
  have := h i v hv
  exact (k.cell (p := ⟨b, o + i, none⟩) (World.block_lt_of_cell? w _ this)).trans this
theorem HdR.new {w w' : World} {v : Value} {xs : List Value} (h : HdR w v xs) (k : Below w.heap.size w w') : HdR w' v xs := by
  obtain ⟨a, c, hv, hc, hr, h1⟩ := h
  exact ⟨a, c, hv, hc, hr.imp id fun ⟨b, o, ha, hx⟩ => ⟨b, o, ha, hx.new k⟩, h1⟩
theorem HdR.of_own {w : World} {B : Nat} {v : Value} {xs : List Value} {n : Nat} (h : w.ownsRow B 26 1 v n xs) (hn : n = xs.length) (h1 : ∀ u ∈ xs, u.oneCell' = true) : HdR w v xs := by
  subst hn
  have h' := h
  rcases h.2 with ⟨rfl, h0⟩ | ⟨g, cap, cur, rfl, hb, hg, hn, hc, hs, ht⟩
  · exact ⟨none, 0, by rw [h0], by omega, Or.inl (List.eq_nil_of_length_eq_zero h0), h1⟩
  · refine ⟨some ⟨g, 0, none⟩, cap, rfl, hn, Or.inr ⟨g, 0, rfl, fun i v hv => ?_⟩, h1⟩
    rw [Nat.zero_add]; exact (Blk.of_owns h').cell hv
theorem HdR.of_mx {w : World} {v : Value} {m : List (List Nat)} (h : Mx w v m) : ∃ vs, HdR w v vs ∧ HdsOk w vs m := by
  obtain ⟨a, cap, rfl, hc, hr⟩ := h
  rcases hr with h | ⟨b, o, A, C, rfl, hM⟩
  · subst h
    exact ⟨[], ⟨a, cap, rfl, Nat.zero_le _, Or.inl rfl, fun u hu => by (cases hu)⟩, HdsOk.nil w⟩
  · refine ⟨mvs m A C, ⟨_, cap, by rw [mvs_length], by rw [mvs_length]; exact hc, Or.inr ⟨b, o, rfl, fun i v hv => ?_⟩, hM.hds.oneCell⟩, hM.hds⟩
    obtain ⟨hi, rfl⟩ := mvs_get hv
    exact (hM i _ (getD_some (d := []) hi)).1

theorem run_append_hs (w : World) (base : Nat) (ty : TypeId) (v x : Value) (n : Nat) (xs ys : List Value) (hO : w.ownsRow base 26 1 v n xs) (hx : HdR w x ys) (hn : n + ys.length ≤ 1000000000) (hbase : base ≤ w.heap.size) :
    ∃ v' w', (Builtin.append_ #[44, 44] ty #[v, x]).run Try.prog w = .ok v' w' ∧ w'.ownsRow base 26 1 v' (n + ys.length) (xs ++ ys) ∧ w.grownBy w' v.ownBlock := by
  obtain ⟨i0, hi, hz0, hz1, hz2⟩ := info_parts infoBytes
  obtain ⟨a, cap, rfl, hcap, hr, h1⟩ := hx
  cases a with
  | none =>
    have h0 : ys = [] := by
      rcases hr with h | ⟨b, o, ha, _⟩
      · exact h
      · cases ha
    subst h0
    refine ⟨v, w, ?_, by simpa using hO, World.grownBy.refl w _⟩
    rcases hO.2 with ⟨rfl, h0⟩ | ⟨g, cap', cur, rfl, _, _, hnc, _⟩
    · subst h0
      simp [Builtin.append_, run_underlying Try.underlying44, sizeOf, typeInfo, hi, Builtin.lenOf, Builtin.firstCells]
    · simp [Builtin.append_, run_underlying Try.underlying44, sizeOf, typeInfo, hi, Builtin.lenOf, Builtin.firstCells, hnc, storeCells]
  | some ad =>
    have hcells : ∀ j u, ys[j]? = some u → w.cell? (ad.add j) = some u := by
      rcases hr with h | ⟨b, o, ha, hrow⟩
      · subst h; intro j u hu; simp at hu
      · simp only [Option.some.injEq] at ha
        subst ha
        intro j u hu
        rw [Addr.add_mid]
        exact hrow j u hu
    obtain ⟨v', w', hrun, h2, h3, _, _⟩ := run_append_own_at (P := Try.prog) w base 44 ty 26 i0 (.slice none 0 0) 1 24 Try.underlying44 hi hz0 hz1 hz2 rfl (by decide) v n xs hO ad ys.length cap ys (by simp) hcells h1 (by unfold maxLen; omega) (by omega) hbase
    exact ⟨v', w', hrun, h2, h3⟩
theorem wpList_append_hs {w : World} {ops : Array Oper} {rest : List Oper} {o : Oper} {a : Act} {Q : Exit → Act → World → Prop} (hgd : o.guard = none) (s x : Operand) (ho : o.op = .call { callee := .builtin .append, args := #[s, x], argTypes := #[44, 44] })
    (base : Nat) (v vx : Value) (n : Nat) (xs ys : List Value) (hs : a.eval s = v) (hx : a.eval x = vx) (hO : w.ownsRow base 26 1 v n xs) (hr : HdR w vx ys) (hn : n + ys.length ≤ 1000000000) (hbase : base ≤ w.heap.size)
    (h : ∀ v' w', w'.ownsRow base 26 1 v' (n + ys.length) (xs ++ ys) → w.grownBy w' v.ownBlock → wpList Try.prog ops Q rest (a.put o.dst v') w') : wpList Try.prog ops Q (o :: rest) a w :=
  wpList_plain hgd fun K hK => by
    obtain ⟨v', w', hrun, h2, h3⟩ := run_append_hs w base o.type v vx n xs ys hO hr hn hbase
    unfold Oper.wp execOp
    simp only [ho, resolve, invoke, builtin, Sem.run_bind, Sem.run_pure, Result.andThen_ok, List.map_toArray, List.map_cons, List.map_nil, hs, hx, hrun]
    exact hK _ _ (h v' w' h2 h3)
theorem hs_below {w0 w w' : World} {B base n : Nat} {v : Value} {xs : List Value} (hB : Below B w0 w) (hg : w.grownBy w' v.ownBlock) (hs : B ≤ w.heap.size) (hO : w.ownsRow base 26 1 v n xs) (hb : B ≤ base) : Below B w0 w' :=
  hB.grown hg hs fun _ hq => Nat.le_trans hb (owns_block hO hq).2.1
/-- Headers just laid. -/
theorem hs_new (w : World) (xs : List Value) (h1 : ∀ u ∈ xs, u.oneCell' = true) : HdR (w.alloc (.cells xs.toArray 26)) (.slice (some ⟨w.heap.size, 0, none⟩) xs.length xs.length) xs :=
  ⟨_, _, rfl, Nat.le_refl _, Or.inr ⟨w.heap.size, 0, rfl, fun i v hv => by rw [Nat.zero_add]; exact (Blk.new w 26 xs.toArray).cell hv⟩, h1⟩

set_option maxRecDepth 100000 in
set_option maxHeartbeats 400000 in
theorem GrowM_nil (n : Nat) (w : World) (hn : n ≤ 1000000000) :
    Calls Try.prog 61 #[.slice none 0 0, .int .i64 n] w fun e w' => ∃ v, e = .returned v ∧ w'.ownsRow w.heap.size 26 1 v 0 [] ∧ Below w.heap.size w w' := by
  by_cases h0 : n = 0
  · subst h0
    go_enter Try.func61, Try.ntmps61
    go_wp2
    go_ret
    exact ⟨.slice none 0 0, rfl, World.ownsRow_nil _ _ _ _, Below.refl _ _⟩
  obtain ⟨i0, hi, hz0, hz1, hz2⟩ := info_parts infoBytes
  have hgc := grownCap_ge w n 0 26
  have hgm := grownCap_le_maxLen w n 0 26 (by unfold maxLen; omega)
  have hr := Lib.run_append_nil_zeros (P := Try.prog) w 44 3 44 26 i0 (.slice none 0 0) .i64 .i64 Try.underlying44 Try.underlying3 hi hz0 n (by omega) (by omega) (by omega) (by rw [hz2]; omega)
  generalize grownCap w n 0 26 = gc at *
  have Hr := Lib.hid hr
  have Hgm := Lib.hid hgm
  clear hr hz0 hz1 hz2 hi hgm
  go_enter Try.func61, Try.ntmps61
  go_wp2_with (refine Lib.wpList_append_run _ rfl _ _ 44 3 rfl (.slice none 0 0) (.int .i64 n) rfl rfl _ _ Hr.out ?_)
  go_ret
  refine ⟨_, rfl, ?_, ((Below.refl _ _).drew).alloc (Nat.le_refl _) _⟩
  refine World.ownsRow_made (base := w.heap.size) w.drew _ gc (Nat.le_refl _) Hgm.out ?_
  simp [size_zeroCells]
  omega

/-- The first k lists, one behind the other. -/
def catV (m : List (List Value)) (k : Nat) : List Value := (m.take k).flatten
theorem catV_succ {m : List (List Value)} {k : Nat} {r : List Value} (h : m[k]? = some r) : catV m (k + 1) = catV m k ++ r := by
  unfold catV
  rw [List.take_add_one, h]; simp
theorem catV_all {m : List (List Value)} {k : Nat} (h : m.length ≤ k) : catV m k = m.flatten := by
  unfold catV; rw [List.take_of_length_le h]
theorem catV_le (m : List (List Value)) (k : Nat) : (catV m k).length ≤ m.flatten.length := by
  have : m.flatten = (m.take k).flatten ++ (m.drop k).flatten := by rw [← List.flatten_append, List.take_append_drop]
  rw [this, List.length_append]; unfold catV; omega

set_option maxRecDepth 100000 in
set_option maxHeartbeats 1000000 in
theorem ConcatM_any (b o cap : Nat) (m : List (List Value)) (V : Nat → Value) (w : World) (hN : m.length ≤ 1000000) (hF : m.flatten.length ≤ 1000000) (hc : Hid (∀ i r, m[i]? = some r → w.cell? ⟨b, o + i, none⟩ = some (V i) ∧ HdR w (V i) r)) :
    Calls Try.prog 31 #[.slice (some ⟨b, o, none⟩) m.length cap] w fun e w' => ∃ v, e = .returned v ∧ w'.ownsRow w.heap.size 26 1 v m.flatten.length m.flatten ∧ Below w.heap.size w w' := by
  go_enter Try.func31, Try.ntmps31
  go_wp2_with fail
  go_loopg [3, 11] m.length (fun gk s i wr => ∃ k : Nat, k + gk = m.length ∧ i = .int .i64 k ∧ s = .int .i64 (catV m k).length ∧ w = wr)
  case atStart => exact ⟨0, by omega, rfl, rfl, rfl⟩
  case round =>
    obtain ⟨k, hgk, rfl, rfl, rfl⟩ := hrel
    have Hgk := Lib.hid hgk
    have hk : k ≤ m.length := by omega
    clear hgk
    by_cases hlt : k < m.length
    · have hmk : m[k]? = some (m.getD k []) := getD_some hlt
      obtain ⟨hcell, a, cc, hVk, _⟩ := hc.out k _ hmk
      rw [hVk] at hcell
      have hfl := Lib.hid (congrArg List.length (catV_succ hmk))
      have hb1 := catV_le m k
      have hb2 := catV_le m (k + 1)
      rw [hfl.out, List.length_append] at hb2
      generalize m.getD k [] = r at *
      generalize hL : (catV m k).length = L at *
      clear hmk hVk
      go_wp2_with fail
      go_roundg (m.length - k - 1)
      case measure => have := Hgk.out; omega
      case rel =>
        have := Hgk.out
        refine ⟨k + 1, by omega, by go_num, ?_, rfl⟩
        rw [hfl.out, List.length_append, hL]; go_num
    · have hkm := catV_le m k
      go_wp2_with fail
      refine (GrowM_nil _ _ (by omega)).mono ?_
      rintro e w1 ⟨v, rfl, hown, hB1⟩
      have Hown := Lib.hid hown
      have HB1 := Lib.hid hB1
      clear hown hB1
      obtain ⟨w0, rfl⟩ : ∃ w0 : World, w0 = w := ⟨_, rfl⟩
      go_wp2_with fail
      go_loopg [6, 27] m.length (fun gk v i wr => ∃ (k : Nat) (vy : Value), k + gk = m.length ∧ i = .int .i64 k ∧ vy = v ∧ Hid (wr.ownsRow w0.heap.size 26 1 vy (catV m k).length (catV m k)) ∧ Hid (Below w0.heap.size w0 wr))
      case atStart => exact ⟨0, v, by omega, rfl, rfl, Hown.out, HB1.out⟩
      case round =>
        obtain ⟨j, vx, hgj, rfl, rfl, hO, hB⟩ := hrel
        have Hgj := Lib.hid hgj
        have hj : j ≤ m.length := by omega
        clear hgj Hown HB1
        by_cases hlt2 : j < m.length
        · have hmj : m[j]? = some (m.getD j []) := getD_some hlt2
          obtain ⟨hcell0, hR⟩ := hc.out j _ hmj
          have hcell := cell_new' hB.out hcell0
          have HR := Lib.hid (hR.new hB.out)
          obtain ⟨aa, cc, hVj, _⟩ := hR
          have hfl := Lib.hid (catV_succ hmj)
          have hb2 := catV_le m (j + 1)
          rw [hfl.out, List.length_append] at hb2
          generalize m.getD j [] = r at *
          generalize V j = Vj at *
          subst hVj
          have hsz := hB.out.size
          have HB := Lib.hid hB.out
          have HO := Lib.hid hO.out
          clear hmj hcell0 hO hB
          go_wp2_with (at_builtin; refine wpList_append_hs rfl (.tmp 31) (.tmp 32) rfl w0.heap.size _ _ _ _ r rfl rfl HO.out HR.out (by omega) hsz ?_)
          intro v' w' h1 h2
          have H1 := Lib.hid (show w'.ownsRow w0.heap.size 26 1 v' (catV m (j + 1)).length (catV m (j + 1)) by rw [hfl.out, List.length_append]; exact h1)
          have H2 := Lib.hid (hs_below HB.out h2 hsz HO.out (Nat.le_refl _))
          clear h1 h2
          go_wp2_with fail
          go_roundg (m.length - j - 1)
          case measure => have := Hgj.out; omega
          case rel => exact ⟨j + 1, v', by have := Hgj.out; omega, by go_num, rfl, H1.out, H2.out⟩
        · have hO2 := hO.out
          rw [catV_all (by omega)] at hO2
          have HO2 := Lib.hid hO2
          clear hO hO2
          go_wp2_with fail
          go_ret
          exact ⟨_, rfl, HO2.out, hB.out⟩
end Go.Proofs.Ytkclmfppjhmnjaa

namespace Go.Proofs.Ytkclmfppjhmnjaa
open Go.RowKit Wire Vol

theorem wpList_copy_bs {w : World} {ops : Array Oper} {rest : List Oper} {o : Oper} {a : Act} {Q : Exit → Act → World → Prop} (hgd : o.guard = none) (d s : Operand) (ho : o.op = .call { callee := .builtin .copy, args := #[d, s], argTypes := #[26, 26] })
    (g n cap : Nat) (vx : Value) (r : List Nat) (xs : List Value) (hd : a.eval d = .slice (some ⟨g, 0, none⟩) n cap) (hs : a.eval s = vx) (hb : Blk w g 5 xs) (hx : xs.length = n) (hr : Bs w vx r) (hl : r.length ≤ n)
    (h : ∀ w', Blk w' g 5 (r.map bv ++ xs.drop r.length) → (∀ B W, Below B W w → B ≤ g → Below B W w') → w'.heap.size = w.heap.size → wpList Try.prog ops Q rest (a.put o.dst (goInt r.length)) w') : wpList Try.prog ops Q (o :: rest) a w := by
  obtain ⟨aa, cc, rfl, hc, hr⟩ := hr
  cases aa with
  | none =>
    have h0 : r = [] := by
      rcases hr with h | ⟨b, o, ha, _⟩
      · exact h
      · cases ha
    subst h0
    exact wpList_copy_nothing hgd d s 26 26 ho 5 Try.underlying26 sizeByte _ none _ _ _ _ hd hs (Nat.zero_min _) (h w (by simpa using hb) (fun _ _ h _ => h) rfl)
  | some ad =>
    refine wpList_plain hgd fun K hK => ?_
    have hsrc : ∀ j v, (r.map bv)[j]? = some v → w.cell? (ad.add j) = some v := by
      rcases hr with h | ⟨b, o, ha, hrow⟩
      · subst h; intro j u hu; simp at hu
      · simp only [Option.some.injEq] at ha
        subst ha
        exact hrow.src (Below.refl _ _)
    have ht := hb.there (o := 0) (n := (r.map bv).length) (by rw [List.length_map]; omega)
    have hrun := run_copy_cells (P := Try.prog) w 26 26 o.type 5 g 0 n cap ad r.length cc (r.map bv) Try.underlying26 sizeByte (by rw [List.length_map]; exact (Nat.min_eq_left hl).symm) hsrc (fun j hj => (ht j hj).1) (fun j hj => (ht j hj).2) (by intro u hu; obtain ⟨x, _, rfl⟩ := List.mem_map.1 hu; rfl)
    have hcells := hb.setCells (o := 0) (vs := r.map bv) (by rw [List.length_map]; omega)
    unfold spl at hcells
    rw [List.take_zero, List.nil_append, Nat.zero_add, List.length_map] at hcells
    rw [List.length_map] at hrun
    unfold Oper.wp
    simp [execOp, ho, resolve, invoke, builtin, hd, hs, hrun, Result.andThen]
    exact hK _ _ (h _ hcells (fun B W hB hg => below_setCells hB hg 0 _) (size_setCells _ _ _ _))

theorem owns_mono {w : World} {B B' T n : Nat} {v : Value} {xs : List Value} (h : w.ownsRow B' T 1 v n xs) (hB : B ≤ B') : w.ownsRow B T 1 v n xs := by
  refine ⟨h.1, ?_⟩
  rcases h.2 with hn | ⟨g, cap, cur, hv, hb, rest⟩
  · exact .inl hn
  · exact .inr ⟨g, cap, cur, hv, by omega, rest⟩
/-- Bytes, filled up with zeros. -/
def padB (b : List Nat) (n : Nat) : List Nat := b ++ List.replicate (n - b.length) 0
theorem padB_length {b : List Nat} {n : Nat} (h : b.length ≤ n) : (padB b n).length = n := by unfold padB; rw [List.length_append, List.length_replicate]; omega
theorem padB_byt {b : List Nat} {n : Nat} (h : Byt b) : Byt (padB b n) := by
  intro x hx
  unfold padB at hx
  rcases List.mem_append.1 hx with h1 | h1
  · exact h x h1
  · rw [(List.mem_replicate.1 h1).2]; decide
theorem padB_cells (b : List Nat) (n : Nat) : b.map bv ++ (zs n).toList.drop b.length = (padB b n).map bv := by
  rw [zs_map, ← List.map_drop, List.drop_replicate, ← List.map_append]; rfl

set_option maxRecDepth 100000 in
set_option maxHeartbeats 2000000 in
theorem vcut_any (v : Value) (b : List Nat) (d s : Nat) (w : World) (hb : Bs w v b) (hd : d ≤ 64) (hs1 : 1 ≤ s) (hs : s ≤ 1000000) (hl : b.length ≤ d * s) :
    Calls Try.prog 54 #[v, .int .i64 d, .int .i64 s] w (VmRet (ptM (padB b (d * s)) s d) w) := by
  have hns : d * s ≤ 64 * 1000000 := Nat.mul_le_mul hd hs
  have HKS := Lib.hid (show ∀ k, k < d → k * s + s ≤ d * s from fun k hk => by have := Nat.mul_le_mul_right s (show k + 1 ≤ d by omega); rw [Nat.add_mul, Nat.one_mul] at this; exact this)
  have HPL := Lib.hid (padB_length hl)
  have e1 : IntKind.i64.wrap ((d : Int) * (s : Int)) = ((d * s : Nat) : Int) := by rw [← Int.natCast_mul]; exact IntWalk.i64_in _ (by omega)
  have Hq := Lib.hid (show ∀ k, k < d → IntKind.i64.wrap ((k : Int) * (s : Int)) = ((k * s : Nat) : Int) from fun k hk => by rw [← Int.natCast_mul]; exact IntWalk.i64_in _ (by have := HKS.out k hk; omega))
  obtain ⟨n, hn⟩ : ∃ n, d * s = n := ⟨_, rfl⟩
  rw [hn] at hns HKS HPL e1 hl ⊢
  have mk := fun w => mkBytes n (by omega) w
  have hb1 := Blk.new w 5 (zs n)
  have hB1 := (Below.refl w.heap.size w).alloc (Nat.le_refl _) (.cells (zs n) 5)
  have Hb1 := Lib.hid hb1
  have HB1 := Lib.hid hB1
  have HV := Lib.hid (hb.new hB1)
  have Hzl := Lib.hid (show (zs n).toList.length = n by rw [zs_map, List.length_map, List.length_replicate])
  have Hlb := Lib.hid hl
  have Hs1 := Lib.hid hs1
  clear hb hb1 hB1 hn hl
  go_enter Try.func54, Try.ntmps54
  go_wp2_with ((with_reducible show wpList _ _ _ (Oper.mk _ (Op.call _) _ _ _ _ :: _) _ _); refine wpList_copy_bs rfl (.tmp 15) (.tmp 16) rfl w.heap.size n n _ b (zs n).toList rfl rfl Hb1.out Hzl.out HV.out Hlb.out ?_)
  intro W1 hA hK hz
  rw [padB_cells] at hA
  have HA := Lib.hid hA
  have HBW := Lib.hid (hK _ _ HB1.out (Nat.le_refl _))
  obtain ⟨A, hAd⟩ : ∃ A, padB b n = A := ⟨_, rfl⟩
  rw [hAd] at HA HPL
  have HAd := Lib.hid hAd
  have hwz := HBW.out.size
  clear hA hK hAd e1 mk hz
  go_wp2_with fail
  go_loopg [8, 19] d (fun gk vx i wr => ∃ (k : Nat) (vy : Value), k + gk = d ∧ i = .int .i64 k ∧ vy = vx ∧ Hid (∃ vs, wr.ownsRow W1.heap.size 26 1 vy k vs ∧ HdsOk W1 vs (ptM A s k)) ∧ Hid (Below W1.heap.size W1 wr))
  case atStart => exact ⟨0, _, by omega, rfl, rfl, ⟨[], World.ownsRow_nil _ _ _ 1, HdsOk.nil _⟩, Below.refl _ _⟩
  case round =>
    obtain ⟨k, vx, hgk, rfl, rfl, hV, hB⟩ := hrel
    have Hgk := Lib.hid hgk
    have hk : k ≤ d := by omega
    have hzr := hB.out.size
    clear hgk
    obtain ⟨vs, hVo, hVh⟩ := hV.out
    have HVo := Lib.hid hVo
    have HVh := Lib.hid hVh
    clear hVo hVh hV
    by_cases hlt : k < d
    · have e2 := Hq.out k hlt
      have h3 := HKS.out k hlt
      have Hps := Lib.hid (ptM_succ A s k)
      obtain ⟨q, hq⟩ : ∃ q, k * s = q := ⟨_, rfl⟩
      rw [hq] at e2 h3 Hps
      have Hrow := Lib.hid (show RowAt W1 w.heap.size q ((A.drop q).take s) from by have := (HA.out.row.drop q).take s; rwa [Nat.zero_add] at this)
      have Hrl := Lib.hid (show ((A.drop q).take s).length = s by rw [List.length_take, List.length_drop, HPL.out]; omega)
      have Hnew := Lib.hid (hs_new wr [.slice (some ⟨w.heap.size, q, none⟩) s s] (by intro u hu; simp only [List.mem_cons, List.not_mem_nil, or_false] at hu; subst hu; rfl))
      clear hq
      go_wp2_with (at_builtin; refine wpList_append_hs rfl (.tmp 25) (.tmp 35) rfl W1.heap.size _ _ _ _ [.slice (some ⟨w.heap.size, q, none⟩) s s] rfl rfl (owns_kept HVo.out (Kept.of_new (al _ _)) (S := fun _ => False) (fun _ _ => id)) Hnew.out (by simp; omega) (by simp; omega) ?_)
      intro v5 w5 hown hgr
      have HB5 := Lib.hid (hs_below (hB.out.trans ((al wr (.cells #[.slice (some ⟨w.heap.size, q, none⟩) s s] 26)).mono hzr)) hgr (by simp; omega) (World.ownsRow.alloc HVo.out _) (Nat.le_refl _))
      have HV5 := Lib.hid (show ∃ vs, w5.ownsRow W1.heap.size 26 1 v5 (k + 1) vs ∧ HdsOk W1 vs (ptM A s (k + 1)) by
        refine ⟨_, hown, ?_⟩
        rw [Hps.out]
        exact HVh.out.append (HdsOk.one ⟨some ⟨w.heap.size, q, none⟩, s, by rw [Hrl.out], by rw [Hrl.out]; omega, Or.inr ⟨w.heap.size, q, rfl, Hrow.out⟩, by simp⟩))
      clear hown hgr
      go_wp2_with fail
      go_roundg (d - k - 1)
      case measure => have := Hgk.out; omega
      case rel => exact ⟨k + 1, v5, by have := Hgk.out; omega, by go_num, rfl, HV5.out, HB5.out⟩
    · obtain rfl : k = d := by omega
      go_wp2_with fail
      go_ret
      exact ⟨_, vs, rfl, ⟨by rw [ptM_length]; exact owns_mono HVo.out hwz, by rw [HAd.out]; exact HVh.out.new hB.out⟩, HBW.out.trans (hB.out.mono hwz)⟩
end Go.Proofs.Ytkclmfppjhmnjaa
