/- maps.Keys and slices.Collect at a map's keys, whatever order is drawn (printed by wip/lib/keys.py). -/
import Derived.Shelf.Sort.Plain
import Derived.Test.YtpeoholnlokdcaaZ5

set_option linter.unusedSimpArgs false
set_option linter.unusedVariables false

namespace Go.Proofs.Ytpeoholnlokdcaa
open Go
set_option linter.unusedSimpArgs false
set_option linter.unusedVariables false

abbrev kencL (x : Int) : List Value := [.int .i64 x]
abbrev kvalL (x : Int) : Value := (.int .i64 x)

section
variable {β : Type} {venc : β → Value}

def K1InvL (h : Hp) (l Bm it r : Nat) (m : List (Int × β)) (venc : β → Value) (I : List Int → Hp → Prop) (n : Nat) (env : Env) (G : Hp) : Prop :=
  ∃ V hI, V.length + n = m.length ∧ V.Nodup ∧ (∀ k ∈ V, k ∈ m.map (·.1)) ∧ I V hI ∧ Le hI G ∧ IterS G it r kvalL venc m V ∧ hI it = none ∧
    env 0 = .func (.yield l) #[] #[] ∧ env 1 = .pointer (some ⟨Bm, 0, none⟩) ∧ env 5 = .pointer (some ⟨it, 0, none⟩)

theorem nodup_leL {α : Type} [DecidableEq α] {V K : List α} (n : V.Nodup) (s : ∀ k ∈ V, k ∈ K) : V.length ≤ K.length := List.Nodup.length_le_of_subset n s

set_option maxRecDepth 20000 in
/-- func(yield) { for k := range m { if !yield(k) { return } } }: whatever the rounds keep between them, if they go on. -/
theorem keys1L {h : Hp} {l Bm r : Nat} {Q : Value → Hp → Prop} {m : List (Int × β)} {E : TypeId} {fr : Nat × Nat} (hB : h Bm = some (.cells #[.map (some r)] E fr)) (MB : MapB h r kvalL venc m) (u : Uniq m)
    (I : List Int → Hp → Prop) (I0 : I [] h) (hI : ∀ V g, I V g → g r = h r)
    (step : ∀ V x g k, I V g → x ∈ m → x.1 ∉ V → V.length < m.length → (∀ g', I (V ++ [x.1]) g' → k (.bool true) g') → YOk Try.prog l #[kvalL x.1] g k)
    (hQ : ∀ ks v g, I ks g → ks.Perm (m.map (·.1)) → Q v g) : Ok Try.prog F_maps_Keys_map_int_dual_link_int_dual_link_1 #[.func (.yield l) #[] #[], .pointer (some ⟨Bm, 0, none⟩)] h Q := by
  refine maps_Keys_map_int_dual_link_int_dual_link_1_ok (by simp) ?_
  unfold maps_Keys_map_int_dual_link_int_dual_link_1_D
  simp (disch := omega) [maps_Keys_map_int_dual_link_int_dual_link_1_r0, hB]
  refine arun_rangeS Try.underlying62 MB u (fun it o hit IS => ?_)
  simp (disch := omega)
  refine ⟨K1InvL h l Bm it r m venc I, ⟨m.length, [], h, by simp, .nil, by simp, I0, .new hit, IS, hit, by simp, by simp, by simp⟩, ?_⟩
  rintro n env G ⟨V, g, hn, nd, sub, IV, lg, IS, git, e0, e1, e5⟩
  unfold maps_Keys_map_int_dual_link_int_dual_link_1_L0
  simp (disch := omega) [maps_Keys_map_int_dual_link_int_dual_link_1_r1, e5]
  refine arun_nextS IS (fun hend => ?_) (fun x o hx hxV IS2 => ?_)
  · simp (disch := omega)
    have hp : V.Perm (m.map (·.1)) := (List.perm_ext_iff_of_nodup nd u).2 (fun k => ⟨sub k, fun hk => by obtain ⟨y, hy, rfl⟩ := List.mem_map.1 hk; exact hend y hy⟩)
    exact .to g lg (hQ V _ g IV hp)
  · simp (disch := omega) [maps_Keys_map_int_dual_link_int_dual_link_1_r2, e5]
    refine arun_entryS IS2 hx ?_
    simp (disch := omega)
    have L4 : Le g (G.upd it o) := lg.put git
    have IS3 := IS2
    have hit3 : (G.upd it o) it = some o := upd_same
    generalize G.upd it o = G4 at *
    have hVl : V.length < m.length := by
      have hnd2 : (V ++ [x.1]).Nodup := List.nodup_append.2 ⟨nd, by simp, fun y hy z hz => by simp at hz; subst hz; rintro rfl; exact hxV hy⟩
      have := nodup_leL hnd2 (K := m.map (·.1)) (fun k hk => by
        rcases List.mem_append.1 hk with q | q
        · exact sub k q
        · simp at q; subst q; exact List.mem_map_of_mem hx)
      simp at this; omega
    simp (disch := omega) [maps_Keys_map_int_dual_link_int_dual_link_1_r3, e0]
    refine ((step V x g (fun v g' => v = .bool true ∧ I (V ++ [x.1]) g') IV hx hxV hVl (fun g' h' => ⟨rfl, h'⟩)).frame L4).mono ?_
    rintro v G5 ⟨g5, ⟨rfl, I5⟩, rfl, dom⟩
    simp (disch := omega)
    have le5 : Le g5 (g5.over g G4) := fun b o' e => by
      cases hg : g b with
      | some o2 => rw [over_in hg]; exact e
      | none =>
        cases h4 : G4 b with
        | none => rw [over_new h4]; exact e
        | some o3 => rw [dom b o3 h4 hg] at e; cases e
    have e_it : (g5.over g G4) it = G4 it := (over_out git hit3).trans hit3.symm
    obtain ⟨mo, hmo⟩ := MB.alive
    have hgr : g r = some mo := (hI _ _ IV).trans hmo
    have e_r : (g5.over g G4) r = G4 r := by rw [over_in hgr, hI _ _ I5, hmo, L4 _ _ hgr]
    refine ⟨n - 1, by omega, V ++ [x.1], g5, by simp; omega, List.nodup_append.2 ⟨nd, by simp, fun y hy z hz => by simp at hz; subst hz; rintro rfl; exact hxV hy⟩, fun k hk => ?_, I5, le5, IS3.keep e_r e_it, dom it o hit3 git, by simp [e0], by simp [e1], by simp [e5]⟩
    rcases List.mem_append.1 hk with q | q
    · exact sub k q
    · simp at q; subst q; exact List.mem_map_of_mem hx

def CoIL (h : Hp) (b l : Nat) (rec : Obj) (V : List Int) (g : Hp) : Prop :=
  ∃ v, g b = some (.cells #[v] 112 (0, 0)) ∧ SlAt g 3 1 kencL v V ∧ g l = some rec ∧ Le h g ∧ (∀ x, blkOf v = some x → h x = none ∧ x ≠ b ∧ x ≠ l)

set_option maxRecDepth 20000 in
theorem collectL {h : Hp} {Bm r : Nat} {Q : Value → Hp → Prop} {m : List (Int × β)} {E : TypeId} {fr : Nat × Nat} (hB : h Bm = some (.cells #[.map (some r)] E fr)) (MB : MapB h r kvalL venc m) (u : Uniq m) (hl : m.length ≤ 1000000)
    (hQ : ∀ v ks h', Le h h' → SlAt h' 3 1 kencL v ks → ks.Perm (m.map (·.1)) → (∀ b, blkOf v = some b → h b = none) → Q v h') :
    Ok Try.prog F_slices_Collect_int #[.func (.func F_maps_Keys_map_int_dual_link_int_dual_link_1) #[] #[.pointer (some ⟨Bm, 0, none⟩)]] h Q := by
  refine slices_Collect_int_ok (by simp) ?_
  unfold slices_Collect_int_D
  simp (disch := omega) [slices_Collect_int_r0, slices_Collect_int_r1]
  have end_ : ∀ v ks h', Le h h' → SlAt h' 3 1 kencL v ks → ks.Perm (m.map (·.1)) → (∀ b, blkOf v = some b → h b = none) → drp Q v h' := fun v ks h' a b c d => .to _ (.refl _) (hQ v ks h' a b c d)
  refine Ok.mono (Q := fun v h' => drp Q v h') ?_ (fun v h' q => by simp (disch := omega); exact q)
  refine slices_AppendSeq_int_int_ok (by simp) ?_
  unfold slices_AppendSeq_int_int_D
  simp (disch := omega) [slices_AppendSeq_int_int_r0]
  intro b hb
  simp (disch := omega) [slices_AppendSeq_int_int_r1]
  refine ⟨F_maps_Keys_map_int_dual_link_int_dual_link_1, #[], #[.pointer (some ⟨Bm, 0, none⟩)], by simp, fun l fn D hl2 hu => ?_⟩
  obtain ⟨nlb, hlh⟩ := upd_none hl2
  have L1 : Le h (h.upd b (.cells #[.slice none 0 0] 112)) := .new hb
  simp (disch := omega)
  have key : ∀ (env : Env), env 2 = .pointer (some ⟨b, 0, none⟩) → (∀ t, 13 ≤ t → env t = undef) →
      Ok Try.prog F_maps_Keys_map_int_dual_link_int_dual_link_1 #[.func (.yield l) #[] #[], .pointer (some ⟨Bm, 0, none⟩)] ((h.upd b (.cells #[.slice none 0 0] 112)).upd l (recOf 13 env #[7] slices_AppendSeq_int_int_F0_a slices_AppendSeq_int_int_F0_b .ready none fn D)) (fun _ h2 => ∃ v ks, h2 l = some (recOf 13 env #[7] slices_AppendSeq_int_int_F0_a slices_AppendSeq_int_int_F0_b .ready none fn D) ∧ Le h h2 ∧ h2 b = some (.cells #[v] 112 (0, 0)) ∧ SlAt h2 3 1 kencL v ks ∧ ks.Perm (m.map (·.1)) ∧ (∀ x, blkOf v = some x → h x = none ∧ x ≠ b ∧ x ≠ l)) := by
    intro env e2 hu
    generalize hR : recOf 13 env #[7] slices_AppendSeq_int_int_F0_a slices_AppendSeq_int_int_F0_b .ready none fn D = oR
    have L2 : Le h ((h.upd b (.cells #[.slice none 0 0] 112)).upd l oR) := L1.trans (.new hl2)
    have hb2 : ((h.upd b (.cells #[.slice none 0 0] 112)).upd l oR) b = some (.cells #[.slice none 0 0] 112 (0, 0)) := by rw [upd_ne (Ne.symm nlb), upd_same]
    have hl3 : ((h.upd b (.cells #[.slice none 0 0] 112)).upd l oR) l = some oR := upd_same
    generalize (h.upd b (.cells #[.slice none 0 0] 112)).upd l oR = h1 at *
    refine keys1L (L2 _ _ hB) (MB.le L2) u (CoIL h b l oR) ⟨_, hb2, .inl ⟨rfl, rfl⟩, hl3, L2, by simp [blkOf]⟩ ?_ ?_ ?_
    · rintro V g ⟨v, q1, q2, q3, q4, q5⟩
      obtain ⟨mo, hmo⟩ := MB.alive
      rw [q4 _ _ hmo, L2 _ _ hmo]
    · rintro V x g k ⟨v, q1, q2, q3, q4, q5⟩ hx hxV hVl hk
      subst hR
      refine slices_AppendSeq_int_int_F0_yok q3 hu ?_
      generalize hR : recOf 13 env #[7] slices_AppendSeq_int_int_F0_a slices_AppendSeq_int_int_F0_b .ready none fn D = oR at *
      generalize hB2 : recOf 13 env #[7] slices_AppendSeq_int_int_F0_a slices_AppendSeq_int_int_F0_b .busy none fn D = oB
      unfold rnd
      unfold slices_AppendSeq_int_int_F0_A
      simp (disch := omega) [slices_AppendSeq_int_int_r2]
      have La : ∀ y o, y ≠ l → g y = some o → (g.upd l oB) y = some o := fun y o n e => by rw [upd_ne n]; exact e
      have fl : (g.upd l oB) l = some oB := upd_same
      have nbl : b ≠ l := Ne.symm nlb
      have fb := La b _ nbl q1
      have S1 : SlAt (g.upd l oB) 3 1 kencL v V := q2.keep (fun y o e e2 => La _ _ (q5 y e).2.2 e2)
      have Lh : Le h (g.upd l oB) := fun y o e => La y o (by rintro rfl; rw [hlh] at e; cases e) (q4 _ _ e)
      refine ⟨q3, ?_⟩
      generalize g.upd l oB = g1 at *
      unfold slices_AppendSeq_int_int_F0_B
      simp (disch := omega) [slices_AppendSeq_int_int_r3, e2, fb]
      refine snoc_int S1 (y := x.1) rfl (by simp) (by omega) (fun b9 v' g' S' G hb9 => ?_)
      have ke : ∀ y o, g1 y = some o → blkOf v ≠ some y → g' y = some o := fun y o e n => G.keep y o e (fun q => n q.symm)
      have nvb : blkOf v ≠ some b := fun e => (q5 b e).2.1 rfl
      have nvl : blkOf v ≠ some l := fun e => (q5 l e).2.2 rfl
      have gb := ke b _ fb nvb
      have gl := ke l _ fl nvl
      obtain ⟨sp, sc, hv'⟩ := S'.shape'
      rw [List.length_append, List.length_singleton] at hv'
      simp (disch := omega) [gb, hv', e2]
      rw [← hv']
      have nv' : ∀ y, blkOf v' = some y → h y = none ∧ y ≠ b ∧ y ≠ l := fun y e => by
        rcases G.fresh with q | q
        · exact q5 y (by rw [← q]; exact e)
        · have := q y e
          exact ⟨none_of_le Lh this, (by rintro rfl; rw [fb] at this; cases this), (by rintro rfl; rw [fl] at this; cases this)⟩
      unfold rndK
      simp only [hR, hB2]
      refine ⟨by rw [upd_ne nbl.symm, gl], ?_⟩
      refine hk _ ⟨v', by rw [upd_ne nbl, upd_same], S'.keep (fun y o e e2 => by rw [upd_ne (nv' y e).2.2, upd_ne (nv' y e).2.1]; exact e2), upd_same, fun y o e => ?_, nv'⟩
      rw [upd_ne (by rintro rfl; rw [hlh] at e; cases e), upd_ne (by rintro rfl; rw [hb] at e; cases e)]
      exact ke y o (Lh _ _ e) (fun q => by rw [(q5 y q).1] at e; cases e)
    · rintro ks v g ⟨w, q1, q2, q3, q4, q5⟩ hp
      exact ⟨w, ks, q3, q4, q1, q2, hp, q5⟩
  refine (key _ ?_ ?_).mono ?_
  · simp
  · intro t ht; exact hu t ht
  · rintro _ h2 ⟨v, ks, hr, l2, hb2, S2, hp, nv⟩
    refine .inl ⟨hr, ?_⟩
    have hbr : (h2.rem l) b = some (.cells #[v] 112 (0, 0)) := by rw [rem_ne (Ne.symm nlb)]; exact hb2
    have S3 : SlAt (h2.rem l) 3 1 kencL v ks := S2.keep (fun y o e e2 => by rw [rem_ne (nv y e).2.2]; exact e2)
    have L3 : Le h (h2.rem l) := fun y o e => by rw [rem_ne (by rintro rfl; rw [hlh] at e; cases e)]; exact l2 _ _ e
    simp (disch := omega) [slices_AppendSeq_int_int_r4, hbr]
    exact .to _ (.refl _) (end_ v ks _ L3 S3 hp (fun y e => (nv y e).1))
end
end Go.Proofs.Ytpeoholnlokdcaa

/- maps.Keys and slices.Collect at a map's keys, whatever order is drawn (printed by wip/lib/keys.py). -/
namespace Go.Proofs.Ytpeoholnlokdcaa
open Go
set_option linter.unusedSimpArgs false
set_option linter.unusedVariables false

abbrev kencN (x : Int) : List Value := [.int .i64 x]
abbrev kvalN (x : Int) : Value := (.int .i64 x)

section
variable {β : Type} {venc : β → Value}

def K1InvN (h : Hp) (l Bm it r : Nat) (m : List (Int × β)) (venc : β → Value) (I : List Int → Hp → Prop) (n : Nat) (env : Env) (G : Hp) : Prop :=
  ∃ V hI, V.length + n = m.length ∧ V.Nodup ∧ (∀ k ∈ V, k ∈ m.map (·.1)) ∧ I V hI ∧ Le hI G ∧ IterS G it r kvalN venc m V ∧ hI it = none ∧
    env 0 = .func (.yield l) #[] #[] ∧ env 1 = .pointer (some ⟨Bm, 0, none⟩) ∧ env 5 = .pointer (some ⟨it, 0, none⟩)

theorem nodup_leN {α : Type} [DecidableEq α] {V K : List α} (n : V.Nodup) (s : ∀ k ∈ V, k ∈ K) : V.length ≤ K.length := List.Nodup.length_le_of_subset n s

set_option maxRecDepth 20000 in
/-- func(yield) { for k := range m { if !yield(k) { return } } }: whatever the rounds keep between them, if they go on. -/
theorem keys1N {h : Hp} {l Bm r : Nat} {Q : Value → Hp → Prop} {m : List (Int × β)} {E : TypeId} {fr : Nat × Nat} (hB : h Bm = some (.cells #[.map (some r)] E fr)) (MB : MapB h r kvalN venc m) (u : Uniq m)
    (I : List Int → Hp → Prop) (I0 : I [] h) (hI : ∀ V g, I V g → g r = h r)
    (step : ∀ V x g k, I V g → x ∈ m → x.1 ∉ V → V.length < m.length → (∀ g', I (V ++ [x.1]) g' → k (.bool true) g') → YOk Try.prog l #[kvalN x.1] g k)
    (hQ : ∀ ks v g, I ks g → ks.Perm (m.map (·.1)) → Q v g) : Ok Try.prog F_maps_Keys_map_int_uint32_int_uint32_1 #[.func (.yield l) #[] #[], .pointer (some ⟨Bm, 0, none⟩)] h Q := by
  refine maps_Keys_map_int_uint32_int_uint32_1_ok (by simp) ?_
  unfold maps_Keys_map_int_uint32_int_uint32_1_D
  simp (disch := omega) [maps_Keys_map_int_uint32_int_uint32_1_r0, hB]
  refine arun_rangeS Try.underlying77 MB u (fun it o hit IS => ?_)
  simp (disch := omega)
  refine ⟨K1InvN h l Bm it r m venc I, ⟨m.length, [], h, by simp, .nil, by simp, I0, .new hit, IS, hit, by simp, by simp, by simp⟩, ?_⟩
  rintro n env G ⟨V, g, hn, nd, sub, IV, lg, IS, git, e0, e1, e5⟩
  unfold maps_Keys_map_int_uint32_int_uint32_1_L0
  simp (disch := omega) [maps_Keys_map_int_uint32_int_uint32_1_r1, e5]
  refine arun_nextS IS (fun hend => ?_) (fun x o hx hxV IS2 => ?_)
  · simp (disch := omega)
    have hp : V.Perm (m.map (·.1)) := (List.perm_ext_iff_of_nodup nd u).2 (fun k => ⟨sub k, fun hk => by obtain ⟨y, hy, rfl⟩ := List.mem_map.1 hk; exact hend y hy⟩)
    exact .to g lg (hQ V _ g IV hp)
  · simp (disch := omega) [maps_Keys_map_int_uint32_int_uint32_1_r2, e5]
    refine arun_entryS IS2 hx ?_
    simp (disch := omega)
    have L4 : Le g (G.upd it o) := lg.put git
    have IS3 := IS2
    have hit3 : (G.upd it o) it = some o := upd_same
    generalize G.upd it o = G4 at *
    have hVl : V.length < m.length := by
      have hnd2 : (V ++ [x.1]).Nodup := List.nodup_append.2 ⟨nd, by simp, fun y hy z hz => by simp at hz; subst hz; rintro rfl; exact hxV hy⟩
      have := nodup_leN hnd2 (K := m.map (·.1)) (fun k hk => by
        rcases List.mem_append.1 hk with q | q
        · exact sub k q
        · simp at q; subst q; exact List.mem_map_of_mem hx)
      simp at this; omega
    simp (disch := omega) [maps_Keys_map_int_uint32_int_uint32_1_r3, e0]
    refine ((step V x g (fun v g' => v = .bool true ∧ I (V ++ [x.1]) g') IV hx hxV hVl (fun g' h' => ⟨rfl, h'⟩)).frame L4).mono ?_
    rintro v G5 ⟨g5, ⟨rfl, I5⟩, rfl, dom⟩
    simp (disch := omega)
    have le5 : Le g5 (g5.over g G4) := fun b o' e => by
      cases hg : g b with
      | some o2 => rw [over_in hg]; exact e
      | none =>
        cases h4 : G4 b with
        | none => rw [over_new h4]; exact e
        | some o3 => rw [dom b o3 h4 hg] at e; cases e
    have e_it : (g5.over g G4) it = G4 it := (over_out git hit3).trans hit3.symm
    obtain ⟨mo, hmo⟩ := MB.alive
    have hgr : g r = some mo := (hI _ _ IV).trans hmo
    have e_r : (g5.over g G4) r = G4 r := by rw [over_in hgr, hI _ _ I5, hmo, L4 _ _ hgr]
    refine ⟨n - 1, by omega, V ++ [x.1], g5, by simp; omega, List.nodup_append.2 ⟨nd, by simp, fun y hy z hz => by simp at hz; subst hz; rintro rfl; exact hxV hy⟩, fun k hk => ?_, I5, le5, IS3.keep e_r e_it, dom it o hit3 git, by simp [e0], by simp [e1], by simp [e5]⟩
    rcases List.mem_append.1 hk with q | q
    · exact sub k q
    · simp at q; subst q; exact List.mem_map_of_mem hx

def CoIN (h : Hp) (b l : Nat) (rec : Obj) (V : List Int) (g : Hp) : Prop :=
  ∃ v, g b = some (.cells #[v] 112 (0, 0)) ∧ SlAt g 3 1 kencN v V ∧ g l = some rec ∧ Le h g ∧ (∀ x, blkOf v = some x → h x = none ∧ x ≠ b ∧ x ≠ l)

set_option maxRecDepth 20000 in
theorem collectN {h : Hp} {Bm r : Nat} {Q : Value → Hp → Prop} {m : List (Int × β)} {E : TypeId} {fr : Nat × Nat} (hB : h Bm = some (.cells #[.map (some r)] E fr)) (MB : MapB h r kvalN venc m) (u : Uniq m) (hl : m.length ≤ 1000000)
    (hQ : ∀ v ks h', Le h h' → SlAt h' 3 1 kencN v ks → ks.Perm (m.map (·.1)) → (∀ b, blkOf v = some b → h b = none) → Q v h') :
    Ok Try.prog F_slices_Collect_int #[.func (.func F_maps_Keys_map_int_uint32_int_uint32_1) #[] #[.pointer (some ⟨Bm, 0, none⟩)]] h Q := by
  refine slices_Collect_int_ok (by simp) ?_
  unfold slices_Collect_int_D
  simp (disch := omega) [slices_Collect_int_r0, slices_Collect_int_r1]
  have end_ : ∀ v ks h', Le h h' → SlAt h' 3 1 kencN v ks → ks.Perm (m.map (·.1)) → (∀ b, blkOf v = some b → h b = none) → drp Q v h' := fun v ks h' a b c d => .to _ (.refl _) (hQ v ks h' a b c d)
  refine Ok.mono (Q := fun v h' => drp Q v h') ?_ (fun v h' q => by simp (disch := omega); exact q)
  refine slices_AppendSeq_int_int_ok (by simp) ?_
  unfold slices_AppendSeq_int_int_D
  simp (disch := omega) [slices_AppendSeq_int_int_r0]
  intro b hb
  simp (disch := omega) [slices_AppendSeq_int_int_r1]
  refine ⟨F_maps_Keys_map_int_uint32_int_uint32_1, #[], #[.pointer (some ⟨Bm, 0, none⟩)], by simp, fun l fn D hl2 hu => ?_⟩
  obtain ⟨nlb, hlh⟩ := upd_none hl2
  have L1 : Le h (h.upd b (.cells #[.slice none 0 0] 112)) := .new hb
  simp (disch := omega)
  have key : ∀ (env : Env), env 2 = .pointer (some ⟨b, 0, none⟩) → (∀ t, 13 ≤ t → env t = undef) →
      Ok Try.prog F_maps_Keys_map_int_uint32_int_uint32_1 #[.func (.yield l) #[] #[], .pointer (some ⟨Bm, 0, none⟩)] ((h.upd b (.cells #[.slice none 0 0] 112)).upd l (recOf 13 env #[7] slices_AppendSeq_int_int_F0_a slices_AppendSeq_int_int_F0_b .ready none fn D)) (fun _ h2 => ∃ v ks, h2 l = some (recOf 13 env #[7] slices_AppendSeq_int_int_F0_a slices_AppendSeq_int_int_F0_b .ready none fn D) ∧ Le h h2 ∧ h2 b = some (.cells #[v] 112 (0, 0)) ∧ SlAt h2 3 1 kencN v ks ∧ ks.Perm (m.map (·.1)) ∧ (∀ x, blkOf v = some x → h x = none ∧ x ≠ b ∧ x ≠ l)) := by
    intro env e2 hu
    generalize hR : recOf 13 env #[7] slices_AppendSeq_int_int_F0_a slices_AppendSeq_int_int_F0_b .ready none fn D = oR
    have L2 : Le h ((h.upd b (.cells #[.slice none 0 0] 112)).upd l oR) := L1.trans (.new hl2)
    have hb2 : ((h.upd b (.cells #[.slice none 0 0] 112)).upd l oR) b = some (.cells #[.slice none 0 0] 112 (0, 0)) := by rw [upd_ne (Ne.symm nlb), upd_same]
    have hl3 : ((h.upd b (.cells #[.slice none 0 0] 112)).upd l oR) l = some oR := upd_same
    generalize (h.upd b (.cells #[.slice none 0 0] 112)).upd l oR = h1 at *
    refine keys1N (L2 _ _ hB) (MB.le L2) u (CoIN h b l oR) ⟨_, hb2, .inl ⟨rfl, rfl⟩, hl3, L2, by simp [blkOf]⟩ ?_ ?_ ?_
    · rintro V g ⟨v, q1, q2, q3, q4, q5⟩
      obtain ⟨mo, hmo⟩ := MB.alive
      rw [q4 _ _ hmo, L2 _ _ hmo]
    · rintro V x g k ⟨v, q1, q2, q3, q4, q5⟩ hx hxV hVl hk
      subst hR
      refine slices_AppendSeq_int_int_F0_yok q3 hu ?_
      generalize hR : recOf 13 env #[7] slices_AppendSeq_int_int_F0_a slices_AppendSeq_int_int_F0_b .ready none fn D = oR at *
      generalize hB2 : recOf 13 env #[7] slices_AppendSeq_int_int_F0_a slices_AppendSeq_int_int_F0_b .busy none fn D = oB
      unfold rnd
      unfold slices_AppendSeq_int_int_F0_A
      simp (disch := omega) [slices_AppendSeq_int_int_r2]
      have La : ∀ y o, y ≠ l → g y = some o → (g.upd l oB) y = some o := fun y o n e => by rw [upd_ne n]; exact e
      have fl : (g.upd l oB) l = some oB := upd_same
      have nbl : b ≠ l := Ne.symm nlb
      have fb := La b _ nbl q1
      have S1 : SlAt (g.upd l oB) 3 1 kencN v V := q2.keep (fun y o e e2 => La _ _ (q5 y e).2.2 e2)
      have Lh : Le h (g.upd l oB) := fun y o e => La y o (by rintro rfl; rw [hlh] at e; cases e) (q4 _ _ e)
      refine ⟨q3, ?_⟩
      generalize g.upd l oB = g1 at *
      unfold slices_AppendSeq_int_int_F0_B
      simp (disch := omega) [slices_AppendSeq_int_int_r3, e2, fb]
      refine snoc_int S1 (y := x.1) rfl (by simp) (by omega) (fun b9 v' g' S' G hb9 => ?_)
      have ke : ∀ y o, g1 y = some o → blkOf v ≠ some y → g' y = some o := fun y o e n => G.keep y o e (fun q => n q.symm)
      have nvb : blkOf v ≠ some b := fun e => (q5 b e).2.1 rfl
      have nvl : blkOf v ≠ some l := fun e => (q5 l e).2.2 rfl
      have gb := ke b _ fb nvb
      have gl := ke l _ fl nvl
      obtain ⟨sp, sc, hv'⟩ := S'.shape'
      rw [List.length_append, List.length_singleton] at hv'
      simp (disch := omega) [gb, hv', e2]
      rw [← hv']
      have nv' : ∀ y, blkOf v' = some y → h y = none ∧ y ≠ b ∧ y ≠ l := fun y e => by
        rcases G.fresh with q | q
        · exact q5 y (by rw [← q]; exact e)
        · have := q y e
          exact ⟨none_of_le Lh this, (by rintro rfl; rw [fb] at this; cases this), (by rintro rfl; rw [fl] at this; cases this)⟩
      unfold rndK
      simp only [hR, hB2]
      refine ⟨by rw [upd_ne nbl.symm, gl], ?_⟩
      refine hk _ ⟨v', by rw [upd_ne nbl, upd_same], S'.keep (fun y o e e2 => by rw [upd_ne (nv' y e).2.2, upd_ne (nv' y e).2.1]; exact e2), upd_same, fun y o e => ?_, nv'⟩
      rw [upd_ne (by rintro rfl; rw [hlh] at e; cases e), upd_ne (by rintro rfl; rw [hb] at e; cases e)]
      exact ke y o (Lh _ _ e) (fun q => by rw [(q5 y q).1] at e; cases e)
    · rintro ks v g ⟨w, q1, q2, q3, q4, q5⟩ hp
      exact ⟨w, ks, q3, q4, q1, q2, hp, q5⟩
  refine (key _ ?_ ?_).mono ?_
  · simp
  · intro t ht; exact hu t ht
  · rintro _ h2 ⟨v, ks, hr, l2, hb2, S2, hp, nv⟩
    refine .inl ⟨hr, ?_⟩
    have hbr : (h2.rem l) b = some (.cells #[v] 112 (0, 0)) := by rw [rem_ne (Ne.symm nlb)]; exact hb2
    have S3 : SlAt (h2.rem l) 3 1 kencN v ks := S2.keep (fun y o e e2 => by rw [rem_ne (nv y e).2.2]; exact e2)
    have L3 : Le h (h2.rem l) := fun y o e => by rw [rem_ne (by rintro rfl; rw [hlh] at e; cases e)]; exact l2 _ _ e
    simp (disch := omega) [slices_AppendSeq_int_int_r4, hbr]
    exact .to _ (.refl _) (end_ v ks _ L3 S3 hp (fun y e => (nv y e).1))
end
end Go.Proofs.Ytpeoholnlokdcaa

/- A look into a map, the value alone; what stays in a map. -/
namespace Go.Proofs.Ytpeoholnlokdcaa
open Go
theorem fm_congr {α β : Type} {f g : α → Option β} : ∀ {l : List α}, (∀ x ∈ l, f x = g x) → l.filterMap f = l.filterMap g
  | [], _ => rfl
  | x :: xs, h => by rw [List.filterMap_cons, List.filterMap_cons, h x (by simp), fm_congr (fun y hy => h y (by simp [hy]))]

theorem take_snoc {α : Type} {l : List α} {i : Nat} {x : α} (hx : l[i]? = some x) : l.take (i + 1) = l.take i ++ [x] := by rw [List.take_add_one, hx]; rfl
theorem drop_cons {α : Type} {l : List α} {i : Nat} {x : α} (hx : l[i]? = some x) : l.drop i = x :: l.drop (i + 1) := by
  obtain ⟨h1, h2⟩ := List.getElem?_eq_some_iff.1 hx
  rw [List.drop_eq_getElem_cons h1, h2]

section
variable {P : Program} {h : Hp} {α β : Type} [DecidableEq α] {kenc : α → Value} {venc : β → Value}

theorem rr_lookup1 {t kt et : TypeId} {r : Nat} {a : α} {m : List (α × β)} {z : Value} (hu : P.underlying t = some (.map kt et)) (M : MapAt h r kenc venc m) (hck : ∀ e, rrun P (Instr.checkKey e 10000 kt (kenc a)) h = some ())
    (hfk : ∀ es : List MapEntry, Ents kenc venc es m → rrun P (Instr.findKey kt (kenc a) es) h = some ((findM a m 0).map fun x => (x.1, venc x.2))) (hz : (P.info? et).bind (·.zero) = some z) :
    rrun P (Instr.lookup t (.map (some r)) (kenc a) false) h = some (match getM m a with | some v => venc v | none => z) := by
  obtain ⟨es, clock, hr, hE⟩ := M
  unfold Instr.lookup
  rw [rrun_bnd, rr_underlying, hu, Option.bind_some]
  simp only []
  have hg : rrun P (getObj r) h = some (.map es clock) := by
    unfold getObj
    simp only [rrun, hr, isRow]
  simp only [rrun_bnd, hg, Option.bind_some, rrun_pure, hck, hfk _ hE]
  unfold getM
  cases findM a m 0 with
  | none =>
    have e : ∀ (s : Sem Value) (f : Value → Value), rrun P (f <$> s) h = (rrun P s h).map f := by
      intro s f
      have : f <$> s = s >>= fun x => pure (f x) := by simp
      rw [this, rrun_bnd]
      cases rrun P s h <;> rfl
    simp [rrun_bnd, rrun_pure, e, rr_zeroValue hz]
  | some x => simp [rrun_bnd, rrun_pure]

theorem getM_isSome {a : α} {m : List (α × β)} : (getM m a).isSome = decide (a ∈ m.map (·.1)) := by
  cases h : getM m a with
  | none => simp [getM_none.1 h]
  | some v => simp only [Option.isSome_some]; symm; rw [decide_eq_true_eq]; exact List.mem_map_of_mem (getM_mem h)

theorem setM_mem {a : α} {v : β} {m : List (α × β)} {e : α × β} (he : e ∈ setM a v m) : e = (a, v) ∨ (e ∈ m) := by
  induction m with
  | nil => simp [setM] at he; exact .inl he
  | cons y ys ih =>
    simp only [setM] at he
    split at he
    · rcases List.mem_cons.1 he with q | q
      · exact .inl q
      · exact .inr (List.mem_cons_of_mem _ q)
    · rcases List.mem_cons.1 he with q | q
      · exact .inr (by rw [q]; exact List.mem_cons_self)
      · rcases ih q with q | q
        · exact .inl q
        · exact .inr (List.mem_cons_of_mem _ q)
theorem setM_mem_ne {a : α} {v : β} : ∀ {m : List (α × β)}, Uniq m → ∀ {e : α × β}, e ∈ setM a v m → e = (a, v) ∨ (e ∈ m ∧ e.1 ≠ a)
  | [], _, e, he => by simp [setM] at he; exact .inl he
  | y :: ys, u, e, he => by
    have u' := u
    unfold Uniq at u
    rw [List.map_cons, List.nodup_cons] at u
    simp only [setM] at he
    split at he
    · rename_i q0
      rcases List.mem_cons.1 he with q | q
      · exact .inl q
      · exact .inr ⟨List.mem_cons_of_mem _ q, fun q2 => u.1 (by rw [← q0, ← q2]; exact List.mem_map_of_mem q)⟩
    · rename_i q0
      rcases List.mem_cons.1 he with q | q
      · exact .inr ⟨by rw [q]; exact List.mem_cons_self, by rw [q]; exact fun q2 => q0 q2.symm⟩
      · rcases setM_mem_ne u.2 q with q | q
        · exact .inl q
        · exact .inr ⟨List.mem_cons_of_mem _ q.1, q.2⟩
end
end Go.Proofs.Ytpeoholnlokdcaa

/- Writing into one of a slice. -/
namespace Go.Proofs.Ytpeoholnlokdcaa
open Go
set_option linter.unusedSimpArgs false
set_option linter.unusedVariables false

theorem stN_at {b : Nat} {E : TypeId} {k : Hp → Prop} : ∀ (vals : List Value) (o : Nat) (c : Array Value) (h : Hp), h b = some (.cells c E (0, 0)) → o + vals.length ≤ c.size → vals.all oneCell = true →
    ∃ c' : Array Value, c'.size = c.size ∧ (∀ j, j < vals.length → c'[o + j]? = vals[j]?) ∧ (∀ j, j < o ∨ o + vals.length ≤ j → c'[j]? = c[j]?) ∧ (k (h.upd b (.cells c' E (0, 0))) → stN h b o vals k)
  | [], o, c, h, hb, hs, _ => ⟨c, rfl, fun j hj => by simp at hj, fun j _ => rfl, fun q => by rw [upd_self hb] at q; exact q⟩
  | v :: vals, o, c, h, hb, hs, ho => by
    simp only [List.all_cons, Bool.and_eq_true] at ho
    simp only [List.length_cons] at hs
    have hlt : o < c.size := by omega
    obtain ⟨c', h1, h2, h3, h4⟩ := stN_at (k := k) vals (o + 1) (c.setIfInBounds o v) (h.upd b (.cells (c.setIfInBounds o v) E (0, 0))) upd_same (by simp; omega) ho.2
    refine ⟨c', by rw [h1]; simp, fun j hj => ?_, fun j hj => ?_, fun q => ?_⟩
    · cases j with
      | zero =>
        rw [h3 (o + 0) (by omega)]
        simp [hlt]
      | succ j =>
        have := h2 j (by simpa using hj)
        rw [show o + (j + 1) = o + 1 + j by omega, this]
        simp
    · simp only [List.length_cons] at hj
      rw [h3 j (by omega), Array.getElem?_setIfInBounds_ne (by omega)]
    · rw [stN_cons]
      have hc : h.cell? ⟨b, o, none⟩ = some c[o] := by unfold Hp.cell?; simp [hb, hlt]
      have hf : h.frozen? ⟨b, o, none⟩ = false := by unfold Hp.frozen?; simp [hb]
      have hset : h.setCell ⟨b, o, none⟩ v = h.upd b (.cells (c.setIfInBounds o v) E (0, 0)) := by rw [setCell_def, hb]
      rw [hc, hf, stw_ok, hset]
      refine ⟨ho.1, h4 ?_⟩
      have e : (h.upd b (.cells (c.setIfInBounds o v) E (0, 0))).upd b (.cells c' E (0, 0)) = h.upd b (.cells c' E (0, 0)) := by
        funext i; rw [upd_get, upd_get, upd_get]; split <;> simp
      rw [e]; exact q

/-- A part of one of a slice is written. -/
theorem SlAt.setPart {α : Type} {h : Hp} {E sz : Nat} {enc : α → List Value} {b cap n o : Nat} {xs : List α} {i : Nat} {x y : α} {vals : List Value} {k : Hp → Prop} (S : SlAt h E sz enc (.slice (some ⟨b, 0, none⟩) n cap) xs) (j : Nat) (ho : o = i * sz + j) (hn : n = xs.length) (hx : xs[i]? = some x) (hlen : (enc x).length = sz)
    (hone : vals.all oneCell = true) (hj : j + vals.length ≤ sz) (hy : enc y = (enc x).take j ++ (vals ++ (enc x).drop (j + vals.length)))
    (hk : ∀ h', (∀ x o, h x = some o → x ≠ b → h' x = some o) → SlAt h' E sz enc (.slice (some ⟨b, 0, none⟩) n cap) (xs.set i y) → k h') : stN h b o vals k := by
  subst hn ho
  have hi : i < xs.length := by rw [List.getElem?_eq_some_iff] at hx; exact hx.1
  rcases S with ⟨e, _⟩ | ⟨b', cap', c, e, hb, h1, h2, h3⟩
  · cases e
  · cases e
    have hs0 : i * sz + sz ≤ c.size := by
      have : (i + 1) * sz ≤ cap * sz := Nat.mul_le_mul_right sz (by omega)
      rw [Nat.add_mul] at this; omega
    obtain ⟨c', k1, k2, k3, k4⟩ := stN_at (k := k) vals (i * sz + j) c h hb (by omega) hone
    refine k4 (hk _ (fun x o e n => by rw [upd_ne n]; exact e) (.inr ⟨b, cap, c', by rw [List.length_set], upd_same, by rw [List.length_set]; exact h1, by rw [k1]; exact h2, fun j' x' hx' m hm => ?_⟩))
    rw [List.getElem?_set] at hx'
    split at hx'
    · rename_i e
      subst e
      cases hx'
      have h3' := h3 i x hx m hm
      rw [Nat.zero_add] at h3' ⊢
      rw [hy]
      have hl : ((enc x).take j).length = j := by rw [List.length_take]; omega
      by_cases q : m < j
      · rw [k3 _ (by omega), h3', List.getElem?_append_left (by omega), List.getElem?_take, if_pos q]
      · rw [List.getElem?_append_right (by omega), hl]
        by_cases q2 : m < j + vals.length
        · rw [List.getElem?_append_left (by omega), show i * sz + m = i * sz + j + (m - j) by omega, k2 _ (by omega)]
        · rw [List.getElem?_append_right (by omega), List.getElem?_drop, k3 _ (by omega), h3']
          congr 1; omega
    · rename_i e
      have := h3 j' x' hx' m hm
      rw [k3 (0 + j' * sz + m) ?_]
      · exact this
      · rw [Nat.zero_add]
        rcases Nat.lt_or_gt_of_ne e with q | q
        · right
          have : (i + 1) * sz ≤ j' * sz := Nat.mul_le_mul_right sz (by omega)
          rw [Nat.add_mul] at this; omega
        · left
          have : (j' + 1) * sz ≤ i * sz := Nat.mul_le_mul_right sz (by omega)
          rw [Nat.add_mul] at this; omega

/-- One of a slice is written. -/
theorem SlAt.setOne {α : Type} {h : Hp} {E sz : Nat} {enc : α → List Value} {b cap n : Nat} {xs : List α} {i : Nat} {x y : α} {vals : List Value} {k : Hp → Prop} (S : SlAt h E sz enc (.slice (some ⟨b, 0, none⟩) n cap) xs) (hn : n = xs.length) (hx : xs[i]? = some x) (hlen : (enc x).length = sz)
    (hone : vals.all oneCell = true) (hv : vals.length = sz) (hy : enc y = vals)
    (hk : ∀ h', (∀ x o, h x = some o → x ≠ b → h' x = some o) → SlAt h' E sz enc (.slice (some ⟨b, 0, none⟩) n cap) (xs.set i y) → k h') : stN h b (i * sz) vals k := by
  refine SlAt.setPart (j := 0) S rfl hn hx hlen hone (by omega) ?_ hk
  rw [hy]
  have : (enc x).drop (0 + vals.length) = [] := List.drop_of_length_le (by omega)
  rw [this]; simp

/-- The first of a key is the one that is written anew. -/
theorem findM_set {α β : Type} [DecidableEq α] {a : α} {v w : β} : ∀ {m : List (α × β)} {i j : Nat}, findM a m i = some (i + j, v) → m.set j (a, w) = setM a w m
  | [], i, j, h => by cases h
  | x :: xs, i, j, h => by
    simp only [findM, setM] at *
    by_cases q : a = x.1
    · rw [if_pos q] at h ⊢
      simp at h
      rw [h.1]; rfl
    · rw [if_neg q] at h ⊢
      have hle := (findM_some h).1
      obtain ⟨j', rfl⟩ : ∃ j', j = j' + 1 := ⟨j - 1, by omega⟩
      rw [List.set_cons_succ, findM_set (i := i + 1) (j := j') (by rw [h]; congr 2; omega)]
theorem getM_findM {α β : Type} [DecidableEq α] {a : α} {m : List (α × β)} {i : Nat} {v : β} (h : findM a m 0 = some (i, v)) : getM m a = some v := by unfold getM; rw [h]; rfl
theorem findM_getM {α β : Type} [DecidableEq α] {a : α} {m : List (α × β)} {v : β} (h : getM m a = some v) : ∃ i, findM a m 0 = some (i, v) ∧ m[i]? = some (a, v) := by
  unfold getM at h
  cases hf : findM a m 0 with
  | none => rw [hf] at h; cases h
  | some y =>
    rw [hf] at h
    obtain ⟨i, z⟩ := y
    simp at h
    subst h
    exact ⟨i, rfl, by have := (findM_some hf).2; simpa using this⟩
/-- The first of a key, told by what is ahead of it. -/
theorem findM_first {α β : Type} [DecidableEq α] {a : α} {v : β} : ∀ {m : List (α × β)} {i j : Nat}, m[j]? = some (a, v) → (∀ e ∈ m.take j, e.1 ≠ a) → findM a m i = some (i + j, v)
  | [], i, j, h, _ => by simp at h
  | x :: xs, i, 0, h, _ => by
    simp at h; subst h; simp [findM]
  | x :: xs, i, j + 1, h, hn => by
    have hx : x.1 ≠ a := hn x (by simp)
    simp only [findM]
    rw [if_neg (Ne.symm hx), findM_first (i := i + 1) (j := j) (by simpa using h) (fun e he => hn e (by simp [he]))]
    congr 2; omega

theorem getM_perm {α β : Type} [DecidableEq α] {m m' : List (α × β)} (u : Uniq m) (p : m.Perm m') (a : α) : getM m a = getM m' a := by
  have u' : Uniq m' := by unfold Uniq at *; exact (p.map _).nodup_iff.1 u
  cases h : getM m a with
  | some v => exact (getM_of_mem u' (p.mem_iff.1 (getM_mem h))).symm
  | none =>
    cases h' : getM m' a with
    | none => rfl
    | some v => rw [getM_of_mem u (p.mem_iff.2 (getM_mem h'))] at h; cases h
theorem perm_of_getM {α β : Type} [DecidableEq α] [DecidableEq β] {m m' : List (α × β)} (u : Uniq m) (u' : Uniq m') (h : ∀ a, getM m a = getM m' a) : m.Perm m' := by
  have nd : ∀ {l : List (α × β)}, Uniq l → l.Nodup := fun {l} ul => by unfold Uniq at ul; exact List.Pairwise.of_map (·.1) (fun a b hab he => hab (by rw [he])) ul
  refine (List.perm_ext_iff_of_nodup (nd u) (nd u')).2 fun e => ?_
  constructor
  · intro he; have := getM_of_mem (a := e.1) (v := e.2) u he; rw [h] at this; exact getM_mem this
  · intro he; have := getM_of_mem (a := e.1) (v := e.2) u' he; rw [← h] at this; exact getM_mem this
end Go.Proofs.Ytpeoholnlokdcaa

/- The builtin clear: of a map; of a slice. -/
namespace Go.Proofs.Ytpeoholnlokdcaa
open Go
set_option linter.unusedSimpArgs false
set_option linter.unusedVariables false

@[simp] theorem ldN_10 {h : Hp} {b o : Nat} : ldN h b o 10 = (h.cell? ⟨b, o, none⟩).bind fun a0 => (h.cell? ⟨b, o + 1, none⟩).bind fun a1 => (h.cell? ⟨b, o + 2, none⟩).bind fun a2 => (h.cell? ⟨b, o + 3, none⟩).bind fun a3 => (h.cell? ⟨b, o + 4, none⟩).bind fun a4 => (h.cell? ⟨b, o + 5, none⟩).bind fun a5 => (h.cell? ⟨b, o + 6, none⟩).bind fun a6 => (h.cell? ⟨b, o + 7, none⟩).bind fun a7 => (h.cell? ⟨b, o + 8, none⟩).bind fun a8 => (h.cell? ⟨b, o + 9, none⟩).bind fun a9 => some [a0, a1, a2, a3, a4, a5, a6, a7, a8, a9] := by
  simp only [ldN_succ, ldN_0, Nat.add_assoc, Option.map_some, Nat.reduceAdd]
  simp [Function.comp_def, Option.map_bind]
@[simp] theorem ldN_11 {h : Hp} {b o : Nat} : ldN h b o 11 = (h.cell? ⟨b, o, none⟩).bind fun a0 => (h.cell? ⟨b, o + 1, none⟩).bind fun a1 => (h.cell? ⟨b, o + 2, none⟩).bind fun a2 => (h.cell? ⟨b, o + 3, none⟩).bind fun a3 => (h.cell? ⟨b, o + 4, none⟩).bind fun a4 => (h.cell? ⟨b, o + 5, none⟩).bind fun a5 => (h.cell? ⟨b, o + 6, none⟩).bind fun a6 => (h.cell? ⟨b, o + 7, none⟩).bind fun a7 => (h.cell? ⟨b, o + 8, none⟩).bind fun a8 => (h.cell? ⟨b, o + 9, none⟩).bind fun a9 => (h.cell? ⟨b, o + 10, none⟩).bind fun a10 => some [a0, a1, a2, a3, a4, a5, a6, a7, a8, a9, a10] := by
  simp only [ldN_succ, ldN_0, Nat.add_assoc, Option.map_some, Nat.reduceAdd]
  simp [Function.comp_def, Option.map_bind]
@[simp] theorem ldN_12 {h : Hp} {b o : Nat} : ldN h b o 12 = (h.cell? ⟨b, o, none⟩).bind fun a0 => (h.cell? ⟨b, o + 1, none⟩).bind fun a1 => (h.cell? ⟨b, o + 2, none⟩).bind fun a2 => (h.cell? ⟨b, o + 3, none⟩).bind fun a3 => (h.cell? ⟨b, o + 4, none⟩).bind fun a4 => (h.cell? ⟨b, o + 5, none⟩).bind fun a5 => (h.cell? ⟨b, o + 6, none⟩).bind fun a6 => (h.cell? ⟨b, o + 7, none⟩).bind fun a7 => (h.cell? ⟨b, o + 8, none⟩).bind fun a8 => (h.cell? ⟨b, o + 9, none⟩).bind fun a9 => (h.cell? ⟨b, o + 10, none⟩).bind fun a10 => (h.cell? ⟨b, o + 11, none⟩).bind fun a11 => some [a0, a1, a2, a3, a4, a5, a6, a7, a8, a9, a10, a11] := by
  simp only [ldN_succ, ldN_0, Nat.add_assoc, Option.map_some, Nat.reduceAdd]
  simp [Function.comp_def, Option.map_bind]
@[simp] theorem ldN_13 {h : Hp} {b o : Nat} : ldN h b o 13 = (h.cell? ⟨b, o, none⟩).bind fun a0 => (h.cell? ⟨b, o + 1, none⟩).bind fun a1 => (h.cell? ⟨b, o + 2, none⟩).bind fun a2 => (h.cell? ⟨b, o + 3, none⟩).bind fun a3 => (h.cell? ⟨b, o + 4, none⟩).bind fun a4 => (h.cell? ⟨b, o + 5, none⟩).bind fun a5 => (h.cell? ⟨b, o + 6, none⟩).bind fun a6 => (h.cell? ⟨b, o + 7, none⟩).bind fun a7 => (h.cell? ⟨b, o + 8, none⟩).bind fun a8 => (h.cell? ⟨b, o + 9, none⟩).bind fun a9 => (h.cell? ⟨b, o + 10, none⟩).bind fun a10 => (h.cell? ⟨b, o + 11, none⟩).bind fun a11 => (h.cell? ⟨b, o + 12, none⟩).bind fun a12 => some [a0, a1, a2, a3, a4, a5, a6, a7, a8, a9, a10, a11, a12] := by
  simp only [ldN_succ, ldN_0, Nat.add_assoc, Option.map_some, Nat.reduceAdd]
  simp [Function.comp_def, Option.map_bind]
@[simp] theorem ldN_14 {h : Hp} {b o : Nat} : ldN h b o 14 = (h.cell? ⟨b, o, none⟩).bind fun a0 => (h.cell? ⟨b, o + 1, none⟩).bind fun a1 => (h.cell? ⟨b, o + 2, none⟩).bind fun a2 => (h.cell? ⟨b, o + 3, none⟩).bind fun a3 => (h.cell? ⟨b, o + 4, none⟩).bind fun a4 => (h.cell? ⟨b, o + 5, none⟩).bind fun a5 => (h.cell? ⟨b, o + 6, none⟩).bind fun a6 => (h.cell? ⟨b, o + 7, none⟩).bind fun a7 => (h.cell? ⟨b, o + 8, none⟩).bind fun a8 => (h.cell? ⟨b, o + 9, none⟩).bind fun a9 => (h.cell? ⟨b, o + 10, none⟩).bind fun a10 => (h.cell? ⟨b, o + 11, none⟩).bind fun a11 => (h.cell? ⟨b, o + 12, none⟩).bind fun a12 => (h.cell? ⟨b, o + 13, none⟩).bind fun a13 => some [a0, a1, a2, a3, a4, a5, a6, a7, a8, a9, a10, a11, a12, a13] := by
  simp only [ldN_succ, ldN_0, Nat.add_assoc, Option.map_some, Nat.reduceAdd]
  simp [Function.comp_def, Option.map_bind]
@[simp] theorem ldN_15 {h : Hp} {b o : Nat} : ldN h b o 15 = (h.cell? ⟨b, o, none⟩).bind fun a0 => (h.cell? ⟨b, o + 1, none⟩).bind fun a1 => (h.cell? ⟨b, o + 2, none⟩).bind fun a2 => (h.cell? ⟨b, o + 3, none⟩).bind fun a3 => (h.cell? ⟨b, o + 4, none⟩).bind fun a4 => (h.cell? ⟨b, o + 5, none⟩).bind fun a5 => (h.cell? ⟨b, o + 6, none⟩).bind fun a6 => (h.cell? ⟨b, o + 7, none⟩).bind fun a7 => (h.cell? ⟨b, o + 8, none⟩).bind fun a8 => (h.cell? ⟨b, o + 9, none⟩).bind fun a9 => (h.cell? ⟨b, o + 10, none⟩).bind fun a10 => (h.cell? ⟨b, o + 11, none⟩).bind fun a11 => (h.cell? ⟨b, o + 12, none⟩).bind fun a12 => (h.cell? ⟨b, o + 13, none⟩).bind fun a13 => (h.cell? ⟨b, o + 14, none⟩).bind fun a14 => some [a0, a1, a2, a3, a4, a5, a6, a7, a8, a9, a10, a11, a12, a13, a14] := by
  simp only [ldN_succ, ldN_0, Nat.add_assoc, Option.map_some, Nat.reduceAdd]
  simp [Function.comp_def, Option.map_bind]
@[simp] theorem ldN_16 {h : Hp} {b o : Nat} : ldN h b o 16 = (h.cell? ⟨b, o, none⟩).bind fun a0 => (h.cell? ⟨b, o + 1, none⟩).bind fun a1 => (h.cell? ⟨b, o + 2, none⟩).bind fun a2 => (h.cell? ⟨b, o + 3, none⟩).bind fun a3 => (h.cell? ⟨b, o + 4, none⟩).bind fun a4 => (h.cell? ⟨b, o + 5, none⟩).bind fun a5 => (h.cell? ⟨b, o + 6, none⟩).bind fun a6 => (h.cell? ⟨b, o + 7, none⟩).bind fun a7 => (h.cell? ⟨b, o + 8, none⟩).bind fun a8 => (h.cell? ⟨b, o + 9, none⟩).bind fun a9 => (h.cell? ⟨b, o + 10, none⟩).bind fun a10 => (h.cell? ⟨b, o + 11, none⟩).bind fun a11 => (h.cell? ⟨b, o + 12, none⟩).bind fun a12 => (h.cell? ⟨b, o + 13, none⟩).bind fun a13 => (h.cell? ⟨b, o + 14, none⟩).bind fun a14 => (h.cell? ⟨b, o + 15, none⟩).bind fun a15 => some [a0, a1, a2, a3, a4, a5, a6, a7, a8, a9, a10, a11, a12, a13, a14, a15] := by
  simp only [ldN_succ, ldN_0, Nat.add_assoc, Option.map_some, Nat.reduceAdd]
  simp [Function.comp_def, Option.map_bind]

section
variable {P : Program} {h : Hp} {α β : Type} {kenc : α → Value} {venc : β → Value}
theorem arun_clearMap {t kt et R : TypeId} {ts : Array TypeId} {r : Nat} {m : List (α × β)} {K : Value → Hp → Prop} (ht : ts[0]? = some t) (hu : P.underlying t = some (.map kt et)) (M : MapB h r kenc venc m)
    (hK : ∀ o, MapB (h.upd r o) r kenc venc ([] : List (α × β)) → K (.tuple #[]) (h.upd r o)) : arun P (Builtin.clear_ ts R #[.map (some r)]) h K := by
  obtain ⟨es, clock, hr, hE, hB⟩ := M
  unfold Builtin.clear_
  rw [ht]
  simp only [List.getElem?_toArray, List.getElem?_cons_zero]
  rw [arun_bnd_rr (a := .map kt et) (by rw [rr_underlying, hu])]
  rw [arun_bnd_rr (a := .map es clock) (rr_getObj hr)]
  simp only []
  exact ⟨⟨_, hr, rfl⟩, hK _ ⟨#[], clock, upd_same, .nil, by simp [BornOk]⟩⟩

/-- The end of a slice is cleared: what is ahead of it stays. -/
theorem arun_clearSl {t E R sz : Nat} {ts : Array TypeId} {b k n cap : Nat} {E' : TypeId} {c : Array Value} {z : Value} {K : Value → Hp → Prop} (ht : ts[0]? = some t) (hu : P.underlying t = some (.slice E)) (hz : (P.info? E).bind (·.zero) = some z)
    (hzs : z.cells.size = sz) (hz1 : z.cells.toList.all oneCell = true) (hb : h b = some (.cells c E' (0, 0))) (hc : k + (n + 1) * sz ≤ c.size)
    (hK : ∀ c' : Array Value, c'.size = c.size → (∀ j, j < k → c'[j]? = c[j]?) → K (.tuple #[]) (h.upd b (.cells c' E' (0, 0)))) :
    arun P (Builtin.clear_ ts R #[.slice (some ⟨b, k, none⟩) (n + 1) cap]) h K := by
  have hzc : ∀ n, (Builtin.zeroCells z.cells n).size = n * sz := by intro n; simp [Builtin.zeroCells, hzs]
  unfold Builtin.clear_
  rw [ht]
  simp only [List.getElem?_toArray, List.getElem?_cons_zero]
  rw [arun_bnd_rr (a := .slice E) (by rw [rr_underlying, hu])]
  simp only [bind_assoc, pure_bind]
  refine arun_bind _ _ (arun_of_rrun _ (rr_zeroValue hz) ?_)
  refine arun_bind _ _ (arun_storeCells _ 0 h _ ?_)
  have hl : (Builtin.zeroCells z.cells (n + 1)).toList.length = (n + 1) * sz := by rw [Array.length_toList, hzc]
  have ho : (Builtin.zeroCells z.cells (n + 1)).toList.all oneCell = true := by
    rw [List.all_eq_true] at hz1 ⊢
    intro v hv
    simp only [Builtin.zeroCells] at hv
    rw [Array.toList_map, List.mem_map] at hv
    obtain ⟨i, hi, rfl⟩ := hv
    have hi' : i < (n + 1) * z.cells.size := by simpa using hi
    have hpos : 0 < z.cells.size := Nat.pos_of_ne_zero fun q => by rw [q] at hi'; simp at hi'
    have hlt := Nat.mod_lt i hpos
    rw [getElem!_pos z.cells _ hlt]
    exact hz1 _ (Array.getElem_mem_toList hlt)
  obtain ⟨c', k1, k2, k3, k4⟩ := stN_at (k := fun h' => arun P (pure (Value.tuple #[]) : Sem Value) h' K) (Builtin.zeroCells z.cells (n + 1)).toList (k + 0) c h hb (by rw [hl]; omega) ho
  exact k4 (hK c' k1 (fun j hj => k3 j (.inl (by omega))))
end
end Go.Proofs.Ytpeoholnlokdcaa

/- DUAL: the state; laws of its maps. -/
namespace Go.Proofs.Ytpeoholnlokdcaa
open Go
set_option linter.unusedSimpArgs false
set_option linter.unusedVariables false
set_option maxRecDepth 20000

structure Wy where
  v : Vec
  tg : Nat
  nx : Int
deriving DecidableEq
abbrev Wy.cells (x : Wy) : Array Value := #[.int .i64 x.v.b, .int .i64 x.v.d, .int .i64 x.v.h, .int .u16 (x.tg : Nat), .int .i64 x.nx]
abbrev Wy.val (x : Wy) : Value := .agg #[.int .i64 x.v.b, .int .i64 x.v.d, .int .i64 x.v.h, .int .u16 (x.tg : Nat), .int .i64 x.nx]
def Wy.zero : Wy := ⟨⟨0, 0, 0⟩, 0, 0⟩
structure Ln where
  v : Vec
  sent : Nat
  got : Nat
deriving DecidableEq
abbrev Ln.cells (x : Ln) : Array Value := #[.int .i64 x.v.b, .int .i64 x.v.d, .int .i64 x.v.h, .int .u32 (x.sent : Nat), .int .u32 (x.got : Nat)]
structure Kn where
  own : Option Wy
  rep : List (Int × Wy)
  told : Wy
  least : Int
  opn : List (Int × Nat)
deriving DecidableEq
structure Lt where
  to : Int
  code : Int
  seq : Nat
  ack : Nat
  p : PK
  v : Vec
  tg : Nat
deriving DecidableEq
def Lt.enc (x : Lt) : List Value := [.int .i64 x.to, .int .i64 x.code, .int .u32 (x.seq : Nat), .int .u32 (x.ack : Nat), .int .u32 (x.p.1 : Nat), .int .i64 x.p.2, .int .i64 x.v.b, .int .i64 x.v.d, .int .i64 x.v.h, .int .u16 (x.tg : Nat)]
abbrev Lt.val (x : Lt) : Value := .agg #[.int .i64 x.to, .int .i64 x.code, .int .u32 (x.seq : Nat), .int .u32 (x.ack : Nat), .int .u32 (x.p.1 : Nat), .int .i64 x.p.2, .int .i64 x.v.b, .int .i64 x.v.d, .int .i64 x.v.h, .int .u16 (x.tg : Nat)]
abbrev Lt.cells (x : Lt) : Array Value := #[.int .i64 x.to, .int .i64 x.code, .int .u32 (x.seq : Nat), .int .u32 (x.ack : Nat), .int .u32 (x.p.1 : Nat), .int .i64 x.p.2, .int .i64 x.v.b, .int .i64 x.v.d, .int .i64 x.v.h, .int .u16 (x.tg : Nat)]
theorem Lt.one (x : Lt) : (Lt.enc x).length = 10 ∧ ∀ u ∈ Lt.enc x, oneCell u = true := ⟨rfl, by simp [Lt.enc]⟩
structure DS where
  dom : Int
  most : Int
  lk : List (Int × Ln)
  px : List (PK × Kn)
  out : List Lt

abbrev ptrV (b : Nat) : Value := .pointer (some ⟨b, 0, none⟩)
abbrev u32V (n : Nat) : Value := .int .u32 (n : Nat)

theorem eqPd {h : Hp} {p q : PK} : rrun Try.prog (Op.equal 35 (kvalP p) (kvalP q)) h = some (decide (p = q)) := by
  unfold kvalP
  rw [keq_63]
  congr 1
  rw [Bool.eq_iff_iff]
  simp only [Bool.and_true, Bool.and_eq_true, decide_eq_true_eq, Prod.ext_iff]
  omega
theorem findPd {h : Hp} {β : Type} {venc : β → Value} {p : PK} {m : List (PK × β)} {es : List MapEntry} (H : Ents kvalP venc es m) : rrun Try.prog (Instr.findKey 35 (kvalP p) es) h = some ((findM p m 0).map fun x => (x.1, venc x.2)) :=
  rr_findKey_struct Try.underlying35 (fun q => eqPd) H
theorem findId {h : Hp} {β : Type} {venc : β → Value} {a : Int} {m : List (Int × β)} {es : List MapEntry} (H : Ents kvalL venc es m) : rrun Try.prog (Instr.findKey 3 (.int .i64 a) es) h = some ((findM a m 0).map fun x => (x.1, venc x.2)) :=
  rr_findKey_int (f := fun x : Int => x) (fun _ _ e => e) Try.underlying3 H
theorem ckI {h : Hp} {e : Bool} {a : Int} : rrun Try.prog (Instr.checkKey e 10000 3 (.int .i64 a)) h = some () := by kernel_rfl
theorem sbI {a : Int} : Instr.sameBits 10000 (.int .i64 a) (.int .i64 a) = true := by simp [Instr.sameBits]

section
variable {h : Hp} {r : Nat}
/- prefixes -/
theorem lookPd {p : PK} {m : List (PK × Nat)} (M : MapB h r kvalP ptrV m) :
    rrun Try.prog (Instr.lookup 63 (.map (some r)) (.agg #[.int .u32 (p.1 : Nat), .int .i64 p.2]) false) h = some (match getM m p with | some v => ptrV v | none => .pointer none) := by
  have := rr_lookup1 (a := p) (z := .pointer none) Try.underlying63 M.at (fun e => ck_63) (fun es H => findPd H) (by kernel_rfl)
  rw [show (Value.agg #[.int .u32 (p.1 : Nat), .int .i64 p.2]) = kvalP p from rfl, this]
  cases getM m p <;> rfl
theorem putPd {p : PK} {v : Nat} {m : List (PK × Nat)} {K : Unit → Hp → Prop} (M : MapB h r kvalP ptrV m) (hK : ∀ o, MapB (h.upd r o) r kvalP ptrV (setM p v m) → K () (h.upd r o)) :
    arun Try.prog (Instr.mapUpdate 63 (.map (some r)) (.agg #[.int .u32 (p.1 : Nat), .int .i64 p.2]) (.pointer (some ⟨v, 0, none⟩))) h K :=
  arun_mapUpdateB (a := p) (v := v) (kenc := kvalP) (venc := ptrV) Try.underlying63 M (fun e => ck_63) (fun es H => findPd H) sb_63 (fun _ _ => hK _)
theorem lenPd {m : List (PK × Nat)} {R : TypeId} (M : MapB h r kvalP ptrV m) : rrun Try.prog (Builtin.len_ #[63] R #[.map (some r)]) h = some (.int .i64 (m.length : Nat)) :=
  rr_mapLen (kenc := kvalP) (venc := ptrV) rfl Try.underlying63 M.at
theorem makePd {K : Value → Hp → Prop} (hK : ∀ b, h b = none → MapB (h.upd b (.map #[] 0)) b kvalP ptrV [] → K (.map (some b)) (h.upd b (.map #[] 0))) : arun Try.prog (Instr.makeMap 63 none) h K :=
  arun_makeMapB hK
/- links -/
theorem lookLd {p : Int} {m : List (Int × Nat)} (M : MapB h r kvalL ptrV m) :
    rrun Try.prog (Instr.lookup 62 (.map (some r)) (.int .i64 p) false) h = some (match getM m p with | some v => ptrV v | none => .pointer none) := by
  have := rr_lookup1 (a := p) (z := .pointer none) Try.underlying62 M.at (fun e => ckI) (fun es H => findId H) (by kernel_rfl)
  rw [show (Value.int .i64 p) = kvalL p from rfl, this]
  cases getM m p <;> rfl
theorem putLd {p : Int} {v : Nat} {m : List (Int × Nat)} {K : Unit → Hp → Prop} (M : MapB h r kvalL ptrV m) (hK : ∀ o, MapB (h.upd r o) r kvalL ptrV (setM p v m) → K () (h.upd r o)) :
    arun Try.prog (Instr.mapUpdate 62 (.map (some r)) (.int .i64 p) (.pointer (some ⟨v, 0, none⟩))) h K :=
  arun_mapUpdateB (a := p) (v := v) (kenc := kvalL) (venc := ptrV) Try.underlying62 M (fun e => ckI) (fun es H => findId H) sbI (fun _ _ => hK _)
theorem lenLd {m : List (Int × Nat)} {R : TypeId} (M : MapB h r kvalL ptrV m) : rrun Try.prog (Builtin.len_ #[62] R #[.map (some r)]) h = some (.int .i64 (m.length : Nat)) :=
  rr_mapLen (kenc := kvalL) (venc := ptrV) rfl Try.underlying62 M.at
theorem delLd {R kk : TypeId} {p : Int} {m : List (Int × Nat)} {K : Value → Hp → Prop} (M : MapB h r kvalL ptrV m) (hK : ∀ o, MapB (h.upd r o) r kvalL ptrV (delM p m) → K (.tuple #[]) (h.upd r o)) :
    arun Try.prog (Builtin.delete_ #[62, kk] R #[.map (some r), .int .i64 p]) h K :=
  arun_mapDeleteB (a := p) (kenc := kvalL) (venc := ptrV) rfl Try.underlying62 M (fun e => ckI) (fun es H => findId H) (fun _ _ => hK _)
theorem makeLd {K : Value → Hp → Prop} (hK : ∀ b, h b = none → MapB (h.upd b (.map #[] 0)) b kvalL ptrV [] → K (.map (some b)) (h.upd b (.map #[] 0))) : arun Try.prog (Instr.makeMap 62 none) h K :=
  arun_makeMapB hK
/- reports -/
theorem lookRd {p : Int} {m : List (Int × Wy)} (M : MapB h r kvalL Wy.val m) :
    rrun Try.prog (Instr.lookup 76 (.map (some r)) (.int .i64 p) true) h = some (.tuple #[((getM m p).getD Wy.zero).val, .bool (getM m p).isSome]) := by
  have := rr_lookup (a := p) (z := Wy.zero.val) Try.underlying76 M.at (fun e => ckI) (fun es H => findId H) (by kernel_rfl)
  rw [show (Value.int .i64 p) = kvalL p from rfl, this]
  cases getM m p <;> rfl
theorem putRd {p : Int} {v : Wy} {m : List (Int × Wy)} {K : Unit → Hp → Prop} (M : MapB h r kvalL Wy.val m) (hK : ∀ o, MapB (h.upd r o) r kvalL Wy.val (setM p v m) → K () (h.upd r o)) :
    arun Try.prog (Instr.mapUpdate 76 (.map (some r)) (.int .i64 p) (.agg #[.int .i64 v.v.b, .int .i64 v.v.d, .int .i64 v.v.h, .int .u16 (v.tg : Nat), .int .i64 v.nx])) h K :=
  arun_mapUpdateB (a := p) (v := v) (kenc := kvalL) (venc := Wy.val) Try.underlying76 M (fun e => ckI) (fun es H => findId H) sbI (fun _ _ => hK _)
theorem delRd {R kk : TypeId} {p : Int} {m : List (Int × Wy)} {K : Value → Hp → Prop} (M : MapB h r kvalL Wy.val m) (hK : ∀ o, MapB (h.upd r o) r kvalL Wy.val (delM p m) → K (.tuple #[]) (h.upd r o)) :
    arun Try.prog (Builtin.delete_ #[76, kk] R #[.map (some r), .int .i64 p]) h K :=
  arun_mapDeleteB (a := p) (kenc := kvalL) (venc := Wy.val) rfl Try.underlying76 M (fun e => ckI) (fun es H => findId H) (fun _ _ => hK _)
theorem makeRd {K : Value → Hp → Prop} (hK : ∀ b, h b = none → MapB (h.upd b (.map #[] 0)) b kvalL Wy.val [] → K (.map (some b)) (h.upd b (.map #[] 0))) : arun Try.prog (Instr.makeMap 76 none) h K :=
  arun_makeMapB hK
/- open queries -/
theorem lookNd {p : Int} {m : List (Int × Nat)} (M : MapB h r kvalL u32V m) :
    rrun Try.prog (Instr.lookup 77 (.map (some r)) (.int .i64 p) true) h = some (.tuple #[u32V ((getM m p).getD 0), .bool (getM m p).isSome]) := by
  have := rr_lookup (a := p) (z := u32V 0) Try.underlying77 M.at (fun e => ckI) (fun es H => findId H) (by kernel_rfl)
  rw [show (Value.int .i64 p) = kvalL p from rfl, this]
  cases getM m p <;> rfl
theorem putNd {p : Int} {v : Nat} {m : List (Int × Nat)} {K : Unit → Hp → Prop} (M : MapB h r kvalL u32V m) (hK : ∀ o, MapB (h.upd r o) r kvalL u32V (setM p v m) → K () (h.upd r o)) :
    arun Try.prog (Instr.mapUpdate 77 (.map (some r)) (.int .i64 p) (.int .u32 (v : Nat))) h K :=
  arun_mapUpdateB (a := p) (v := v) (kenc := kvalL) (venc := u32V) Try.underlying77 M (fun e => ckI) (fun es H => findId H) sbI (fun _ _ => hK _)
theorem lenNd {m : List (Int × Nat)} {R : TypeId} (M : MapB h r kvalL u32V m) : rrun Try.prog (Builtin.len_ #[77] R #[.map (some r)]) h = some (.int .i64 (m.length : Nat)) :=
  rr_mapLen (kenc := kvalL) (venc := u32V) rfl Try.underlying77 M.at
theorem delNd {R kk : TypeId} {p : Int} {m : List (Int × Nat)} {K : Value → Hp → Prop} (M : MapB h r kvalL u32V m) (hK : ∀ o, MapB (h.upd r o) r kvalL u32V (delM p m) → K (.tuple #[]) (h.upd r o)) :
    arun Try.prog (Builtin.delete_ #[77, kk] R #[.map (some r), .int .i64 p]) h K :=
  arun_mapDeleteB (a := p) (kenc := kvalL) (venc := u32V) rfl Try.underlying77 M (fun e => ckI) (fun es H => findId H) (fun _ _ => hK _)
theorem makeNd {K : Value → Hp → Prop} (hK : ∀ b, h b = none → MapB (h.upd b (.map #[] 0)) b kvalL u32V [] → K (.map (some b)) (h.upd b (.map #[] 0))) : arun Try.prog (Instr.makeMap 77 none) h K :=
  arun_makeMapB hK
end
end Go.Proofs.Ytpeoholnlokdcaa

/- Writing some cells in the midst of a struct. -/
namespace Go.Proofs.Ytpeoholnlokdcaa
open Go
set_option linter.unusedSimpArgs false
set_option linter.unusedVariables false
theorem stN_mid {b : Nat} {E : TypeId} {k : Hp → Prop} : ∀ (vals old pre post : List Value) (h : Hp), h b = some (.cells (pre ++ (old ++ post)).toArray E (0, 0)) → old.length = vals.length → vals.all oneCell = true →
    stN h b pre.length vals k = k (h.upd b (.cells (pre ++ (vals ++ post)).toArray E (0, 0)))
  | [], old, pre, post, h, hb, hl, _ => by
    have : old = [] := List.length_eq_zero_iff.1 hl
    subst this
    rw [stN_nil, upd_self hb]
  | v :: vals, [], pre, post, h, hb, hl, _ => by simp at hl
  | v :: vals, u :: old, pre, post, h, hb, hl, ho => by
    simp only [List.all_cons, Bool.and_eq_true] at ho
    rw [stN_cons]
    have hc : h.cell? ⟨b, pre.length, none⟩ = some u := by unfold Hp.cell?; simp [hb]
    have hf : h.frozen? ⟨b, pre.length, none⟩ = false := by unfold Hp.frozen?; simp [hb]
    have hs : h.setCell ⟨b, pre.length, none⟩ v = h.upd b (.cells ((pre ++ [v]) ++ (old ++ post)).toArray E (0, 0)) := by
      rw [setCell_def, hb]
      simp only []
      congr 2
      simp
    rw [hc, hf, stw_ok, hs, ho.1]
    simp only [true_and]
    have := stN_mid (k := k) vals old (pre ++ [v]) post (h.upd b (.cells ((pre ++ [v]) ++ (old ++ post)).toArray E (0, 0))) (by rw [upd_get, if_pos rfl]) (by simpa using hl) ho.2
    rw [List.length_append, List.length_singleton] at this
    rw [this]
    congr 1
    funext i
    rw [upd_get, upd_get, upd_get]
    split <;> simp
theorem stA_mid {b n : Nat} {E : TypeId} {h : Hp} {k : Hp → Prop} (pre old post : List Value) {vals : List Value} (hb : h b = some (.cells (pre ++ (old ++ post)).toArray E (0, 0))) (hn : n = pre.length) (hl : old.length = vals.length) (ho : vals.all oneCell = true)
    (hk : k (h.upd b (.cells (pre ++ (vals ++ post)).toArray E (0, 0)))) : stA h b n vals k := by
  subst hn
  exact (stN_mid vals old pre post h hb hl ho).mpr hk
end Go.Proofs.Ytpeoholnlokdcaa

/- DUAL in memory: places by roles; what stays. -/
namespace Go.Proofs.Ytpeoholnlokdcaa
open Go
set_option linter.unusedSimpArgs false
set_option linter.unusedVariables false

inductive Rl where
  | top | lm | pm | ou
  | li (k : Int) | kn (p : PK) | ow (p : PK) | re (p : PK) | op (p : PK)
deriving DecidableEq
abbrev RM := Rl → Option Nat
def Rl.Of (p : PK) (r : Rl) : Prop := r = .kn p ∨ r = .ow p ∨ r = .re p ∨ r = .op p
structure DPt where
  p : Nat
  lm : Nat
  pm : Nat
abbrev T_dual : Nat := 65
abbrev T_known : Nat := 79
abbrev T_link : Nat := 68
abbrev T_way : Nat := 74
abbrev T_letter : Nat := 40

abbrev kcells (p : PK) (y : Kn) (ov : Value) (r o : Nat) : Array Value :=
  #[.int .u32 (p.1 : Nat), .int .i64 p.2, ov, .map (some r), .int .i64 y.told.v.b, .int .i64 y.told.v.d, .int .i64 y.told.v.h, .int .u16 (y.told.tg : Nat), .int .i64 y.told.nx, .int .i64 y.least, .map (some o)]
abbrev dcells (x : DPt) (s : DS) (v : Value) : Array Value := #[.int .i64 s.dom, .int .i64 s.most, .map (some x.lm), .map (some x.pm), v]

def OwnAt (h : Hp) (L : RM) (p : PK) (o : Option Wy) (ov : Value) : Prop :=
  (o = none ∧ ov = .pointer none) ∨ ∃ w a, o = some w ∧ ov = ptrV a ∧ L (.ow p) = some a ∧ h a = some (.cells w.cells T_way (0, 0))
structure KnAt (h : Hp) (L : RM) (p : PK) (y : Kn) (b r o : Nat) (ov : Value) : Prop where
  kb : L (.kn p) = some b
  kr : L (.re p) = some r
  ko : L (.op p) = some o
  pt : h b = some (.cells (kcells p y ov r o) T_known (0, 0))
  mr : MapB h r kvalL Wy.val y.rep
  mo : MapB h o kvalL u32V y.opn
  ur : Uniq y.rep
  uo : Uniq y.opn
  ow : OwnAt h L p y.own ov

structure DualAt (h : Hp) (L : RM) (x : DPt) (s : DS) : Prop where
  inj : ∀ r1 r2 b, L r1 = some b → L r2 = some b → r1 = r2
  al : ∀ r b, L r = some b → ∃ o, h b = some o
  t0 : L .top = some x.p
  t1 : L .lm = some x.lm
  t2 : L .pm = some x.pm
  pt : ∃ v, h x.p = some (.cells (dcells x s v) T_dual (0, 0)) ∧ SlAt h T_letter 10 Lt.enc v s.out ∧ L .ou = blkOf v
  ml : MapB h x.lm kvalL ptrV (s.lk.map fun e => (e.1, (L (.li e.1)).getD 0))
  mp : MapB h x.pm kvalP ptrV (s.px.map fun e => (e.1, (L (.kn e.1)).getD 0))
  ul : Uniq s.lk
  up : Uniq s.px
  li : ∀ k l, getM s.lk k = some l → ∃ b, L (.li k) = some b ∧ h b = some (.cells l.cells T_link (0, 0))
  kn : ∀ p y, getM s.px p = some y → ∃ b r o ov, KnAt h L p y b r o ov
  kz : ∀ p, getM s.px p = none → L (.kn p) = none

/-- What a call may touch. -/
structure DF (h : Hp) (L : RM) (h' : Hp) (L' : RM) : Prop where
  keep : ∀ y o, h y = some o → (∀ r, L r ≠ some y) → h' y = some o
  new : ∀ r y, L' r = some y → (∃ r', L r' = some y) ∨ h y = none
  kp : ∀ p b, L (.kn p) = some b → L' (.kn p) = some b

structure DQ (h : Hp) (L : RM) (x : DPt) (s' : DS) (h' : Hp) (L' : RM) : Prop where
  at_ : DualAt h' L' x s'
  fr : DF h L h' L'

section
variable {h h1 h' g : Hp} {L L1 L' : RM} {x : DPt} {s s1 s' : DS}
theorem DF.of_le (l : Le h h') : DF h L h' L := ⟨fun y o e _ => l _ _ e, fun r y e => .inl ⟨r, e⟩, fun _ _ e => e⟩
theorem DF.refl : DF h L h L := .of_le (.refl _)
theorem DF.trans (a : DF h L h1 L1) (b : DF h1 L1 h' L') : DF h L h' L' := by
  refine ⟨fun y o e n => b.keep y o (a.keep y o e n) (fun r q => ?_), fun r y q => ?_, fun p k e => b.kp p k (a.kp p k e)⟩
  · rcases a.new r y q with ⟨r', q'⟩ | q'
    · exact n r' q'
    · rw [e] at q'; cases q'
  · rcases b.new r y q with ⟨r', q'⟩ | q'
    · exact a.new r' y q'
    · cases e : h y with
      | none => exact .inr rfl
      | some o =>
        by_cases c : ∃ r', L r' = some y
        · exact .inl c
        · rw [a.keep y o e (fun r q => c ⟨r, q⟩)] at q'; cases q'
theorem DF.upd {r : Rl} {b : Nat} {o : Obj} (e : L r = some b) : DF h L (h.upd b o) L :=
  ⟨fun y o e2 n => by rw [upd_ne]; exact e2; rintro rfl; exact n r e, fun r y e => .inl ⟨r, e⟩, fun _ _ e => e⟩
theorem DQ.trans (a : DQ h L x s1 h1 L1) (b : DQ h1 L1 x s' h' L') : DQ h L x s' h' L' := ⟨b.at_, a.fr.trans b.fr⟩
theorem DQ.le (l : Le h h1) (b : DQ h1 L x s' h' L') : DQ h L x s' h' L' := ⟨b.at_, (DF.of_le l).trans b.fr⟩
theorem DQ.fin (a : DQ h L x s' h1 L') (l : Le h1 h') (b : DualAt h' L' x s') : DQ h L x s' h' L' := ⟨b, a.fr.trans (.of_le l)⟩

theorem KnAt.keep {p : PK} {y : Kn} {b r o : Nat} {ov : Value} (K : KnAt h L p y b r o ov) (hL : ∀ r, r.Of p → L' r = L r) (hh : ∀ r b o, r.Of p → L r = some b → h b = some o → h' b = some o) : KnAt h' L' p y b r o ov := by
  have e : ∀ r b, r.Of p → L r = some b → (∃ o, h b = some o) → h' b = h b := fun r b q e ⟨o, ho⟩ => by rw [ho]; exact hh r b o q e ho
  refine ⟨(hL _ (.inl rfl)).trans K.kb, (hL _ (.inr (.inr (.inl rfl)))).trans K.kr, (hL _ (.inr (.inr (.inr rfl)))).trans K.ko, hh _ _ _ (.inl rfl) K.kb K.pt,
    K.mr.keep (e _ _ (.inr (.inr (.inl rfl))) K.kr K.mr.alive), K.mo.keep (e _ _ (.inr (.inr (.inr rfl))) K.ko K.mo.alive), K.ur, K.uo, ?_⟩
  rcases K.ow with q | ⟨w, a, q1, q2, q3, q4⟩
  · exact .inl q
  · exact .inr ⟨w, a, q1, q2, (hL _ (.inr (.inl rfl))).trans q3, hh _ _ _ (.inr (.inl rfl)) q3 q4⟩

theorem DualAt.keep (A : DualAt h L x s) (hh : ∀ r b o, L r = some b → h b = some o → h' b = some o) : DualAt h' L x s := by
  have e : ∀ r b, L r = some b → (∃ o, h b = some o) → h' b = h b := fun r b e ⟨o, ho⟩ => by rw [ho]; exact hh r b o e ho
  obtain ⟨v, p1, p2, p3⟩ := A.pt
  refine ⟨A.inj, fun r b q => ?_, A.t0, A.t1, A.t2, ⟨v, hh _ _ _ A.t0 p1, p2.keep (fun b o q e2 => hh _ _ _ (p3.trans q) e2), p3⟩, A.ml.keep (e _ _ A.t1 A.ml.alive), A.mp.keep (e _ _ A.t2 A.mp.alive), A.ul, A.up, fun k l q => ?_, fun p y q => ?_, A.kz⟩
  · obtain ⟨o, ho⟩ := A.al r b q; exact ⟨o, hh r b o q ho⟩
  · obtain ⟨b, q1, q2⟩ := A.li k l q; exact ⟨b, q1, hh _ _ _ q1 q2⟩
  · obtain ⟨b, r, o, ov, K⟩ := A.kn p y q; exact ⟨b, r, o, ov, K.keep (fun _ _ => rfl) (fun r b o _ => hh r b o)⟩
theorem DualAt.le' (A : DualAt h L x s) (l : Le h h') : DualAt h' L x s := A.keep fun _ b o _ e => l b o e
theorem DQ.same (A : DualAt h L x s) (l : Le h h') : DQ h L x s h' L := ⟨A.le' l, .of_le l⟩

theorem DualAt.ne (A : DualAt h L x s) {r r' : Rl} {b b' : Nat} (e : L r = some b) (e' : L r' = some b') (n : r ≠ r') : b ≠ b' := by
  rintro rfl; exact n (A.inj _ _ _ e e')
/-- A block that is not owned. -/
theorem DualAt.out_ (A : DualAt h L x s) {b : Nat} (hb : h b = none) : ∀ r, L r ≠ some b := fun r q => by obtain ⟨o, e⟩ := A.al r b q; rw [hb] at e; cases e

theorem map_setM {α β γ : Type} [DecidableEq α] {f : α → γ} {a : α} {v : β} : ∀ {m : List (α × β)}, (getM m a).isSome → (setM a v m).map (fun e => (e.1, f e.1)) = m.map fun e => (e.1, f e.1)
  | [], h => by simp [getM_nil] at h
  | y :: ys, h => by
    rw [getM_cons] at h
    simp only [setM]
    by_cases q : a = y.1
    · rw [if_pos q]; simp [q]
    · rw [if_neg q] at h ⊢
      rw [List.map_cons, List.map_cons, map_setM h]
theorem map_setM_new {α β γ : Type} [DecidableEq α] {f f' : α → γ} {a : α} {v : β} (hf : ∀ b, b ≠ a → f' b = f b) : ∀ {m : List (α × β)}, getM m a = none → (setM a v m).map (fun e => (e.1, f' e.1)) = setM a (f' a) (m.map fun e => (e.1, f e.1))
  | [], h => by simp [setM]
  | y :: ys, h => by
    rw [getM_cons] at h
    by_cases q : a = y.1
    · rw [if_pos q] at h; cases h
    · rw [if_neg q] at h
      simp only [setM, List.map_cons, if_neg q]
      rw [map_setM_new hf h, hf _ (Ne.symm q)]
theorem map_delM {α β γ : Type} [DecidableEq α] {f : α → γ} {a : α} : ∀ {m : List (α × β)}, (delM a m).map (fun e => (e.1, f e.1)) = delM a (m.map fun e => (e.1, f e.1))
  | [] => rfl
  | y :: ys => by
    simp only [delM, List.map_cons]
    split
    · rfl
    · rw [List.map_cons, map_delM]
theorem getM_map {α β γ : Type} [DecidableEq α] {f : α → β → γ} {a : α} : ∀ {m : List (α × β)}, getM (m.map fun e => (e.1, f e.1 e.2)) a = (getM m a).map (f a)
  | [] => rfl
  | y :: ys => by
    rw [List.map_cons, getM_cons, getM_cons]
    by_cases q : a = y.1
    · rw [if_pos q, if_pos q, q]; rfl
    · rw [if_neg q, if_neg q, getM_map]

def setK (s : DS) (p : PK) (y : Kn) : DS := { s with px := setM p y s.px }

/-- A known prefix is written. -/
theorem DualAt.setKn (A : DualAt h L x s) {p : PK} {y y' : Kn} (hy : getM s.px p = some y) {b r o : Nat} {ov : Value} (K : KnAt h' L' p y' b r o ov) (hL : ∀ r, ¬ r.Of p → L' r = L r) (kb : L' (.kn p) = L (.kn p))
    (hh : ∀ r b o, ¬ r.Of p → L r = some b → h b = some o → h' b = some o) (inj : ∀ r1 r2 b, L' r1 = some b → L' r2 = some b → r1 = r2) (al : ∀ r b, L' r = some b → ∃ o, h' b = some o) : DualAt h' L' x (setK s p y') := by
  have n0 : ¬ Rl.Of p .top := by simp [Rl.Of]
  have n1 : ¬ Rl.Of p .lm := by simp [Rl.Of]
  have n2 : ¬ Rl.Of p .pm := by simp [Rl.Of]
  have n3 : ¬ Rl.Of p .ou := by simp [Rl.Of]
  have n4 : ∀ k, ¬ Rl.Of p (.li k) := by simp [Rl.Of]
  have e : ∀ r b, ¬ r.Of p → L r = some b → (∃ o, h b = some o) → h' b = h b := fun r b q e ⟨o, ho⟩ => by rw [ho]; exact hh r b o q e ho
  obtain ⟨v, p1, p2, p3⟩ := A.pt
  have e1 : ∀ q, L' (.kn q) = L (.kn q) := fun q => by
    by_cases c : q = p
    · rw [c, kb]
    · exact hL _ (by simp [Rl.Of, c])
  refine ⟨inj, al, (hL _ n0).trans A.t0, (hL _ n1).trans A.t1, (hL _ n2).trans A.t2, ⟨v, hh _ _ _ n0 A.t0 p1, p2.keep (fun b o q e2 => hh _ _ _ n3 (p3.trans q) e2), (hL _ n3).trans p3⟩, ?_, ?_, A.ul, A.up.set, fun k l q => ?_, fun p2 y2 q => ?_, fun p2 q => ?_⟩
  · have : (s.lk.map fun e => (e.1, (L' (.li e.1)).getD 0)) = s.lk.map fun e => (e.1, (L (.li e.1)).getD 0) := List.map_congr_left fun e _ => by rw [hL _ (n4 _)]
    show MapB h' x.lm kvalL ptrV (s.lk.map fun e => (e.1, (L' (.li e.1)).getD 0))
    rw [this]
    exact A.ml.keep (e _ _ n1 A.t1 A.ml.alive)
  · have e2 : ((setM p y' s.px).map fun e => (e.1, (L' (.kn e.1)).getD 0)) = s.px.map fun e => (e.1, (L (.kn e.1)).getD 0) := by
      simp only [e1]
      exact map_setM (f := fun q => (L (.kn q)).getD 0) (by rw [hy]; rfl)
    show MapB h' x.pm kvalP ptrV ((setM p y' s.px).map fun e => (e.1, (L' (.kn e.1)).getD 0))
    rw [e2]
    exact A.mp.keep (e _ _ n2 A.t2 A.mp.alive)
  · obtain ⟨b, q1, q2⟩ := A.li k l q
    exact ⟨b, (hL _ (n4 k)).trans q1, hh _ _ _ (n4 k) q1 q2⟩
  · unfold setK at q
    simp only [getM_setM] at q
    by_cases c : p2 = p
    · rw [if_pos c] at q; cases q; subst c; exact ⟨b, r, o, ov, K⟩
    · rw [if_neg c] at q
      obtain ⟨b2, r2, o2, ov2, K2⟩ := A.kn p2 y2 q
      have nn : ∀ r : Rl, r.Of p2 → ¬ r.Of p := fun r q q2 => by
        rcases q with rfl | rfl | rfl | rfl <;> simp [Rl.Of] at q2 <;> exact c q2
      exact ⟨b2, r2, o2, ov2, K2.keep (fun r q => hL r (nn r q)) (fun r b o q => hh r b o (nn r q))⟩
  · unfold setK at q
    simp only [getM_setM] at q
    by_cases c : p2 = p
    · rw [if_pos c] at q; cases q
    · rw [if_neg c] at q
      rw [e1]; exact A.kz p2 q

/-- One of its own blocks is written. -/
theorem DualAt.setKnU (A : DualAt h L x s) {p : PK} {y y' : Kn} (hy : getM s.px p = some y) {ro : Rl} (hro : ro.Of p) {a b r o : Nat} {ov : Value} {ob : Obj} (ha : L ro = some a) (K : KnAt (h.upd a ob) L p y' b r o ov) : DQ h L x (setK s p y') (h.upd a ob) L := by
  have hh : ∀ r b o, ¬ r.Of p → L r = some b → h b = some o → (h.upd a ob) b = some o := fun r b o q e e2 => by
    rw [upd_ne (A.ne e ha (by rintro rfl; exact q hro))]; exact e2
  refine ⟨A.setKn hy K (fun _ _ => rfl) rfl hh A.inj (fun r b q => ?_), .upd ha⟩
  by_cases c : b = a
  · subst c; exact ⟨_, upd_same⟩
  · rw [upd_ne c]; exact A.al r b q

/-- The metrics are written. -/
theorem DualAt.setTold (A : DualAt h L x s) {p : PK} {y : Kn} (hy : getM s.px p = some y) {b r o : Nat} {ov : Value} (K : KnAt h L p y b r o ov) (w : Wy) (n : Int) :
    DQ h L x (setK s p { y with told := w, least := n }) (h.upd b (.cells (kcells p { y with told := w, least := n } ov r o) T_known (0, 0))) L ∧ KnAt (h.upd b (.cells (kcells p { y with told := w, least := n } ov r o) T_known (0, 0))) L p { y with told := w, least := n } b r o ov := by
  have K' : KnAt (h.upd b (.cells (kcells p { y with told := w, least := n } ov r o) T_known (0, 0))) L p { y with told := w, least := n } b r o ov := by
    refine ⟨K.kb, K.kr, K.ko, upd_same, K.mr.keep (upd_ne (A.ne K.kr K.kb (by simp))), K.mo.keep (upd_ne (A.ne K.ko K.kb (by simp))), K.ur, K.uo, ?_⟩
    rcases K.ow with q | ⟨w, a, q1, q2, q3, q4⟩
    · exact .inl q
    · exact .inr ⟨w, a, q1, q2, q3, by rw [upd_ne (A.ne q3 K.kb (by simp))]; exact q4⟩
  exact ⟨A.setKnU hy (.inl rfl) K.kb K', K'⟩

/-- The reports are written. -/
theorem DualAt.setRep (A : DualAt h L x s) {p : PK} {y : Kn} (hy : getM s.px p = some y) {b r o : Nat} {ov : Value} (K : KnAt h L p y b r o ov) {m : List (Int × Wy)} {ob : Obj} (M : MapB (h.upd r ob) r kvalL Wy.val m) (u : Uniq m) :
    DQ h L x (setK s p { y with rep := m }) (h.upd r ob) L ∧ KnAt (h.upd r ob) L p { y with rep := m } b r o ov := by
  have K' : KnAt (h.upd r ob) L p { y with rep := m } b r o ov := by
    refine ⟨K.kb, K.kr, K.ko, by rw [upd_ne (A.ne K.kb K.kr (by simp))]; exact K.pt, M, K.mo.keep (upd_ne (A.ne K.ko K.kr (by simp))), u, K.uo, ?_⟩
    rcases K.ow with q | ⟨w, a, q1, q2, q3, q4⟩
    · exact .inl q
    · exact .inr ⟨w, a, q1, q2, q3, by rw [upd_ne (A.ne q3 K.kr (by simp))]; exact q4⟩
  exact ⟨A.setKnU hy (.inr (.inr (.inl rfl))) K.kr K', K'⟩

/-- The open queries are written. -/
theorem DualAt.setOpn (A : DualAt h L x s) {p : PK} {y : Kn} (hy : getM s.px p = some y) {b r o : Nat} {ov : Value} (K : KnAt h L p y b r o ov) {m : List (Int × Nat)} {ob : Obj} (M : MapB (h.upd o ob) o kvalL u32V m) (u : Uniq m) :
    DQ h L x (setK s p { y with opn := m }) (h.upd o ob) L ∧ KnAt (h.upd o ob) L p { y with opn := m } b r o ov := by
  have K' : KnAt (h.upd o ob) L p { y with opn := m } b r o ov := by
    refine ⟨K.kb, K.kr, K.ko, by rw [upd_ne (A.ne K.kb K.ko (by simp))]; exact K.pt, K.mr.keep (upd_ne (A.ne K.kr K.ko (by simp))), M, K.ur, u, ?_⟩
    rcases K.ow with q | ⟨w, a, q1, q2, q3, q4⟩
    · exact .inl q
    · exact .inr ⟨w, a, q1, q2, q3, by rw [upd_ne (A.ne q3 K.ko (by simp))]; exact q4⟩
  exact ⟨A.setKnU hy (.inr (.inr (.inr rfl))) K.ko K', K'⟩

/-- No own way any more. -/
theorem DualAt.setOwn0 (A : DualAt h L x s) {p : PK} {y : Kn} (hy : getM s.px p = some y) {b r o : Nat} {ov : Value} (K : KnAt h L p y b r o ov) :
    DQ h L x (setK s p { y with own := none }) (h.upd b (.cells (kcells p { y with own := none } (.pointer none) r o) T_known (0, 0))) L :=
  A.setKnU hy (.inl rfl) K.kb ⟨K.kb, K.kr, K.ko, upd_same, K.mr.keep (upd_ne (A.ne K.kr K.kb (by simp))), K.mo.keep (upd_ne (A.ne K.ko K.kb (by simp))), K.ur, K.uo, .inl ⟨rfl, rfl⟩⟩

def RM.set (L : RM) (r : Rl) (b : Option Nat) : RM := fun r' => if r' = r then b else L r'
theorem RM.set_same {L : RM} {r : Rl} {b : Option Nat} : (L.set r b) r = b := by unfold RM.set; rw [if_pos rfl]
theorem RM.set_ne {L : RM} {r r' : Rl} {b : Option Nat} (n : r' ≠ r) : (L.set r b) r' = L r' := by unfold RM.set; rw [if_neg n]
theorem RM.inj_set (inj : ∀ r1 r2 b, L r1 = some b → L r2 = some b → r1 = r2) {r : Rl} {b : Option Nat} (n : ∀ r' c, L r' = some c → r' ≠ r → b ≠ some c) : ∀ r1 r2 c, (L.set r b) r1 = some c → (L.set r b) r2 = some c → r1 = r2 := by
  intro r1 r2 c q1 q2
  unfold RM.set at q1 q2
  by_cases c1 : r1 = r <;> by_cases c2 : r2 = r
  · rw [c1, c2]
  · rw [if_pos c1] at q1; rw [if_neg c2] at q2; exact absurd q1 (n r2 c q2 c2)
  · rw [if_neg c1] at q1; rw [if_pos c2] at q2; exact absurd q2 (n r1 c q1 c1)
  · rw [if_neg c1] at q1; rw [if_neg c2] at q2; exact inj _ _ _ q1 q2

/-- A new own way, in a new block. -/
theorem DualAt.setOwn (A : DualAt h L x s) {p : PK} {y : Kn} (hy : getM s.px p = some y) {b r o : Nat} {ov : Value} (K : KnAt h L p y b r o ov) {a : Nat} (w : Wy) (ha : h a = none) :
    DQ h L x (setK s p { y with own := some w }) ((h.upd a (.cells w.cells T_way (0, 0))).upd b (.cells (kcells p { y with own := some w } (ptrV a) r o) T_known (0, 0))) (L.set (.ow p) (some a)) := by
  have na : ∀ r, L r ≠ some a := A.out_ ha
  have nab : b ≠ a := by rintro rfl; exact na _ K.kb
  have inj := RM.inj_set (r := .ow p) (b := some a) A.inj (fun r' c q _ e => by cases e; exact na _ q)
  have e : ∀ r' c, r' ≠ .kn p → L r' = some c → (∃ ob, h c = some ob) → ((h.upd a (.cells w.cells T_way (0, 0))).upd b (.cells (kcells p { y with own := some w } (ptrV a) r o) T_known (0, 0))) c = h c := fun r' c q e _ => by
    rw [upd_ne (A.ne e K.kb q), upd_ne (by rintro rfl; exact na _ e)]
  refine ⟨A.setKn hy (b := b) (r := r) (o := o) (ov := ptrV a) ⟨(RM.set_ne (by simp)).trans K.kb, (RM.set_ne (by simp)).trans K.kr, (RM.set_ne (by simp)).trans K.ko, upd_same, K.mr.keep (e _ _ (by simp) K.kr K.mr.alive), K.mo.keep (e _ _ (by simp) K.ko K.mo.alive), K.ur, K.uo, .inr ⟨w, a, rfl, rfl, RM.set_same, by rw [upd_ne (Ne.symm nab)]; exact upd_same⟩⟩
    (fun r q => RM.set_ne (by rintro rfl; exact q (.inr (.inl rfl)))) (RM.set_ne (by simp)) (fun r' c ob q e1 e2 => by rw [e r' c (by rintro rfl; exact q (.inl rfl)) e1 ⟨_, e2⟩]; exact e2) inj (fun r' c q => ?_), ⟨fun z ob e1 n => ?_, fun r' c q => ?_, fun p2 b2 q => (RM.set_ne (by simp)).trans q⟩⟩
  · unfold RM.set at q
    split at q
    · cases q; exact ⟨_, by rw [upd_ne (Ne.symm nab)]; exact upd_same⟩
    · by_cases c2 : c = b
      · subst c2; exact ⟨_, upd_same⟩
      · rw [upd_ne c2, upd_ne (by rintro rfl; exact na _ q)]; exact A.al r' c q
  · rw [upd_ne (by rintro rfl; exact n _ K.kb), upd_ne (by rintro rfl; rw [ha] at e1; cases e1)]; exact e1
  · unfold RM.set at q
    split at q
    · cases q; exact .inr ha
    · exact .inl ⟨r', q⟩

/-- A link is written. -/
theorem DualAt.setLk (A : DualAt h L x s) {k : Int} {l l' : Ln} (hk : getM s.lk k = some l) {b : Nat} (hb : L (.li k) = some b) : DQ h L x { s with lk := setM k l' s.lk } (h.upd b (.cells l'.cells T_link (0, 0))) L := by
  have hh : ∀ r c o, r ≠ .li k → L r = some c → h c = some o → (h.upd b (.cells l'.cells T_link (0, 0))) c = some o := fun r c o n e e2 => by rw [upd_ne (A.ne e hb n)]; exact e2
  have e : ∀ r c, r ≠ .li k → L r = some c → (h.upd b (.cells l'.cells T_link (0, 0))) c = h c := fun r c n e => upd_ne (A.ne e hb n)
  obtain ⟨v, p1, p2, p3⟩ := A.pt
  refine ⟨⟨A.inj, fun r c q => ?_, A.t0, A.t1, A.t2, ⟨v, hh _ _ _ (by simp) A.t0 p1, p2.keep (fun c o q e2 => hh _ _ _ (by simp) (p3.trans q) e2), p3⟩, ?_, A.mp.keep (e _ _ (by simp) A.t2), A.ul.set, A.up, fun k2 l2 q => ?_, fun p y q => ?_, A.kz⟩, .upd hb⟩
  · by_cases c2 : c = b
    · subst c2; exact ⟨_, upd_same⟩
    · rw [upd_ne c2]; exact A.al r c q
  · show MapB _ x.lm kvalL ptrV ((setM k l' s.lk).map fun e => (e.1, (L (.li e.1)).getD 0))
    rw [map_setM (f := fun q => (L (.li q)).getD 0) (by rw [hk]; rfl)]
    exact A.ml.keep (e _ _ (by simp) A.t1)
  · simp only [getM_setM] at q
    by_cases c : k2 = k
    · rw [if_pos c] at q; cases q; subst c; exact ⟨b, hb, upd_same⟩
    · rw [if_neg c] at q
      obtain ⟨b2, q1, q2⟩ := A.li k2 l2 q
      exact ⟨b2, q1, hh _ _ _ (by simp [c]) q1 q2⟩
  · obtain ⟨b2, r2, o2, ov2, K2⟩ := A.kn p y q
    exact ⟨b2, r2, o2, ov2, K2.keep (fun _ _ => rfl) (fun r c o q => hh r c o (by rintro rfl; simp [Rl.Of] at q))⟩

/-- Other letters are to be sent: perhaps in a new block. -/
theorem DualAt.setOut (A : DualAt h L x s) {v v' : Value} {l : List Lt} (hh : ∀ r c o, r ≠ .ou → L r = some c → h c = some o → h1 c = some o) (al : ∀ c, blkOf v' = some c → (∀ r, r ≠ .ou → L r ≠ some c)) (S : SlAt h1 T_letter 10 Lt.enc v' l)
    (hne : ∀ c, blkOf v' = some c → c ≠ x.p) :
    DualAt (h1.upd x.p (.cells (dcells x s v') T_dual (0, 0))) (L.set .ou (blkOf v')) x { s with out := l } := by
  have inj := RM.inj_set (r := .ou) (b := blkOf v') A.inj (fun r' c q n e => al c e r' n q)
  have hh' : ∀ r c o, r ≠ .ou → r ≠ .top → L r = some c → h c = some o → (h1.upd x.p (.cells (dcells x s v') T_dual (0, 0))) c = some o := fun r c o n n2 e e2 => by
    rw [upd_ne (A.ne e A.t0 n2)]; exact hh r c o n e e2
  have e : ∀ r c, r ≠ .ou → r ≠ .top → L r = some c → (∃ o, h c = some o) → (h1.upd x.p (.cells (dcells x s v') T_dual (0, 0))) c = h c := fun r c n n2 e ⟨o, ho⟩ => by rw [hh' r c o n n2 e ho, ho]
  refine ⟨inj, fun r c q => ?_, (RM.set_ne (by simp)).trans A.t0, (RM.set_ne (by simp)).trans A.t1, (RM.set_ne (by simp)).trans A.t2, ⟨v', upd_same, S.keep (fun c o q e2 => by rw [upd_ne (hne c q)]; exact e2), RM.set_same⟩, ?_, ?_, A.ul, A.up, fun k l q => ?_, fun p y q => ?_, fun p q => (RM.set_ne (by simp)).trans (A.kz p q)⟩
  · unfold RM.set at q
    split at q
    · obtain ⟨o, ho⟩ := S.alive q
      exact ⟨o, by rw [upd_ne (hne c q)]; exact ho⟩
    · rename_i n
      by_cases c2 : c = x.p
      · subst c2; exact ⟨_, upd_same⟩
      · obtain ⟨o, ho⟩ := A.al r c q
        exact ⟨o, by rw [upd_ne c2]; exact hh r c o n q ho⟩
  · have : (s.lk.map fun e => (e.1, ((L.set .ou (blkOf v')) (.li e.1)).getD 0)) = s.lk.map fun e => (e.1, (L (.li e.1)).getD 0) := List.map_congr_left fun e _ => by rw [RM.set_ne (by simp)]
    show MapB _ x.lm kvalL ptrV (s.lk.map fun e => (e.1, ((L.set .ou (blkOf v')) (.li e.1)).getD 0))
    rw [this]
    exact A.ml.keep (e _ _ (by simp) (by simp) A.t1 A.ml.alive)
  · have : (s.px.map fun e => (e.1, ((L.set .ou (blkOf v')) (.kn e.1)).getD 0)) = s.px.map fun e => (e.1, (L (.kn e.1)).getD 0) := List.map_congr_left fun e _ => by rw [RM.set_ne (by simp)]
    show MapB _ x.pm kvalP ptrV (s.px.map fun e => (e.1, ((L.set .ou (blkOf v')) (.kn e.1)).getD 0))
    rw [this]
    exact A.mp.keep (e _ _ (by simp) (by simp) A.t2 A.mp.alive)
  · obtain ⟨b, q1, q2⟩ := A.li k l q
    exact ⟨b, (RM.set_ne (by simp)).trans q1, hh' _ _ _ (by simp) (by simp) q1 q2⟩
  · obtain ⟨b2, r2, o2, ov2, K2⟩ := A.kn p y q
    exact ⟨b2, r2, o2, ov2, K2.keep (fun r q => RM.set_ne (by rintro rfl; simp [Rl.Of] at q)) (fun r c o q => hh' r c o (by rintro rfl; simp [Rl.Of] at q) (by rintro rfl; simp [Rl.Of] at q))⟩
theorem DualAt.grow (A : DualAt h L x s) {v v' : Value} {l : List Lt} (pt : h x.p = some (.cells (dcells x s v) T_dual (0, 0))) (eL : L .ou = blkOf v) (G : Grew h h1 v v') (S : SlAt h1 T_letter 10 Lt.enc v' l) :
    DQ h L x { s with out := l } (h1.upd x.p (.cells (dcells x s v') T_dual (0, 0))) (L.set .ou (blkOf v')) := by
  have al : ∀ c, blkOf v' = some c → (∀ r, r ≠ .ou → L r ≠ some c) := fun c e r n q => by
    rcases G.fresh with g | g
    · exact n (A.inj _ _ _ q (by rw [eL, ← g]; exact e))
    · exact A.out_ (g c e) r q
  have kp : ∀ y o, h y = some o → L .ou ≠ some y → h1 y = some o := fun y o e n => G.keep y o e (fun q => n (by rw [eL, ← q]))
  refine ⟨A.setOut (v := v) (fun r c o n e e2 => kp c o e2 (fun q => n (A.inj _ _ _ e q))) al S (fun c e q => al c e .top (by simp) (by rw [q]; exact A.t0)), ⟨fun y o e n => ?_, fun r y q => ?_, fun p b q => (RM.set_ne (by simp)).trans q⟩⟩
  · rw [upd_ne (by rintro rfl; exact n _ A.t0)]; exact kp y o e (n _)
  · unfold RM.set at q
    split at q
    · rcases G.fresh with g | g
      · exact .inl ⟨.ou, by rw [eL, ← g]; exact q⟩
      · exact .inr (g y q)
    · exact .inl ⟨r, q⟩
theorem DualAt.known (A : DualAt h L x s) {p : PK} {y : Kn} (hy : getM s.px p = some y) {b : Nat} (hb : L (.kn p) = some b) : ∃ r o ov, KnAt h L p y b r o ov := by
  obtain ⟨b', r, o, ov, K⟩ := A.kn p y hy
  have : b' = b := by have := K.kb; rw [hb] at this; cases this; rfl
  subst this
  exact ⟨r, o, ov, K⟩
theorem DualAt.knB (A : DualAt h L x s) {p : PK} {y : Kn} (hy : getM s.px p = some y) : ∃ b, L (.kn p) = some b := by
  obtain ⟨b', r, o, ov, K⟩ := A.kn p y hy
  exact ⟨b', K.kb⟩
theorem setM_self {α β : Type} [DecidableEq α] {a : α} {v : β} : ∀ {m : List (α × β)}, getM m a = some v → setM a v m = m
  | [], h => by cases h
  | y :: ys, h => by
    rw [getM_cons] at h
    simp only [setM]
    by_cases q : a = y.1
    · rw [if_pos q] at h ⊢; cases h; rw [q]
    · rw [if_neg q] at h ⊢; rw [setM_self h]
theorem setK_self {p : PK} {y : Kn} (hy : getM s.px p = some y) : setK s p y = s := by unfold setK; rw [setM_self hy]
theorem setK_get {p : PK} {y : Kn} : getM (setK s p y).px p = some y := by unfold setK; simp [getM_setM]
theorem setM_setM {α β : Type} [DecidableEq α] {a : α} {v w : β} : ∀ {m : List (α × β)}, setM a v (setM a w m) = setM a v m
  | [] => by simp [setM]
  | y :: ys => by
    simp only [setM]
    by_cases q : a = y.1
    · rw [if_pos q, if_pos q]; simp [setM]
    · rw [if_neg q, if_neg q]; simp only [setM]; rw [if_neg q, setM_setM]
theorem setK_setK {p : PK} {y z : Kn} : setK (setK s p y) p z = setK s p z := by unfold setK; simp [setM_setM]

/-- A new prefix. -/
theorem DualAt.addKn (A : DualAt h L x s) {p : PK} (hy : getM s.px p = none) {y : Kn} (h0 : y.own = none) {b r o : Nat} {ob : Obj} (l : Le h h1) (nb : h b = none) (nr : h r = none) (no : h o = none) (nbr : b ≠ r) (nbo : b ≠ o) (nro : r ≠ o)
    (fb : h1 b = some (.cells (kcells p y (.pointer none) r o) T_known (0, 0))) (fr : MapB h1 r kvalL Wy.val y.rep) (fo : MapB h1 o kvalL u32V y.opn) (ur : Uniq y.rep) (uo : Uniq y.opn)
    (M : MapB (h1.upd x.pm ob) x.pm kvalP ptrV (setM p b (s.px.map fun e => (e.1, (L (.kn e.1)).getD 0)))) :
    DQ h L x (setK s p y) (h1.upd x.pm ob) (((L.set (.kn p) (some b)).set (.re p) (some r)).set (.op p) (some o)) := by
  have N : ∀ {c : Nat}, h c = none → ∀ r, L r ≠ some c := fun e => A.out_ e
  have S : ∀ q, q ≠ .kn p → q ≠ .re p → q ≠ .op p → (((L.set (.kn p) (some b)).set (.re p) (some r)).set (.op p) (some o)) q = L q := fun q a b c => by rw [RM.set_ne c, RM.set_ne b, RM.set_ne a]
  have Sb : (((L.set (.kn p) (some b)).set (.re p) (some r)).set (.op p) (some o)) (.kn p) = some b := by rw [RM.set_ne (by simp), RM.set_ne (by simp), RM.set_same]
  have Sr : (((L.set (.kn p) (some b)).set (.re p) (some r)).set (.op p) (some o)) (.re p) = some r := by rw [RM.set_ne (by simp), RM.set_same]
  have So : (((L.set (.kn p) (some b)).set (.re p) (some r)).set (.op p) (some o)) (.op p) = some o := RM.set_same
  have inj1 := RM.inj_set (r := .kn p) (b := some b) A.inj (fun r' c q _ e => by cases e; exact N nb _ q)
  have inj2 := RM.inj_set (r := .re p) (b := some r) inj1 (fun r' c q n e => by
    cases e; unfold RM.set at q; split at q
    · cases q; exact nbr rfl
    · exact N nr _ q)
  have inj3 := RM.inj_set (r := .op p) (b := some o) inj2 (fun r' c q n e => by
    cases e; unfold RM.set at q; split at q
    · cases q; exact nro rfl
    · split at q
      · cases q; exact nbo rfl
      · exact N no _ q)
  have hh : ∀ r' c ob', r' ≠ .pm → L r' = some c → h c = some ob' → (h1.upd x.pm ob) c = some ob' := fun r' c ob' n e e2 => by rw [upd_ne (A.ne e A.t2 n)]; exact l _ _ e2
  have e : ∀ r' c, r' ≠ .pm → L r' = some c → (∃ o, h c = some o) → (h1.upd x.pm ob) c = h c := fun r' c n e ⟨o, ho⟩ => by rw [hh r' c o n e ho, ho]
  have pmb : x.pm ≠ b := fun q => N nb _ (by rw [← q]; exact A.t2)
  have pmr : x.pm ≠ r := fun q => N nr _ (by rw [← q]; exact A.t2)
  have pmo : x.pm ≠ o := fun q => N no _ (by rw [← q]; exact A.t2)
  obtain ⟨v, p1, p2, p3⟩ := A.pt
  have hc : ∀ r' c, (((L.set (.kn p) (some b)).set (.re p) (some r)).set (.op p) (some o)) r' = some c → (c = b ∨ c = r ∨ c = o) ∨ L r' = some c := fun r' c q => by
    unfold RM.set at q
    split at q
    · cases q; exact .inl (.inr (.inr rfl))
    · split at q
      · cases q; exact .inl (.inr (.inl rfl))
      · split at q
        · cases q; exact .inl (.inl rfl)
        · exact .inr q
  refine ⟨⟨inj3, fun r' c q => ?_, (S _ (by simp) (by simp) (by simp)).trans A.t0, (S _ (by simp) (by simp) (by simp)).trans A.t1, (S _ (by simp) (by simp) (by simp)).trans A.t2,
    ⟨v, hh _ _ _ (by simp) A.t0 p1, p2.keep (fun c o q e2 => hh _ _ _ (by simp) (p3.trans q) e2), (S _ (by simp) (by simp) (by simp)).trans p3⟩, ?_, ?_, A.ul, A.up.set, fun k l q => ?_, fun p2 y2 q => ?_, fun p2 q => ?_⟩, ⟨fun z ob' e1 n => ?_, fun r' c q => ?_, fun p2 b2 q => ?_⟩⟩
  · rcases hc r' c q with (rfl | rfl | rfl) | q
    · exact ⟨_, by rw [upd_ne (Ne.symm pmb)]; exact fb⟩
    · obtain ⟨ob2, e2⟩ := fr.alive; exact ⟨_, by rw [upd_ne (Ne.symm pmr)]; exact e2⟩
    · obtain ⟨ob2, e2⟩ := fo.alive; exact ⟨_, by rw [upd_ne (Ne.symm pmo)]; exact e2⟩
    · by_cases c2 : c = x.pm
      · subst c2; exact ⟨_, upd_same⟩
      · obtain ⟨ob2, e2⟩ := A.al r' c q
        exact ⟨_, by rw [upd_ne c2]; exact l _ _ e2⟩
  · have : (s.lk.map fun e => (e.1, ((((L.set (.kn p) (some b)).set (.re p) (some r)).set (.op p) (some o)) (.li e.1)).getD 0)) = s.lk.map fun e => (e.1, (L (.li e.1)).getD 0) := List.map_congr_left fun e _ => by rw [S _ (by simp) (by simp) (by simp)]
    show MapB _ x.lm kvalL ptrV (s.lk.map fun e => (e.1, ((((L.set (.kn p) (some b)).set (.re p) (some r)).set (.op p) (some o)) (.li e.1)).getD 0))
    rw [this]
    exact A.ml.keep (e _ _ (by simp) A.t1 A.ml.alive)
  · show MapB _ x.pm kvalP ptrV ((setM p y s.px).map fun e => (e.1, ((((L.set (.kn p) (some b)).set (.re p) (some r)).set (.op p) (some o)) (.kn e.1)).getD 0))
    have := map_setM_new (f := fun q => (L (.kn q)).getD 0) (f' := fun q => ((((L.set (.kn p) (some b)).set (.re p) (some r)).set (.op p) (some o)) (.kn q)).getD 0) (a := p) (v := y) (fun q n => by
      show ((((L.set (.kn p) (some b)).set (.re p) (some r)).set (.op p) (some o)) (.kn q)).getD 0 = _
      rw [S _ (by simp [n]) (by simp) (by simp)]) hy
    rw [this]
    simp only [Sb, Option.getD_some]
    exact M
  · obtain ⟨b2, q1, q2⟩ := A.li k l q
    exact ⟨b2, (S _ (by simp) (by simp) (by simp)).trans q1, hh _ _ _ (by simp) q1 q2⟩
  · unfold setK at q
    simp only [getM_setM] at q
    by_cases c : p2 = p
    · rw [if_pos c] at q; cases q; subst c
      exact ⟨b, r, o, .pointer none, Sb, Sr, So, by rw [upd_ne (Ne.symm pmb)]; exact fb, fr.keep (upd_ne (Ne.symm pmr)), fo.keep (upd_ne (Ne.symm pmo)), ur, uo, .inl ⟨h0, rfl⟩⟩
    · rw [if_neg c] at q
      obtain ⟨b2, r2, o2, ov2, K2⟩ := A.kn p2 y2 q
      refine ⟨b2, r2, o2, ov2, K2.keep (fun r q => ?_) (fun r c o q => hh r c o (by rintro rfl; simp [Rl.Of] at q))⟩
      rcases q with rfl | rfl | rfl | rfl
      · exact S _ (by simp [c]) (by simp) (by simp)
      · exact S _ (by simp) (by simp) (by simp)
      · exact S _ (by simp) (by simp [c]) (by simp)
      · exact S _ (by simp) (by simp) (by simp [c])
  · unfold setK at q
    simp only [getM_setM] at q
    by_cases c : p2 = p
    · rw [if_pos c] at q; cases q
    · rw [if_neg c] at q
      rw [S _ (by simp [c]) (by simp) (by simp)]; exact A.kz p2 q
  · rw [upd_ne (by rintro rfl; exact n _ A.t2)]; exact l _ _ e1
  · rcases hc r' c q with (rfl | rfl | rfl) | q
    · exact .inr nb
    · exact .inr nr
    · exact .inr no
    · exact .inl ⟨r', q⟩
  · have : p2 ≠ p := by rintro rfl; rw [A.kz _ hy] at q; cases q
    rw [S _ (by simp [this]) (by simp) (by simp)]; exact q

/-- A link comes. -/
theorem DualAt.addLk (A : DualAt h L x s) {k : Int} (hk : getM s.lk k = none) {l' : Ln} {b : Nat} {ob : Obj} (l : Le h h1) (nb : h b = none) (fb : h1 b = some (.cells l'.cells T_link (0, 0)))
    (M : MapB (h1.upd x.lm ob) x.lm kvalL ptrV (setM k b (s.lk.map fun e => (e.1, (L (.li e.1)).getD 0)))) :
    DQ h L x { s with lk := setM k l' s.lk } (h1.upd x.lm ob) (L.set (.li k) (some b)) := by
  have N : ∀ r, L r ≠ some b := A.out_ nb
  have inj := RM.inj_set (r := .li k) (b := some b) A.inj (fun r' c q _ e => by cases e; exact N _ q)
  have hh : ∀ r' c ob', r' ≠ .lm → L r' = some c → h c = some ob' → (h1.upd x.lm ob) c = some ob' := fun r' c ob' n e e2 => by rw [upd_ne (A.ne e A.t1 n)]; exact l _ _ e2
  have e : ∀ r' c, r' ≠ .lm → L r' = some c → (∃ o, h c = some o) → (h1.upd x.lm ob) c = h c := fun r' c n e ⟨o, ho⟩ => by rw [hh r' c o n e ho, ho]
  have lmb : x.lm ≠ b := fun q => N _ (by rw [← q]; exact A.t1)
  obtain ⟨v, p1, p2, p3⟩ := A.pt
  refine ⟨⟨inj, fun r' c q => ?_, (RM.set_ne (by simp)).trans A.t0, (RM.set_ne (by simp)).trans A.t1, (RM.set_ne (by simp)).trans A.t2,
    ⟨v, hh _ _ _ (by simp) A.t0 p1, p2.keep (fun c o q e2 => hh _ _ _ (by simp) (p3.trans q) e2), (RM.set_ne (by simp)).trans p3⟩, ?_, ?_, A.ul.set, A.up, fun k2 l2 q => ?_, fun p2 y2 q => ?_, fun p2 q => (RM.set_ne (by simp)).trans (A.kz p2 q)⟩, ⟨fun z ob' e1 n => ?_, fun r' c q => ?_, fun p2 b2 q => (RM.set_ne (by simp)).trans q⟩⟩
  · unfold RM.set at q
    split at q
    · cases q; exact ⟨_, by rw [upd_ne (Ne.symm lmb)]; exact fb⟩
    · by_cases c2 : c = x.lm
      · subst c2; exact ⟨_, upd_same⟩
      · obtain ⟨ob2, e2⟩ := A.al r' c q
        exact ⟨_, by rw [upd_ne c2]; exact l _ _ e2⟩
  · show MapB _ x.lm kvalL ptrV ((setM k l' s.lk).map fun e => (e.1, ((L.set (.li k) (some b)) (.li e.1)).getD 0))
    have := map_setM_new (f := fun q => (L (.li q)).getD 0) (f' := fun q => ((L.set (.li k) (some b)) (.li q)).getD 0) (a := k) (v := l') (fun q n => by
      show ((L.set (.li k) (some b)) (.li q)).getD 0 = _
      rw [RM.set_ne (by simp [n])]) hk
    rw [this]
    simp only [RM.set_same, Option.getD_some]
    exact M
  · have : (s.px.map fun e => (e.1, ((L.set (.li k) (some b)) (.kn e.1)).getD 0)) = s.px.map fun e => (e.1, (L (.kn e.1)).getD 0) := List.map_congr_left fun e _ => by rw [RM.set_ne (by simp)]
    show MapB _ x.pm kvalP ptrV (s.px.map fun e => (e.1, ((L.set (.li k) (some b)) (.kn e.1)).getD 0))
    rw [this]
    exact A.mp.keep (e _ _ (by simp) A.t2 A.mp.alive)
  · simp only [getM_setM] at q
    by_cases c : k2 = k
    · rw [if_pos c] at q; cases q; subst c; exact ⟨b, RM.set_same, by rw [upd_ne (Ne.symm lmb)]; exact fb⟩
    · rw [if_neg c] at q
      obtain ⟨b2, q1, q2⟩ := A.li k2 l2 q
      exact ⟨b2, (RM.set_ne (by simp [c])).trans q1, hh _ _ _ (by simp) q1 q2⟩
  · obtain ⟨b2, r2, o2, ov2, K2⟩ := A.kn p2 y2 q
    exact ⟨b2, r2, o2, ov2, K2.keep (fun r q => RM.set_ne (by rintro rfl; simp [Rl.Of] at q)) (fun r c o q => hh r c o (by rintro rfl; simp [Rl.Of] at q))⟩
  · rw [upd_ne (by rintro rfl; exact n _ A.t1)]; exact l _ _ e1
  · unfold RM.set at q
    split at q
    · cases q; exact .inr nb
    · exact .inl ⟨r', q⟩

/-- A link goes. -/
theorem DualAt.delLk (A : DualAt h L x s) {k : Int} {ob : Obj} (M : MapB (h.upd x.lm ob) x.lm kvalL ptrV (delM k (s.lk.map fun e => (e.1, (L (.li e.1)).getD 0)))) :
    DQ h L x { s with lk := delM k s.lk } (h.upd x.lm ob) L := by
  have hh : ∀ r' c ob', r' ≠ .lm → L r' = some c → h c = some ob' → (h.upd x.lm ob) c = some ob' := fun r' c ob' n e e2 => by rw [upd_ne (A.ne e A.t1 n)]; exact e2
  obtain ⟨v, p1, p2, p3⟩ := A.pt
  refine ⟨⟨A.inj, fun r' c q => ?_, A.t0, A.t1, A.t2, ⟨v, hh _ _ _ (by simp) A.t0 p1, p2.keep (fun c o q e2 => hh _ _ _ (by simp) (p3.trans q) e2), p3⟩, ?_, A.mp.keep (upd_ne (A.ne A.t2 A.t1 (by simp))), A.ul.del, A.up, fun k2 l2 q => ?_, fun p2 y2 q => ?_, A.kz⟩, .upd A.t1⟩
  · by_cases c2 : c = x.lm
    · subst c2; exact ⟨_, upd_same⟩
    · rw [upd_ne c2]; exact A.al r' c q
  · show MapB _ x.lm kvalL ptrV ((delM k s.lk).map fun e => (e.1, (L (.li e.1)).getD 0))
    rw [map_delM (f := fun q => (L (.li q)).getD 0)]
    exact M
  · rw [getM_delM A.ul] at q
    by_cases c : k2 = k
    · rw [if_pos c] at q; cases q
    · rw [if_neg c] at q
      obtain ⟨b2, q1, q2⟩ := A.li k2 l2 q
      exact ⟨b2, q1, hh _ _ _ (by simp) q1 q2⟩
  · obtain ⟨b2, r2, o2, ov2, K2⟩ := A.kn p2 y2 q
    exact ⟨b2, r2, o2, ov2, K2.keep (fun _ _ => rfl) (fun r c o q => hh r c o (by rintro rfl; simp [Rl.Of] at q))⟩
end
end Go.Proofs.Ytpeoholnlokdcaa

/- DUAL: what its calls do, in words; New, ahead, close, take, send, Len, Least. -/
namespace Go.Proofs.Ytpeoholnlokdcaa
open Go
set_option linter.unusedSimpArgs false
set_option linter.unusedVariables false

def insI (k : Int) : List Int → List Int
  | [] => [k]
  | y :: ys => if k ≤ y then k :: y :: ys else y :: insI k ys
def srtI (l : List Int) : List Int := l.foldr insI []
def nbrs (m : List (Int × Ln)) : List Int := srtI (m.map (·.1))
def insP (k : PK) : List PK → List PK
  | [] => [k]
  | y :: ys => if plt k y then k :: y :: ys else y :: insP k ys
def pfx (m : List (PK × Kn)) : List PK := (m.map (·.1)).foldr insP []

def aheadW (w x : Wy) : Bool := betterV w.v x.v || (!betterV x.v w.v && decide (w.nx < x.nx))
def inc32 (n : Nat) : Nat := (n + 1) % 4294967296
def seqS (m : List (Int × Ln)) (k : Int) : Nat := match getM m k with | some l => inc32 l.sent | none => 0
def sendS (s : DS) (k code : Int) (ack : Nat) (p : PK) (w : Wy) : DS :=
  match getM s.lk k with
  | some l => { s with lk := setM k { l with sent := inc32 l.sent } s.lk, out := s.out ++ [⟨k, code, inc32 l.sent, ack, p, w.v, w.tg⟩] }
  | none => s
def candW (l : Ln) (r : Wy) (k : Int) : Wy := ⟨joinV r.v l.v, r.tg, k⟩
def takeW (acc : Option Wy) (w : Wy) : Option Wy := if reachV w.v && (match acc with | some b => aheadW w b | none => true) then some w else acc
def bstep (m : List (Int × Ln)) (y : Kn) (below : Int) (acc : Option Wy) (k : Int) : Option Wy :=
  match getM m k, getM y.rep k with
  | some l, some r => if below ≤ ofV r.v then acc else takeW acc (candW l r k)
  | _, _ => acc
def bestS (m : List (Int × Ln)) (y : Kn) (below : Int) : Option Wy := (nbrs m).foldl (bstep m y below) y.own
def closeK (y : Kn) (k : Int) : Kn := match getM y.opn k with
  | some _ => { y with opn := delM k y.opn, least := if delM k y.opn = [] then ofV y.told.v else y.least }
  | none => y
def askS (p : PK) (w : Wy) (code : Int) (s : DS) (k : Int) : DS :=
  if code = 2 then match getM s.px p with
    | some y => setK (sendS s k code 0 p w) p { y with opn := setM k (seqS s.lk k) y.opn }
    | none => s
  else sendS s k code 0 p w
def wayS (m : List (Int × Ln)) (y : Kn) : Wy := { (bestS m y 4294967295).getD Wy.zero with nx := 0 }
def codeS (y : Kn) (w : Wy) : Int := if ofV y.told.v < ofV w.v then 2 else 1
def leastS (s : DS) (p : PK) (code now : Int) : DS := match getM s.px p with
  | some y => if s.lk = [] then setK s p { y with least := now } else if code = 1 then setK s p { y with least := min y.least now } else s
  | none => s
def settleS (s : DS) (p : PK) : DS := match getM s.px p with
  | some y =>
    if y.opn ≠ [] ∨ wayS s.lk y = y.told then s
    else leastS ((nbrs s.lk).foldl (askS p (wayS s.lk y) (codeS y (wayS s.lk y))) (setK s p { y with told := wayS s.lk y })) p (codeS y (wayS s.lk y)) (ofV (wayS s.lk y).v)
  | none => s
def outS (s : DS) : DS := { s with out := [] }
def kn0 : Kn := ⟨none, [], Wy.zero, 4294967295, []⟩
def addS (s : DS) (p : PK) : DS := match getM s.px p with
  | some _ => s
  | none => if (s.px.length : Int) < s.most then setK s p kn0 else s
def hasS (s : DS) (p : PK) : Bool := (getM s.px p).isSome

def upOne (k : Int) (s : DS) (p : PK) : DS := match getM s.px p with
  | some y => if reachV y.told.v then sendS s k 1 0 p y.told else s
  | none => s
def upOk (s : DS) (k : Int) (v : Vec) : Bool := decide (1 ≤ k) && decide (k ≤ 32) && (getM s.lk k).isNone && mayV v
def upS (s : DS) (k : Int) (v : Vec) : DS := (pfx s.px).foldl (upOne k) { s with lk := setM k ⟨v, 0, 0⟩ s.lk }
def downOne (k : Int) (s : DS) (p : PK) : DS := match getM s.px p with
  | some y => settleS (setK s p (closeK { y with rep := delM k y.rep } k)) p
  | none => s
def downS (s : DS) (k : Int) : DS := (pfx s.px).foldl (downOne k) { s with lk := delM k s.lk }
def ownErr (s : DS) (p : PK) (v : Vec) (tg : Nat) : Int :=
  if mayB p.1 p.2 = false ∨ reachV v = false then 1 else if hasT tg s.dom then 6 else if hasS (addS s p) p then 0 else 4
def ownS (s : DS) (p : PK) (v : Vec) (tg : Nat) : DS :=
  if ownErr s p v tg = 0 then match getM (addS s p).px p with
    | some y => settleS (setK (addS s p) p { y with own := some ⟨v, tg, 0⟩ }) p
    | none => s
  else s
def dropErr (s : DS) (p : PK) : Int := match getM s.px p with
  | some y => if y.own = none then 5 else 0
  | none => 5
def dropS (s : DS) (p : PK) : DS := match getM s.px p with
  | some y => if y.own = none then s else settleS (setK s p { y with own := none }) p
  | none => s
def repFine (s : DS) (v : Vec) (tg : Nat) : Bool := reachV v && !hasT tg s.dom
def repS (s : DS) (k : Int) (p : PK) (v : Vec) (tg : Nat) : DS :=
  if repFine s v tg then match getM (addS s p).px p with
    | some y => setK (addS s p) p { y with rep := setM k ⟨v, tg, 0⟩ y.rep }
    | none => addS s p
  else match getM s.px p with
    | some y => setK s p { y with rep := delM k y.rep }
    | none => s
def repErr (s : DS) (p : PK) (v : Vec) (tg : Nat) : Int :=
  if hasT tg s.dom then 6 else if reachV v && !hasS (addS s p) p then 4 else 0
def hearErr (s : DS) (k : Int) (l : Lt) : Int := match getM s.lk k with
  | some f => if l.code < 1 ∨ 3 < l.code ∨ mayB l.p.1 l.p.2 = false then 1 else if l.seq ≤ f.got then 5 else repErr s l.p l.v l.tg
  | none => 1
def gotS (s : DS) (k : Int) (n : Nat) : DS := match getM s.lk k with
  | some f => { s with lk := setM k { f with got := n } s.lk }
  | none => s
def toldOf (s : DS) (p : PK) : Wy := match getM s.px p with | some y => y.told | none => Wy.zero
def replyS (s : DS) (k : Int) (l : Lt) : DS := if l.code = 2 then sendS s k 3 l.seq l.p (toldOf s l.p) else s
def endS (s : DS) (k : Int) (l : Lt) : DS := match getM s.px l.p with
  | some y => settleS (if getM y.opn k = some l.ack ∧ l.code = 3 then setK s l.p (closeK y k) else s) l.p
  | none => s
def hearOk (s : DS) (k : Int) (l : Lt) : Bool := match getM s.lk k with
  | some f => decide (1 ≤ l.code) && (decide (l.code ≤ 3) && (mayB l.p.1 l.p.2 && decide (f.got < l.seq)))
  | none => false
def hearS (s : DS) (k : Int) (l : Lt) : DS :=
  if hearOk s k l then endS (replyS (repS (gotS s k l.seq) k l.p l.v l.tg) k l) k l else s

section
variable {h : Hp} {L : RM} {x : DPt} {s : DS} {Q : Value → Hp → Prop}

set_option maxRecDepth 20000 in
theorem mayRefVM {v : Vec} (hQ : ∀ h', Le h h' → Q (.bool (mayV v)) h') : Ok Try.prog F_octroiref04_May #[v.v] h Q := by
  refine octroiref04_May_ok (by simp) ?_
  unfold octroiref04_May_D
  simp (disch := omega) [octroiref04_May_r0]
  intro b hb
  have f1 : (h.upd b (.cells v.cells 23)) b = some (.cells #[.int .i64 v.b, .int .i64 v.d, .int .i64 v.h] 23 (0, 0)) := upd_same
  have hQ' := hQ _ (.new (o := .cells v.cells 23) hb)
  show octroiref04_May_r1 _ (h.upd b (.cells v.cells 23)) _
  generalize h.upd b (.cells v.cells 23) = h1 at *
  unfold mayV at hQ'
  by_cases c1 : 1 ≤ v.b
  · by_cases c2 : v.b ≤ 10000000
    · by_cases c3 : 0 ≤ v.d
      · by_cases c4 : v.d ≤ 16777216
        · by_cases c5 : 0 ≤ v.h
          · simp (disch := omega) [octroiref04_May_r1, f1, c1, c2, c3, c4, c5]
            exact .to _ (.refl _) (by simpa [c1, c2, c3, c4, c5] using hQ')
          · simp (disch := omega) [octroiref04_May_r1, f1, c1, c2, c3, c4, c5]
            exact .to _ (.refl _) (by simpa [c1, c2, c3, c4, c5] using hQ')
        · simp (disch := omega) [octroiref04_May_r1, f1, c1, c2, c3, c4]
          exact .to _ (.refl _) (by simpa [c1, c2, c3, c4] using hQ')
      · simp (disch := omega) [octroiref04_May_r1, f1, c1, c2, c3]
        exact .to _ (.refl _) (by simpa [c1, c2, c3] using hQ')
    · simp (disch := omega) [octroiref04_May_r1, f1, c1, c2]
      exact .to _ (.refl _) (by simpa [c1, c2] using hQ')
  · simp (disch := omega) [octroiref04_May_r1, f1, c1]
    exact .to _ (.refl _) (by simpa [c1] using hQ')
theorem reachRefVM {v : Vec} (hQ : ∀ h', Le h h' → Q (.bool (reachV v)) h') : Ok Try.prog F_octroiref04_Reached #[v.v] h Q := by
  refine octroiref04_Reached_ok (by simp) ?_
  unfold octroiref04_Reached_D
  simp (disch := omega) [octroiref04_Reached_r0]
  intro b hb
  have f1 : (h.upd b (.cells v.cells 23)) b = some (.cells #[.int .i64 v.b, .int .i64 v.d, .int .i64 v.h] 23 (0, 0)) := upd_same
  have l1 : Le h (h.upd b (.cells v.cells 23)) := .new hb
  show octroiref04_Reached_r1 _ (h.upd b (.cells v.cells 23)) _
  generalize h.upd b (.cells v.cells 23) = h1 at *
  simp (disch := omega) [octroiref04_Reached_r1, f1]
  refine mayRefVM (fun h2 l2 => ?_)
  have f2 := l2 _ _ f1
  have hQ' := hQ _ (l1.trans l2)
  unfold reachV at hQ'
  cases c : mayV v with
  | false =>
    rw [c] at hQ'
    simp (disch := omega) [octroiref04_Reached_r2, f2]
    exact .to _ (.refl _) hQ'
  | true =>
    rw [c] at hQ'
    by_cases c1 : v.d < 16777216
    · simp (disch := omega) [octroiref04_Reached_r2, f2, c1]
      exact .to _ (.refl _) (by simpa [c1] using hQ')
    · simp (disch := omega) [octroiref04_Reached_r2, f2, c1]
      exact .to _ (.refl _) (by simpa [c1] using hQ')

set_option maxHeartbeats 1000000 in
theorem aheadM {w y : Wy} (hQ : ∀ h', Le h h' → Q (.bool (aheadW w y)) h') : Ok Try.prog F_dual_way_ahead #[w.val, y.val] h Q := by
  refine dual_way_ahead_ok (by simp) ?_
  unfold dual_way_ahead_D
  simp (disch := omega) [dual_way_ahead_r0]
  intro b2 hb2 b3 hb3
  obtain ⟨n32, hb3'⟩ := upd_none hb3
  show dual_way_ahead_r1 _ ((h.upd b2 (.cells w.cells T_way)).upd b3 (.cells y.cells T_way)) _
  have L1 : Le h ((h.upd b2 (.cells w.cells T_way)).upd b3 (.cells y.cells T_way)) := (Le.new hb2).trans (Le.new hb3)
  have f2 : ((h.upd b2 (.cells w.cells T_way)).upd b3 (.cells y.cells T_way)) b2 = some (.cells w.cells T_way) := by rw [upd_ne (Ne.symm n32), upd_same]
  have f3 : ((h.upd b2 (.cells w.cells T_way)).upd b3 (.cells y.cells T_way)) b3 = some (.cells y.cells T_way) := upd_same
  generalize (h.upd b2 (.cells w.cells T_way)).upd b3 (.cells y.cells T_way) = h1 at *
  unfold aheadW at hQ
  simp (disch := omega) [dual_way_ahead_r1, f2, f3]
  refine betterVM (a := w.v) (b := y.v) (fun h2 l2 => ?_)
  have f22 := l2 _ _ f2
  have f32 := l2 _ _ f3
  cases c1 : betterV w.v y.v with
  | true =>
    have hQ' := hQ _ (L1.trans l2)
    rw [c1] at hQ'
    simp (disch := omega)
    exact .to _ (.refl _) hQ'
  | false =>
    simp (disch := omega) [f22, f32]
    refine betterVM (a := y.v) (b := w.v) (fun h3 l3 => ?_)
    have f23 := l3 _ _ f22
    have f33 := l3 _ _ f32
    have hQ' := hQ _ ((L1.trans l2).trans l3)
    rw [c1] at hQ'
    cases c2 : betterV y.v w.v with
    | true =>
      rw [c2] at hQ'
      simp (disch := omega)
      exact .to _ (.refl _) hQ'
    | false =>
      rw [c2] at hQ'
      simp (disch := omega) [f23, f33]
      exact .to _ (.refl _) hQ'
end
end Go.Proofs.Ytpeoholnlokdcaa

/- DUAL in memory: New, Least, take, close, send, add. -/
namespace Go.Proofs.Ytpeoholnlokdcaa
open Go
set_option linter.unusedSimpArgs false
set_option linter.unusedVariables false
set_option maxRecDepth 20000

/-- What a call that takes the letters leaves. -/
structure TQ (h : Hp) (L : RM) (x : DPt) (s' : DS) (l : List Lt) (v : Value) (h' : Hp) (L' : RM) : Prop where
  at_ : DualAt h' L' x s'
  fr : DF h L h' L'
  sl : SlAt h' T_letter 10 Lt.enc v l
  nw : ∀ b, blkOf v = some b → (∃ r, L r = some b) ∨ h b = none
  nr : ∀ b, blkOf v = some b → ∀ r, L' r ≠ some b

section
variable {h : Hp} {L : RM} {x : DPt} {s : DS} {Q : Value → Hp → Prop}
theorem TQ.pre {h1 h' : Hp} {L1 L' : RM} {s' : DS} {l : List Lt} {v : Value} (a : DF h L h1 L1) (q : TQ h1 L1 x s' l v h' L') : TQ h L x s' l v h' L' := by
  refine ⟨q.at_, a.trans q.fr, q.sl, fun b e => ?_, q.nr⟩
  rcases q.nw b e with ⟨r, q⟩ | q
  · exact a.new r b q
  · by_cases c : ∃ r, L r = some b
    · exact .inl c
    · cases e : h b with
      | none => exact .inr rfl
      | some o => rw [a.keep b o e (fun r e => c ⟨r, e⟩)] at q; cases q

theorem dnewM {dom most : Int} (hQ : ∀ L x h', Le h h' → (∀ r y, L r = some y → h y = none) → DualAt h' L x ⟨dom, min most 64, [], [], []⟩ → Q (ptrV x.p) h') :
    Ok Try.prog F_dual_New #[.int .i64 dom, .int .i64 most] h Q := by
  refine dual_New_ok (by simp) ?_
  unfold dual_New_D
  simp (disch := omega) [dual_New_r0, dual_New_r1]
  refine makeLd (fun o ho MO => ?_)
  simp (disch := omega)
  refine makePd (fun t ht MT => ?_)
  simp (disch := omega)
  intro p hp
  obtain ⟨a1, a2⟩ := upd_none hp
  obtain ⟨a3, a4⟩ := upd_none a2
  obtain ⟨b1, b2⟩ := upd_none ht
  let x : DPt := ⟨p, o, t⟩
  let L : RM := fun r => match r with | .top => some p | .lm => some o | .pm => some t | _ => none
  have l1 : Le h (h.upd o (.map #[] 0)) := .new ho
  have l2 := l1.trans (Le.new (o := .map #[] 0) ht)
  have l3 := l2.trans (Le.new (o := .cells (dcells x ⟨dom, min most 64, [], [], []⟩ (.slice none 0 0)) T_dual (0, 0)) hp)
  have L3 := Le.new (o := .cells (dcells x ⟨dom, min most 64, [], [], []⟩ (.slice none 0 0)) T_dual (0, 0)) hp
  have L2 := (Le.new (o := .map #[] 0) ht).trans L3
  refine .to _ (.refl _) (hQ L x _ l3 (fun r y e => ?_) ⟨fun r1 r2 b e1 e2 => ?_, fun r b e => ?_, rfl, rfl, rfl, ⟨.slice none 0 0, upd_same, .inl ⟨rfl, rfl⟩, rfl⟩, MO.le L2, MT.le L3, by simp [Uniq], by simp [Uniq], fun k l e => by simp [getM_nil] at e, fun k l e => by simp [getM_nil] at e, fun _ _ => rfl⟩)
  · cases r <;> simp only [L, Option.some.injEq, reduceCtorEq] at e <;> subst e <;> assumption
  · cases r1 <;> simp only [L, Option.some.injEq, reduceCtorEq] at e1 <;> cases r2 <;> simp only [L, Option.some.injEq, reduceCtorEq] at e2 <;> first | rfl | (exfalso; subst e1; first | exact a1 e2 | exact a1 e2.symm | exact a3 e2 | exact a3 e2.symm | exact b1 e2 | exact b1 e2.symm)
  · cases r <;> simp only [L, Option.some.injEq, reduceCtorEq] at e <;> subst e
    · exact ⟨_, upd_same⟩
    · exact MO.alive.elim fun ob e => ⟨ob, L2 _ _ e⟩
    · exact MT.alive.elim fun ob e => ⟨ob, L3 _ _ e⟩

theorem DualAt.look (A : DualAt h L x s) (p : PK) : rrun Try.prog (Instr.lookup 63 (.map (some x.pm)) (.agg #[.int .u32 (p.1 : Nat), .int .i64 p.2]) false) h = some (match getM s.px p with | some _ => ptrV ((L (.kn p)).getD 0) | none => .pointer none) := by
  rw [lookPd A.mp, getM_map (f := fun p _ => (L (.kn p)).getD 0)]
  cases getM s.px p <;> rfl
theorem DualAt.lookL (A : DualAt h L x s) (k : Int) : rrun Try.prog (Instr.lookup 62 (.map (some x.lm)) (.int .i64 k) false) h = some (match getM s.lk k with | some _ => ptrV ((L (.li k)).getD 0) | none => .pointer none) := by
  rw [lookLd A.ml, getM_map (f := fun p _ => (L (.li p)).getD 0)]
  cases getM s.lk k <;> rfl
theorem DualAt.lenP (A : DualAt h L x s) {R : TypeId} : rrun Try.prog (Builtin.len_ #[63] R #[.map (some x.pm)]) h = some (.int .i64 (s.px.length : Nat)) := by
  have := lenPd (R := R) A.mp
  rw [List.length_map] at this; exact this
theorem DualAt.lenL (A : DualAt h L x s) {R : TypeId} : rrun Try.prog (Builtin.len_ #[62] R #[.map (some x.lm)]) h = some (.int .i64 (s.lk.length : Nat)) := by
  have := lenLd (R := R) A.ml
  rw [List.length_map] at this; exact this
theorem DualAt.lookK (A : DualAt h L x s) {p : PK} {y : Kn} (hy : getM s.px p = some y) {b : Nat} (hb : L (.kn p) = some b) : rrun Try.prog (Instr.lookup 63 (.map (some x.pm)) (.agg #[.int .u32 (p.1 : Nat), .int .i64 p.2]) false) h = some (ptrV b) := by
  rw [A.look, hy, hb]; rfl
theorem DualAt.look0 (A : DualAt h L x s) {p : PK} (hy : getM s.px p = none) : rrun Try.prog (Instr.lookup 63 (.map (some x.pm)) (.agg #[.int .u32 (p.1 : Nat), .int .i64 p.2]) false) h = some (.pointer none) := by
  rw [A.look, hy]
theorem DualAt.lookLk (A : DualAt h L x s) {k : Int} {l : Ln} (hk : getM s.lk k = some l) {b : Nat} (hb : L (.li k) = some b) : rrun Try.prog (Instr.lookup 62 (.map (some x.lm)) (.int .i64 k) false) h = some (ptrV b) := by
  rw [A.lookL, hk, hb]; rfl
theorem DualAt.lookL0 (A : DualAt h L x s) {k : Int} (hk : getM s.lk k = none) : rrun Try.prog (Instr.lookup 62 (.map (some x.lm)) (.int .i64 k) false) h = some (.pointer none) := by
  rw [A.lookL, hk]

def leastOf (s : DS) (p : PK) : Int := match getM s.px p with | some y => y.least | none => 4294967295
def quietOf (s : DS) (p : PK) : Bool := match getM s.px p with | some y => decide (y.opn = []) | none => true
theorem dleastM {p : PK} (A : DualAt h L x s) (hQ : ∀ h', Le h h' → Q (.tuple #[.int .i64 (leastOf s p), .bool (quietOf s p)]) h') :
    Ok Try.prog F_dual_Dual_Least #[ptrV x.p, .agg #[.int .u32 (p.1 : Nat), .int .i64 p.2]] h Q := by
  refine dual_Dual_Least_ok (by simp) ?_
  unfold dual_Dual_Least_D
  simp (disch := omega) [dual_Dual_Least_r0]
  intro b hb
  have f1 : (h.upd b (.cells #[.int .u32 (p.1 : Nat), .int .i64 p.2] 35)) b = some (.cells #[.int .u32 (p.1 : Nat), .int .i64 p.2] 35 (0, 0)) := upd_same
  have l1 : Le h (h.upd b (.cells #[.int .u32 (p.1 : Nat), .int .i64 p.2] 35)) := .new hb
  show dual_Dual_Least_r1 _ (h.upd b (.cells #[.int .u32 (p.1 : Nat), .int .i64 p.2] 35)) _
  have hQ' := hQ _ l1
  have A1 := A.le' l1
  generalize h.upd b (.cells #[.int .u32 (p.1 : Nat), .int .i64 p.2] 35) = h1 at *
  obtain ⟨v, pt, _, _⟩ := A1.pt
  unfold leastOf quietOf at hQ'
  cases hy : getM s.px p with
  | none =>
    rw [hy] at hQ'
    have lk := A1.look0 hy
    simp (disch := omega) [dual_Dual_Least_r1, dual_Dual_Least_r2, dual_Dual_Least_r3, pt, f1, lk]
    exact .to _ (.refl _) hQ'
  | some y =>
    rw [hy] at hQ'
    obtain ⟨b2, r, o, ov, K⟩ := A1.kn p y hy
    have lk := A1.lookK hy K.kb
    have hpt := K.pt
    have ln := lenNd (R := 3) K.mo
    simp (disch := omega) [dual_Dual_Least_r1, dual_Dual_Least_r2, pt, f1, lk]
    simp (disch := omega) [dual_Dual_Least_r4, hpt, ln]
    refine .to _ (.refl _) ?_
    simpa using hQ'

theorem dtakeM (A : DualAt h L x s) (hQ : ∀ v h' L', TQ h L x (outS s) s.out v h' L' → Q v h') : Ok Try.prog F_dual_Dual_take #[ptrV x.p] h Q := by
  refine dual_Dual_take_ok (by simp) ?_
  unfold dual_Dual_take_D
  obtain ⟨v, pt, S, eL⟩ := A.pt
  simp (disch := omega) [dual_Dual_take_r0, dual_Dual_take_r1, dual_Dual_take_r2, dual_Dual_take_r3, pt]
  refine .to _ (.refl _) (hQ v _ (L.set .ou (blkOf (.slice none 0 0))) ?_)
  have nb : ∀ c, blkOf v = some c → c ≠ x.p := fun c e => A.ne (eL.trans e) A.t0 (by simp)
  have D := A.setOut (h1 := h) (v := v) (v' := .slice none 0 0) (l := []) (fun _ _ _ _ _ e => e) (fun c e => by cases e) (.inl ⟨rfl, rfl⟩) (fun c e => by cases e)
  refine ⟨D, ⟨fun y o e n => by rw [upd_ne (by rintro rfl; exact n _ A.t0)]; exact e, fun r y q => ?_, fun p b q => (RM.set_ne (by simp)).trans q⟩, S.keep (fun c o e e2 => by rw [upd_ne (nb c e)]; exact e2), fun c e => .inl ⟨.ou, eL.trans e⟩, fun c e r q => ?_⟩
  · unfold RM.set at q
    split at q
    · cases q
    · exact .inl ⟨r, q⟩
  · unfold RM.set at q
    split at q
    · cases q
    · rename_i n; exact n (A.inj _ _ _ q (eL.trans e))

theorem dcloseM {p : PK} {y : Kn} {b : Nat} {k : Int} (A : DualAt h L x s) (hy : getM s.px p = some y) (hb : L (.kn p) = some b) (hQ : ∀ h', DQ h L x (setK s p (closeK y k)) h' L → Q (.tuple #[]) h') :
    Ok Try.prog F_dual_known_close #[ptrV b, .int .i64 k] h Q := by
  refine dual_known_close_ok (by simp) ?_
  unfold dual_known_close_D
  obtain ⟨r, o, ov, K⟩ := A.known hy hb
  have pt := K.pt
  have lk := lookNd (p := k) K.mo
  unfold closeK at hQ
  cases hg : getM y.opn k with
  | none =>
    rw [hg] at lk hQ
    simp only at hQ
    rw [setK_self hy] at hQ
    simp (disch := omega) [dual_known_close_r0, dual_known_close_r1, pt, lk]
    exact .to _ (.refl _) (hQ _ (.same A (.refl _)))
  | some n =>
    rw [hg] at lk hQ
    simp only at hQ
    simp (disch := omega) [dual_known_close_r0, dual_known_close_r1, dual_known_close_r2, pt, lk]
    refine delNd K.mo (fun ob M => ?_)
    obtain ⟨D1, K1⟩ := A.setOpn hy K M K.uo.del
    generalize h.upd o ob = h1 at *
    have A1 := D1.at_
    have pt1 := K1.pt
    have ln := lenNd (R := 3) K1.mo
    by_cases c : delM k y.opn = []
    · rw [if_pos c] at hQ
      have cl : ((delM k y.opn).length : Int) = 0 := by rw [c]; rfl
      simp (disch := omega) [dual_known_close_r3, pt1, ln, cl]
      simp (disch := omega) [dual_known_close_r4, pt1]
      refine ofVM (v := y.told.v) (fun h2 l2 => ?_)
      have pt2 := l2 _ _ pt1
      simp (disch := omega) [pt2]
      obtain ⟨D2, K2⟩ := (A1.le' l2).setTold setK_get (K1.keep (fun _ _ => rfl) (fun r b o _ _ e => l2 _ _ e)) y.told (ofV y.told.v)
      rw [setK_setK] at D2
      exact .to _ (.refl _) (hQ _ (D1.trans (D2.le l2)))
    · rw [if_neg c] at hQ
      simp (disch := omega) [dual_known_close_r3, pt1, ln, c]
      exact .to _ (.refl _) (hQ _ D1)

theorem inc_wrap {n : Nat} : IntKind.u32.wrap ((n : Int) + 1) = ((inc32 n : Nat) : Int) := by
  show ((n : Int) + 1) % 4294967296 = _
  unfold inc32; omega

set_option maxHeartbeats 1000000 in
theorem dsendM {k code : Int} {ack : Nat} {p : PK} {w : Wy} {l : Ln} (A : DualAt h L x s) (hk : getM s.lk k = some l) (hl : s.out.length ≤ 1000000) (hQ : ∀ h' L', DQ h L x (sendS s k code ack p w) h' L' → (∀ r, r ≠ .ou → L' r = L r) → Q (.int .u32 (inc32 l.sent : Nat)) h') :
    Ok Try.prog F_dual_Dual_send #[ptrV x.p, .int .i64 k, .int .i64 code, .int .u32 (ack : Nat), .agg #[.int .u32 (p.1 : Nat), .int .i64 p.2], w.val] h Q := by
  refine dual_Dual_send_ok (by simp) ?_
  unfold dual_Dual_send_D
  simp (disch := omega) [dual_Dual_send_r0]
  intro b10 hb10 b11 hb11
  obtain ⟨n1, hb11'⟩ := upd_none hb11
  show dual_Dual_send_r1 _ ((h.upd b10 (.cells #[.int .u32 (p.1 : Nat), .int .i64 p.2] 35)).upd b11 (.cells w.cells T_way)) _
  have L1 : Le h ((h.upd b10 (.cells #[.int .u32 (p.1 : Nat), .int .i64 p.2] 35)).upd b11 (.cells w.cells T_way)) := (Le.new hb10).trans (Le.new hb11)
  have f10 : ((h.upd b10 (.cells #[.int .u32 (p.1 : Nat), .int .i64 p.2] 35)).upd b11 (.cells w.cells T_way)) b10 = some (.cells #[.int .u32 (p.1 : Nat), .int .i64 p.2] 35 (0, 0)) := by rw [upd_ne (Ne.symm n1), upd_same]
  have f11 : ((h.upd b10 (.cells #[.int .u32 (p.1 : Nat), .int .i64 p.2] 35)).upd b11 (.cells w.cells T_way)) b11 = some (.cells w.cells T_way (0, 0)) := upd_same
  have r10 : ∀ r, L r ≠ some b10 := A.out_ hb10
  have r11 : ∀ r, L r ≠ some b11 := A.out_ hb11'
  generalize (h.upd b10 (.cells #[.int .u32 (p.1 : Nat), .int .i64 p.2] 35)).upd b11 (.cells w.cells T_way) = h1 at *
  have A1 := A.le' L1
  obtain ⟨v, pt, S, eL⟩ := A1.pt
  obtain ⟨b, hb, fb⟩ := A1.li k l hk
  have lk := A1.lookLk hk hb
  simp (disch := omega) [dual_Dual_send_r1, pt, lk]
  simp (disch := omega) [dual_Dual_send_r2, fb, inc_wrap]
  have D2 := A1.setLk (l' := { l with sent := inc32 l.sent }) hk hb
  show dual_Dual_send_r3 _ (h1.upd b (.cells ({ l with sent := inc32 l.sent } : Ln).cells T_link (0, 0))) _
  have f10' : (h1.upd b (.cells ({ l with sent := inc32 l.sent } : Ln).cells T_link (0, 0))) b10 = some (.cells #[.int .u32 (p.1 : Nat), .int .i64 p.2] 35 (0, 0)) := by rw [upd_ne (by rintro rfl; exact r10 _ hb)]; exact f10
  have f11' : (h1.upd b (.cells ({ l with sent := inc32 l.sent } : Ln).cells T_link (0, 0))) b11 = some (.cells w.cells T_way (0, 0)) := by rw [upd_ne (by rintro rfl; exact r11 _ hb)]; exact f11
  have fb' : (h1.upd b (.cells ({ l with sent := inc32 l.sent } : Ln).cells T_link (0, 0))) b = some (.cells ({ l with sent := inc32 l.sent } : Ln).cells T_link (0, 0)) := upd_same
  have pt' : (h1.upd b (.cells ({ l with sent := inc32 l.sent } : Ln).cells T_link (0, 0))) x.p = some (.cells (dcells x s v) T_dual (0, 0)) := by rw [upd_ne (A1.ne A1.t0 hb (by simp))]; exact pt
  have S' : SlAt (h1.upd b (.cells ({ l with sent := inc32 l.sent } : Ln).cells T_link (0, 0))) T_letter 10 Lt.enc v s.out := S.keep (fun c o e e2 => by rw [upd_ne (A1.ne (eL.trans e) hb (by simp))]; exact e2)
  generalize h1.upd b (.cells ({ l with sent := inc32 l.sent } : Ln).cells T_link (0, 0)) = h2 at *
  have A2 := D2.at_
  obtain ⟨sp, cap, hv⟩ := S'.shape'
  simp (disch := omega) [dual_Dual_send_r3, pt', fb', f10', f11', hv]
  intro b9 hb9
  have hxb : x.p ≠ b9 := ne_new pt' hb9
  refine ⟨by rw [upd_ne hxb]; simp [pt', hv], ?_⟩
  rw [← hv]
  refine arun_mono _ (fun w' g' HH => ?_) (snoc_api_Letter (k := fun _ v' g => SlAt g T_letter 10 Lt.enc v' (s.out ++ [⟨k, code, inc32 l.sent, ack, p, w.v, w.tg⟩]) ∧ Grew h2 g v v') (y := ⟨k, code, inc32 l.sent, ack, p, w.v, w.tg⟩) S' rfl (by simp [Lt.enc]) (by omega) (fun b10 w' g' S' G hb10 => ⟨S', G⟩) b9 hb9)
  obtain ⟨S3, G⟩ := HH
  have pt3 := G.keep _ _ pt' (fun e => A2.ne A2.t0 (eL.trans e.symm) (by simp) rfl)
  have fb3 := G.keep _ _ fb' (fun e => A2.ne hb (eL.trans e.symm) (by simp) rfl)
  obtain ⟨wp, wcap, hw⟩ := S3.shape'
  replace hw : w' = .slice wp (s.out.length + 1) wcap := by rw [hw]; simp
  have D4 := A2.grow (v := v) pt' eL G S3
  simp (disch := omega) [pt3, hw]
  rw [← hw]
  have nbx : ¬ b = x.p := A2.ne hb A2.t0 (by simp)
  simp (disch := omega) [dual_Dual_send_r4, fb3, nbx]
  refine .to _ (.refl _) (hQ _ (L.set .ou (blkOf w')) ?_ (fun r n => RM.set_ne n))
  have := (D2.trans D4).le L1
  unfold sendS
  rw [hk]
  exact this
end
end Go.Proofs.Ytpeoholnlokdcaa

/- slices.Sort at ints: the kit's contract, turned to partial heaps. -/
namespace Go.Proofs.Ytpeoholnlokdcaa
open Go
open Go.Shelf (Ren)
set_option linter.unusedSimpArgs false
set_option linter.unusedVariables false

abbrev encI (x : Int) : List Value := [.int .i64 x]
theorem pr_heap {b n : Nat} {w : World} {d : Array Int} {os : Array Obj} {i : Nat} (hi : i < w.heap.size) :
    (Go.Sort.grow (Go.Sort.putRow (Value.int .i64) (Go.Sort.ahead w n) b 0 d) os).heap[i]? = if b = i then (w.heap[i]?).map (Go.Sort.onCells (Go.Sort.putCells (Value.int .i64) 0 d)) else w.heap[i]? := by
  unfold Go.Sort.grow Go.Sort.putRow Go.Sort.mapBlock Go.Sort.ahead
  simp only []
  rw [Array.getElem?_append_left (by simpa using hi), Array.getElem?_modify]

theorem enc_putI {c : Array Value} {d : List Int} (hl : d.length ≤ c.size) : Enc (Go.Sort.putCells (Value.int .i64) 0 d.toArray c) 0 1 encI d := by
  intro i x hx j hj
  have hi : i < d.length := (List.getElem?_eq_some_iff.1 hx).1
  have hj0 : j = 0 := by omega
  subst hj0
  unfold Go.Sort.putCells
  rw [Array.getElem?_mapIdx, Nat.zero_add, Nat.mul_one, Nat.add_zero, Array.getElem?_eq_getElem (by omega), Option.map_some, if_pos ⟨by omega, by simpa using hi⟩, Nat.sub_zero]
  have hx' : d.toArray[i]! = x := by
    rw [getElem!_pos _ i (by simpa using hi)]
    have := (List.getElem?_eq_some_iff.1 hx).2
    simpa using this
  rw [hx']; rfl

theorem holdsI_of {b E : Nat} {c : Array Value} {d : List Int} {w : World} (hb : w.heap[b]? = some (.cells c E (0, 0))) (hl : d.length ≤ c.size) (henc : Enc c 0 1 encI d) :
    Go.Sort.Holds (Value.int .i64) w b 0 d.toArray := by
  intro t ht
  have ht' : t < d.length := by simpa using ht
  constructor
  · have := henc t (d[t]'ht') (List.getElem?_eq_getElem ht') 0 (by omega)
    rw [Nat.zero_add, Nat.mul_one, Nat.add_zero] at this
    unfold World.cell?
    simp only [hb]
    rw [Nat.zero_add]
    simp only [Option.isSome_none, Bool.false_eq_true, if_false]
    rw [this, getElem!_pos _ t ht]
    simp
  · unfold World.frozen?
    simp only [hb]
    simp

theorem ok_sortI {P : Program} {ρ : Ren} (L : Lays.n189 P ρ) (fb : ∃ fn c, P.funcs[ρ.f 189]? = some fn ∧ fn.body = some c)
    {E : Nat} {h : Hp} {b cap : Nat} {c : Array Value} {d : List Int} (hb : h b = some (.cells c E (0, 0))) (hl : d.length ≤ c.size) (henc : Enc c 0 1 encI d) (hsz : d.length < 4611686018427387904) {Q : Value → Hp → Prop}
    (hQ : ∀ (c' : Array Value), c'.size = c.size → Enc c' 0 1 encI (d.mergeSort fun x y => decide (x ≤ y)) → Q (.tuple #[]) (h.upd b (.cells c' E (0, 0)))) :
    Ok P (ρ.f 189) #[.slice (some ⟨b, 0, none⟩) d.length cap] h Q := by
  refine ⟨fb, fun w V => ?_⟩
  have hbw := V b _ hb
  have hblk : b < w.heap.size := (Array.getElem?_eq_some_iff.1 hbw).1
  have hs := Any.slices_Sort_int L b 0 cap d w (holdsI_of hbw hl henc) hblk hsz
  refine hs.mono ?_
  rintro e w' ⟨rfl, n, os, rfl⟩
  generalize hd : (d.mergeSort fun x y => decide (x ≤ y)) = d' at *
  have hds : d'.length = d.length := by rw [← hd]; exact List.length_mergeSort d
  have hcs : (Go.Sort.putCells (Value.int .i64) 0 d'.toArray c).size = c.size := by unfold Go.Sort.putCells; simp
  refine ⟨_, h.upd b (.cells (Go.Sort.putCells (Value.int .i64) 0 d'.toArray c) E (0, 0)), rfl, ?_, ?_, hQ _ hcs (enc_putI (by omega))⟩
  · intro x o hx
    unfold Hp.upd at hx
    split at hx
    · rename_i e; subst e; cases hx
      rw [pr_heap hblk, if_pos rfl, hbw]; rfl
    · rename_i ne
      have hw := V x o hx
      rw [pr_heap (Array.getElem?_eq_some_iff.1 hw).1, if_neg (fun e => ne e.symm)]; exact hw
  · refine ⟨rfl, rfl, rfl, ?_, fun i hi hn => ?_, fun i hi hn => ?_, ?_⟩
    · rw [Go.Sort.size_grow, Go.Sort.size_putRow]
      exact Nat.le_add_right _ _
    · rw [pr_heap hi, if_neg (by rintro rfl; rw [hb] at hn; cases hn)]
    · unfold Hp.upd; rw [if_neg (by rintro rfl; rw [hb] at hn; cases hn)]; exact hn
    · show w.drawn ≤ w.drawn + n; omega
end Go.Proofs.Ytpeoholnlokdcaa

/- DUAL: its keys in order; the rounds over its neighbours, and over its prefixes. -/
namespace Go.Proofs.Ytpeoholnlokdcaa
open Go
set_option linter.unusedSimpArgs false
set_option linter.unusedVariables false
set_option maxRecDepth 20000

theorem srtI_unique {l l' : List Int} (s : l.Pairwise (· ≤ ·)) (s' : l'.Pairwise (· ≤ ·)) (p : l.Perm l') : l = l' :=
  List.Perm.eq_of_pairwise (le := (· ≤ ·)) (fun a b _ _ h1 h2 => Int.le_antisymm h1 h2) s s' p
theorem insI_perm {k : Int} : ∀ {l : List Int}, (insI k l).Perm (k :: l)
  | [] => .refl _
  | y :: ys => by
    rw [insI]
    split
    · exact .refl _
    · exact (insI_perm.cons y).trans (.swap _ _ _)
theorem insI_srt {k : Int} : ∀ {l : List Int}, l.Pairwise (· ≤ ·) → (insI k l).Pairwise (· ≤ ·)
  | [], _ => by simp [insI]
  | y :: ys, s => by
    rw [List.pairwise_cons] at s
    rw [insI]
    by_cases h : k ≤ y
    · rw [if_pos h, List.pairwise_cons, List.pairwise_cons]
      refine ⟨fun z hz => ?_, s⟩
      rcases List.mem_cons.1 hz with rfl | hz
      · exact h
      · exact Int.le_trans h (s.1 z hz)
    · rw [if_neg h, List.pairwise_cons]
      refine ⟨fun z hz => ?_, insI_srt s.2⟩
      rcases List.mem_cons.1 (insI_perm.mem_iff.1 hz) with rfl | hz
      · omega
      · exact s.1 z hz
theorem srtI_sorted {l : List Int} : (srtI l).Pairwise (· ≤ ·) := by
  unfold srtI
  induction l with
  | nil => simp
  | cons y ys ih => exact insI_srt ih
theorem srtI_perm {l : List Int} : (srtI l).Perm l := by
  unfold srtI
  induction l with
  | nil => exact .refl _
  | cons y ys ih => exact insI_perm.trans (ih.cons y)
theorem srtI_ms {l : List Int} : (l.mergeSort fun x y => decide (x ≤ y)) = srtI l := by
  have := List.pairwise_mergeSort (le := fun x y : Int => decide (x ≤ y)) (fun a b c h1 h2 => by simp at *; omega) (fun a b => by simp; omega) l
  exact srtI_unique (this.imp fun h => by simpa using h) srtI_sorted ((List.mergeSort_perm _ _).trans srtI_perm.symm)
theorem srtI_of {l l' : List Int} (p : l.Perm l') : srtI l = srtI l' := srtI_unique srtI_sorted srtI_sorted ((srtI_perm.trans p).trans srtI_perm.symm)
theorem srtI_mem {l : List Int} {k : Int} : k ∈ srtI l ↔ k ∈ l := srtI_perm.mem_iff
theorem srtI_nodup {l : List Int} (n : l.Nodup) : (srtI l).Nodup := srtI_perm.nodup_iff.2 n
theorem srtI_length {l : List Int} : (srtI l).length = l.length := srtI_perm.length_eq

section
variable {h : Hp} {Q : Value → Hp → Prop}
theorem sort_nilI (hQ : Q (.tuple #[]) h) : Ok Try.prog F_slices_Sort_int_int #[.slice none 0 0] h Q := by
  refine slices_Sort_int_int_ok (by simp) ?_
  unfold slices_Sort_int_int_D
  simp (disch := omega) [slices_Sort_int_int_r0, slices_Sort_int_int_r1]
  refine len_specP (n := 0) (by omega) (fun k => ?_)
  simp (disch := omega)
  refine slices_pdqsortOrdered_int_ok (by simp) ?_
  unfold slices_pdqsortOrdered_int_D
  simp (disch := omega) [slices_pdqsortOrdered_int_r0, slices_pdqsortOrdered_int_r1]
  refine ⟨fun _ env g => g = h ∧ env 0 = .slice none 0 0 ∧ env 1 = .int .i64 0 ∧ env 2 = .int .i64 0, ⟨0, rfl, by simp, by simp, by simp⟩, ?_⟩
  rintro _ env g ⟨rfl, e0, e1, e2⟩
  unfold slices_pdqsortOrdered_int_L0
  simp (disch := omega) [slices_pdqsortOrdered_int_r2, slices_pdqsortOrdered_int_r3, slices_pdqsortOrdered_int_r4, e0, e1, e2, wrap_i64]
  refine slices_insertionSortOrdered_int_ok (by simp) ?_
  unfold slices_insertionSortOrdered_int_D
  simp (disch := omega) [slices_insertionSortOrdered_int_r0, wrap_i64]
  refine ⟨fun _ env g2 => g2 = g ∧ env 2 = .int .i64 0 ∧ env 6 = .int .i64 1, ⟨0, rfl, by simp, by simp⟩, ?_⟩
  rintro _ env2 g2 ⟨rfl, f2, f8⟩
  unfold slices_insertionSortOrdered_int_L1
  simp (disch := omega) [slices_insertionSortOrdered_int_r1, f2, f8]
  exact .to _ (.refl _) (.to _ (.refl _) (.to _ (.refl _) hQ))

theorem sort_specI {v : Value} {d : List Int} (S : SlAt h 3 1 kencL v d) (hsz : d.length < 4611686018427387904)
    (hQ : ∀ h', (∀ x o, h x = some o → blkOf v ≠ some x → h' x = some o) → SlAt h' 3 1 kencL v (srtI d) → Q (.tuple #[]) h') :
    Ok Try.prog F_slices_Sort_int_int #[v] h Q := by
  rcases S with ⟨rfl, rfl⟩ | ⟨b, cap, c, rfl, hb, h1, h2, h3⟩
  · exact sort_nilI (hQ h (fun _ _ e _ => e) (.inl ⟨rfl, by simp [srtI]⟩))
  · have hlc : d.length ≤ c.size := by omega
    refine ok_sortI sortI ⟨_, slices_Sort_int_int_code, Try.func56, by kernel_rfl⟩ hb hlc h3 hsz (fun c' hc he => ?_)
    rw [srtI_ms] at he
    refine hQ _ (fun x o e n => by rw [upd_ne (fun q => n (by subst q; rfl))]; exact e) (.inr ⟨b, cap, c', by rw [srtI_length], upd_same, by rw [srtI_length]; exact h1, by rw [hc]; exact h2, he⟩)

theorem sortedL {β : Type} {venc : β → Value} {Bm r : Nat} {m : List (Int × β)} {E : TypeId} {fr : Nat × Nat} (hB : h Bm = some (.cells #[.map (some r)] E fr)) (MB : MapB h r kvalL venc m) (u : Uniq m) (hl : m.length ≤ 1000000)
    (hQ : ∀ v h', Le h h' → SlAt h' 3 1 kencL v (srtI (m.map (·.1))) → (∀ b, blkOf v = some b → h b = none) → Q v h') :
    Ok Try.prog F_slices_Sorted_int #[.func (.func F_maps_Keys_map_int_dual_link_int_dual_link_1) #[] #[.pointer (some ⟨Bm, 0, none⟩)]] h Q := by
  refine slices_Sorted_int_ok (by simp) ?_
  unfold slices_Sorted_int_D
  simp (disch := omega) [slices_Sorted_int_r0, slices_Sorted_int_r1]
  refine collectL hB MB u hl (fun v ks h1 l1 S hp nv => ?_)
  simp (disch := omega) [slices_Sorted_int_r2]
  refine sort_specI S (by rw [hp.length_eq, List.length_map]; omega) (fun h2 k2 S2 => ?_)
  simp (disch := omega) [slices_Sorted_int_r3]
  rw [srtI_of hp] at S2
  exact .to _ (.refl _) (hQ v h2 (fun x o e => k2 x o (l1 _ _ e) (fun q => by rw [nv x q] at e; cases e)) S2 nv)
theorem sortedN {β : Type} {venc : β → Value} {Bm r : Nat} {m : List (Int × β)} {E : TypeId} {fr : Nat × Nat} (hB : h Bm = some (.cells #[.map (some r)] E fr)) (MB : MapB h r kvalL venc m) (u : Uniq m) (hl : m.length ≤ 1000000)
    (hQ : ∀ v h', Le h h' → SlAt h' 3 1 kencL v (srtI (m.map (·.1))) → (∀ b, blkOf v = some b → h b = none) → Q v h') :
    Ok Try.prog F_slices_Sorted_int #[.func (.func F_maps_Keys_map_int_uint32_int_uint32_1) #[] #[.pointer (some ⟨Bm, 0, none⟩)]] h Q := by
  refine slices_Sorted_int_ok (by simp) ?_
  unfold slices_Sorted_int_D
  simp (disch := omega) [slices_Sorted_int_r0, slices_Sorted_int_r1]
  refine collectN hB MB u hl (fun v ks h1 l1 S hp nv => ?_)
  simp (disch := omega) [slices_Sorted_int_r2]
  refine sort_specI S (by rw [hp.length_eq, List.length_map]; omega) (fun h2 k2 S2 => ?_)
  simp (disch := omega) [slices_Sorted_int_r3]
  rw [srtI_of hp] at S2
  exact .to _ (.refl _) (hQ v h2 (fun x o e => k2 x o (l1 _ _ e) (fun q => by rw [nv x q] at e; cases e)) S2 nv)

theorem keysLM {r : Nat} (hK : ∀ Bm h1, Le h h1 → h1 Bm = some (.cells #[.map (some r)] 62 (0, 0)) → h Bm = none → Q (.func (.func F_maps_Keys_map_int_dual_link_int_dual_link_1) #[] #[.pointer (some ⟨Bm, 0, none⟩)]) h1) :
    Ok Try.prog F_maps_Keys_map_int_dual_link_int_dual_link #[.map (some r)] h Q := by
  refine maps_Keys_map_int_dual_link_int_dual_link_ok (by simp) ?_
  unfold maps_Keys_map_int_dual_link_int_dual_link_D
  simp (disch := omega) [maps_Keys_map_int_dual_link_int_dual_link_r0]
  intro Bm hBm
  simp (disch := omega) [maps_Keys_map_int_dual_link_int_dual_link_r1]
  exact .to _ (.refl _) (hK Bm _ (.new hBm) upd_same hBm)
theorem keysNM {r : Nat} (hK : ∀ Bm h1, Le h h1 → h1 Bm = some (.cells #[.map (some r)] 77 (0, 0)) → h Bm = none → Q (.func (.func F_maps_Keys_map_int_uint32_int_uint32_1) #[] #[.pointer (some ⟨Bm, 0, none⟩)]) h1) :
    Ok Try.prog F_maps_Keys_map_int_uint32_int_uint32 #[.map (some r)] h Q := by
  refine maps_Keys_map_int_uint32_int_uint32_ok (by simp) ?_
  unfold maps_Keys_map_int_uint32_int_uint32_D
  simp (disch := omega) [maps_Keys_map_int_uint32_int_uint32_r0]
  intro Bm hBm
  simp (disch := omega) [maps_Keys_map_int_uint32_int_uint32_r1]
  exact .to _ (.refl _) (hK Bm _ (.new hBm) upd_same hBm)
theorem keysPM {r : Nat} (hK : ∀ Bm h1, Le h h1 → h1 Bm = some (.cells #[.map (some r)] 63 (0, 0)) → h Bm = none → Q (.func (.func F_maps_Keys_map_api_Prefix_dual_known_api_Prefix_dual_known_1) #[] #[.pointer (some ⟨Bm, 0, none⟩)]) h1) :
    Ok Try.prog F_maps_Keys_map_api_Prefix_dual_known_api_Prefix_dual_known #[.map (some r)] h Q := by
  refine maps_Keys_map_api_Prefix_dual_known_api_Prefix_dual_known_ok (by simp) ?_
  unfold maps_Keys_map_api_Prefix_dual_known_api_Prefix_dual_known_D
  simp (disch := omega) [maps_Keys_map_api_Prefix_dual_known_api_Prefix_dual_known_r0]
  intro Bm hBm
  simp (disch := omega) [maps_Keys_map_api_Prefix_dual_known_api_Prefix_dual_known_r1]
  exact .to _ (.refl _) (hK Bm _ (.new hBm) upd_same hBm)
end
end Go.Proofs.Ytpeoholnlokdcaa

/- DUAL: the rounds over its neighbours, and over its prefixes. -/
namespace Go.Proofs.Ytpeoholnlokdcaa
open Go
set_option linter.unusedSimpArgs false
set_option linter.unusedVariables false
set_option maxRecDepth 20000

theorem insP_perm {k : PK} : ∀ {l : List PK}, (insP k l).Perm (k :: l)
  | [] => .refl _
  | y :: ys => by
    rw [insP]
    split
    · exact .refl _
    · exact (insP_perm.cons y).trans (.swap _ _ _)
theorem insP_srt {k : PK} : ∀ {l : List PK}, SrtP l → SrtP (insP k l)
  | [], _ => by simp [insP, SrtP]
  | y :: ys, s => by
    unfold SrtP at *
    rw [List.pairwise_cons] at s
    rw [insP]
    by_cases h : plt k y
    · rw [if_pos h, List.pairwise_cons, List.pairwise_cons]
      refine ⟨fun z hz => ?_, s⟩
      rcases List.mem_cons.1 hz with rfl | hz
      · exact plt_asym h
      · exact fun q => s.1 z hz (plt_trans q h)
    · rw [if_neg h, List.pairwise_cons]
      refine ⟨fun z hz => ?_, insP_srt s.2⟩
      rcases List.mem_cons.1 (insP_perm.mem_iff.1 hz) with rfl | hz
      · exact h
      · exact s.1 z hz
theorem pfx_perm {m : List (PK × Kn)} : (pfx m).Perm (m.map (·.1)) := by
  unfold pfx
  generalize m.map (·.1) = l
  induction l with
  | nil => exact .refl _
  | cons y ys ih => exact insP_perm.trans (ih.cons y)
theorem pfx_srt {m : List (PK × Kn)} : SrtP (pfx m) := by
  unfold pfx
  generalize m.map (·.1) = l
  induction l with
  | nil => simp [SrtP]
  | cons y ys ih => exact insP_srt ih
theorem pfx_mem {m : List (PK × Kn)} {p : PK} : p ∈ pfx m ↔ p ∈ m.map (·.1) := pfx_perm.mem_iff
theorem pfx_get {m : List (PK × Kn)} {p : PK} : p ∈ pfx m ↔ (getM m p).isSome := by
  rw [pfx_mem, ← Decidable.not_iff_not, ← getM_none]
  cases getM m p <;> simp
theorem nbrs_get {m : List (Int × Ln)} {k : Int} : k ∈ nbrs m ↔ (getM m k).isSome := by
  unfold nbrs
  rw [srtI_mem, ← Decidable.not_iff_not, ← getM_none]
  cases getM m k <;> simp
theorem pfx_length {m : List (PK × Kn)} : (pfx m).length = m.length := by rw [pfx_perm.length_eq, List.length_map]
theorem nbrs_length {m : List (Int × Ln)} : (nbrs m).length = m.length := by unfold nbrs; rw [srtI_length, List.length_map]

theorem kl_at {h : Hp} {v : Value} {xs : List Int} {i : Nat} {x : Int} (S : SlAt h 3 1 kencL v xs) (hx : xs[i]? = some x) :
    ∃ b cap c, v = .slice (some ⟨b, 0, none⟩) xs.length cap ∧ h b = some (.cells c 3 (0, 0)) ∧ c[i]? = some (.int .i64 x) := by
  obtain ⟨b, cap, c, e, hb, H⟩ := SlAt.at' S hx
  have := H 0 (by omega)
  rw [Nat.mul_one, Nat.add_zero] at this
  exact ⟨b, cap, c, e, hb, this⟩
theorem kp_at {h : Hp} {v : Value} {xs : List PK} {i : Nat} {x : PK} (S : SlAt h 35 2 kencP v xs) (hx : xs[i]? = some x) :
    ∃ b cap c, v = .slice (some ⟨b, 0, none⟩) xs.length cap ∧ h b = some (.cells c 35 (0, 0)) ∧ c[i * 2]? = some (.int .u32 (x.1 : Nat)) ∧ c[i * 2 + 1]? = some (.int .i64 x.2) := by
  obtain ⟨b, cap, c, e, hb, H⟩ := SlAt.at' S hx
  exact ⟨b, cap, c, e, hb, H 0 (by omega), H 1 (by omega)⟩
theorem split_at {α : Type} {l : List α} {i : Nat} {x : α} (hx : l[i]? = some x) : l = l.take i ++ x :: l.drop (i + 1) := by
  obtain ⟨hi, rfl⟩ := List.getElem?_eq_some_iff.1 hx
  rw [List.getElem_cons_drop, List.take_append_drop]

section
variable {h : Hp} {L : RM} {x : DPt} {s : DS} {Q : Value → Hp → Prop}

/-- What the rounds may not change. -/
structure Stays (h : Hp) (L : RM) (x : DPt) (s : DS) (Bd : Nat) (g : Hp) : Prop where
  bd : g Bd = h Bd
  d : ∃ L' s', DualAt g L' x s' ∧ (∀ k, (getM s'.lk k).isSome = (getM s.lk k).isSome) ∧ (∀ k b, L (.li k) = some b → L' (.li k) = some b) ∧ (∀ p, (getM s'.px p).isSome = (getM s.px p).isSome) ∧ (∀ p b, L (.kn p) = some b → L' (.kn p) = some b)

def NbInv (h : Hp) (l Bd : Nat) (ks : List Int) (kv : Value) (I : List Int → Hp → Prop) (n : Nat) (env : Env) (G : Hp) : Prop :=
  ∃ (i : Nat) (g : Hp), i + n = ks.length ∧ I (ks.take i) g ∧ Le g G ∧ SlAt G 3 1 kencL kv ks ∧ (∀ b, blkOf kv = some b → g b = none) ∧
    env 0 = .func (.yield l) #[] #[] ∧ env 1 = .pointer (some ⟨Bd, 0, none⟩) ∧ env 10 = kv ∧ env 11 = .int .i64 (ks.length : Nat) ∧ env 12 = .int .i64 (i : Nat)

theorem over_le {g5 g G : Hp} (dom : ∀ b o, G b = some o → g b = none → g5 b = none) : Le g5 (g5.over g G) := fun b o' e => by
  cases hg : g b with
  | some o2 => rw [over_in hg]; exact e
  | none =>
    cases h4 : G b with
    | none => rw [over_new h4]; exact e
    | some o3 => rw [dom b o3 h4 hg] at e; cases e

set_option maxHeartbeats 1000000 in
theorem nb1M {l Bd : Nat} {E : TypeId} {fr : Nat × Nat} (hB : h Bd = some (.cells #[ptrV x.p] E fr)) (A : DualAt h L x s) (hl : s.lk.length ≤ 1000000)
    (I : List Int → Hp → Prop) (I0 : I [] h) (hI : ∀ V g, I V g → Stays h L x s Bd g)
    (step : ∀ V k rest g b K, nbrs s.lk = V ++ k :: rest → I V g → L (.li k) = some b → (∀ g', I (V ++ [k]) g' → K (.bool true) g') → YOk Try.prog l #[.int .i64 k, ptrV b] g K)
    (hQ : ∀ v g, I (nbrs s.lk) g → Q v g) : Ok Try.prog F_dual_Dual_neighbours_1 #[.func (.yield l) #[] #[], .pointer (some ⟨Bd, 0, none⟩)] h Q := by
  refine dual_Dual_neighbours_1_ok (by simp) ?_
  unfold dual_Dual_neighbours_1_D
  obtain ⟨v, pt, _, _⟩ := A.pt
  simp (disch := omega) [dual_Dual_neighbours_1_r0, hB, pt]
  refine keysLM (fun Bm h1 l1 hBm nBm => ?_)
  simp (disch := omega)
  have um : Uniq (s.lk.map fun e => (e.1, (L (.li e.1)).getD 0)) := by
    have := A.ul
    unfold Uniq at *
    rw [List.map_map]; exact this
  refine sortedL hBm (A.le' l1).ml um (by rw [List.length_map]; exact hl) (fun kv h2 l2 S nv => ?_)
  have hks : ((s.lk.map fun e => (e.1, (L (.li e.1)).getD 0)).map (·.1)) = s.lk.map (·.1) := by rw [List.map_map]; rfl
  rw [hks] at S
  have hks : srtI (s.lk.map (·.1)) = nbrs s.lk := rfl
  rw [hks] at S
  generalize hks2 : nbrs s.lk = ks at *
  obtain ⟨sp, cap, hv⟩ := S.shape'
  simp (disch := omega) [hv]
  have hlen : ks.length ≤ 1000000 := by rw [← hks2, nbrs_length]; exact hl
  refine ⟨NbInv h l Bd ks kv I, ⟨ks.length, 0, h, by omega, I0, l1.trans l2, S, fun b e => none_of_le l1 (nv b e), by simp, by simp, by simp [hv], by simp, by simp⟩, ?_⟩
  rintro n env G ⟨i, g, hin, IV, lg, S, nv, e0, e1, e10, e11, e12⟩
  unfold dual_Dual_neighbours_1_L0
  by_cases hm : n = 0
  · have : i = ks.length := by omega
    subst this
    rw [List.take_of_length_le (Nat.le_refl _)] at IV
    simp (disch := omega) [dual_Dual_neighbours_1_r1, e11, e12]
    exact .to g lg (hQ _ g IV)
  · obtain ⟨k, hk⟩ : ∃ k, ks[i]? = some k := ⟨_, List.getElem?_eq_getElem (by omega)⟩
    have hi' : i < ks.length := by omega
    obtain ⟨b, cap, c, hv', hb, c0⟩ := kl_at S hk
    subst hv'
    have St := hI _ g IV
    obtain ⟨L', s', A', kL, lL, _, _⟩ := St.d
    have AG := A'.le' lg
    obtain ⟨v2, ptG, _, _⟩ := AG.pt
    have hkm : (getM s.lk k).isSome := nbrs_get.1 (by rw [hks2]; exact List.mem_of_getElem? hk)
    obtain ⟨ln, hln⟩ := Option.isSome_iff_exists.1 hkm
    obtain ⟨bl, hbl, _⟩ := A.li k ln hln
    obtain ⟨ln', hln'⟩ := Option.isSome_iff_exists.1 ((kL k).trans hkm)
    have lk := AG.lookLk hln' (lL k bl hbl)
    have fB := lg _ _ (St.bd.trans hB)
    simp (disch := omega) [dual_Dual_neighbours_1_r1, e11, e12, hi']
    simp (disch := omega) [dual_Dual_neighbours_1_r2, e10, e12, hi', hb, c0]
    simp (disch := omega) [dual_Dual_neighbours_1_r3, e0, e1, fB, ptG, lk]
    have hsp : ks = ks.take i ++ k :: ks.drop (i + 1) := split_at hk
    refine ((step (ks.take i) k (ks.drop (i + 1)) g bl (fun v g' => v = .bool true ∧ I (ks.take i ++ [k]) g') hsp IV hbl (fun g' h' => ⟨rfl, h'⟩)).frame lg).mono ?_
    rintro v5 G5 ⟨g5, ⟨rfl, I5⟩, rfl, dom⟩
    simp (disch := omega) [dual_Dual_neighbours_1_r4, e12, wrap_i64]
    have le5 := over_le dom
    refine ⟨n - 1, by omega, i + 1, g5, by omega, by rw [take_snoc hk]; exact I5, le5, S.keep (fun y o e e2 => over_out (nv y e) e2), fun y e => ?_, by simp [e0], by simp [e1], by simp [e10], by simp [e11], by simp⟩
    obtain ⟨o, ho⟩ := S.alive e
    exact dom y o ho (nv y e)

theorem neighboursM {p : Nat} (hK : ∀ Bd h1, Le h h1 → h1 Bd = some (.cells #[ptrV p] 25 (0, 0)) → h Bd = none → Q (.func (.func F_dual_Dual_neighbours_1) #[] #[.pointer (some ⟨Bd, 0, none⟩)]) h1) :
    Ok Try.prog F_dual_Dual_neighbours #[ptrV p] h Q := by
  refine dual_Dual_neighbours_ok (by simp) ?_
  unfold dual_Dual_neighbours_D
  simp (disch := omega) [dual_Dual_neighbours_r0]
  intro Bd hBd
  simp (disch := omega) [dual_Dual_neighbours_r1]
  exact .to _ (.refl _) (hK Bd _ (.new hBd) upd_same hBd)

def AlInv (h : Hp) (l Bd : Nat) (ks : List PK) (kv : Value) (I : List PK → Hp → Prop) (n : Nat) (env : Env) (G : Hp) : Prop :=
  ∃ (i : Nat) (g : Hp), i + n = ks.length ∧ I (ks.take i) g ∧ Le g G ∧ SlAt G 35 2 kencP kv ks ∧ (∀ b, blkOf kv = some b → g b = none) ∧
    env 0 = .func (.yield l) #[] #[] ∧ env 1 = .pointer (some ⟨Bd, 0, none⟩) ∧ env 12 = kv ∧ env 13 = .int .i64 (ks.length : Nat) ∧ env 14 = .int .i64 (i : Nat)

theorem allM {p : Nat} (hK : ∀ Bd h1, Le h h1 → h1 Bd = some (.cells #[ptrV p] 25 (0, 0)) → h Bd = none → Q (.func (.func F_dual_Dual_all_1) #[] #[.pointer (some ⟨Bd, 0, none⟩)]) h1) :
    Ok Try.prog F_dual_Dual_all #[ptrV p] h Q := by
  refine dual_Dual_all_ok (by simp) ?_
  unfold dual_Dual_all_D
  simp (disch := omega) [dual_Dual_all_r0]
  intro Bd hBd
  simp (disch := omega) [dual_Dual_all_r1]
  exact .to _ (.refl _) (hK Bd _ (.new hBd) upd_same hBd)

set_option maxHeartbeats 1000000 in
theorem all1M {l Bd : Nat} {E : TypeId} {fr : Nat × Nat} (hB : h Bd = some (.cells #[ptrV x.p] E fr)) (A : DualAt h L x s) (hl : s.px.length ≤ 1000000)
    (I : List PK → Hp → Prop) (I0 : I [] h) (hI : ∀ V g, I V g → Stays h L x s Bd g)
    (step : ∀ V p rest g b K, pfx s.px = V ++ p :: rest → I V g → L (.kn p) = some b → (∀ g', I (V ++ [p]) g' → K (.bool true) g') → YOk Try.prog l #[ptrV b] g K)
    (hQ : ∀ v g, I (pfx s.px) g → Q v g) : Ok Try.prog F_dual_Dual_all_1 #[.func (.yield l) #[] #[], .pointer (some ⟨Bd, 0, none⟩)] h Q := by
  refine dual_Dual_all_1_ok (by simp) ?_
  unfold dual_Dual_all_1_D
  obtain ⟨v, pt, _, _⟩ := A.pt
  simp (disch := omega) [dual_Dual_all_1_r0, hB, pt]
  refine keysPM (fun Bm h1 l1 hBm nBm => ?_)
  simp (disch := omega)
  have um : Uniq (s.px.map fun e => (e.1, (L (.kn e.1)).getD 0)) := by
    have := A.up
    unfold Uniq at *
    rw [List.map_map]; exact this
  refine slices_SortedFunc_api_Prefix_ok (by simp) ?_
  unfold slices_SortedFunc_api_Prefix_D
  simp (disch := omega) [slices_SortedFunc_api_Prefix_r0, slices_SortedFunc_api_Prefix_r1]
  refine collectP hBm (A.le' l1).mp um (by rw [List.length_map]; exact hl) (fun kv ks h2 l2 S hp nv => ?_)
  have hks : ((s.px.map fun e => (e.1, (L (.kn e.1)).getD 0)).map (·.1)) = s.px.map (·.1) := by rw [List.map_map]; rfl
  rw [hks] at hp
  simp (disch := omega) [slices_SortedFunc_api_Prefix_r2]
  have hkl : ks.length ≤ 1000000 := by rw [hp.length_eq, List.length_map]; exact hl
  refine sort_specP S (by omega) (fun d h3 hp3 hs3 k3 S3 => ?_)
  simp (disch := omega) [slices_SortedFunc_api_Prefix_r3]
  have l3 : Le h h3 := fun x o e => k3 x o (l2 _ _ (l1 _ _ e)) (fun q => by have := nv x q; rw [l1 _ _ e] at this; cases this)
  have hd : d = pfx s.px := srtP_unique hs3 pfx_srt ((hp3.trans hp).trans pfx_perm.symm)
  rw [hd] at S3
  clear hs3 hp3 hd hp hks S
  generalize hks2 : pfx s.px = ks at *
  obtain ⟨sp, cap, hv⟩ := S3.shape'
  have hlen : ks.length ≤ 1000000 := by rw [← hks2, pfx_length]; exact hl
  refine .to _ (.refl _) ?_
  simp (disch := omega) [dual_Dual_all_1_r1, hv]
  refine ⟨AlInv h l Bd ks kv I, ⟨ks.length, 0, h, by omega, I0, l3, S3, fun b e => none_of_le l1 (nv b e), by simp, by simp, by simp [hv], by simp, by simp⟩, ?_⟩
  rintro n env G ⟨i, g, hin, IV, lg, S, nv, e0, e1, e12, e13, e14⟩
  unfold dual_Dual_all_1_L0
  by_cases hm : n = 0
  · have : i = ks.length := by omega
    subst this
    rw [List.take_of_length_le (Nat.le_refl _)] at IV
    simp (disch := omega) [dual_Dual_all_1_r2, e13, e14]
    exact .to g lg (hQ _ g IV)
  · obtain ⟨k, hk⟩ : ∃ k, ks[i]? = some k := ⟨_, List.getElem?_eq_getElem (by omega)⟩
    have hi' : i < ks.length := by omega
    obtain ⟨b, cap, c, hv', hb, c0, c1⟩ := kp_at S hk
    subst hv'
    have St := hI _ g IV
    obtain ⟨L', s', A', _, _, kP, lP⟩ := St.d
    have hkm : (getM s.px k).isSome := pfx_get.1 (by rw [hks2]; exact List.mem_of_getElem? hk)
    obtain ⟨ln, hln⟩ := Option.isSome_iff_exists.1 hkm
    obtain ⟨bl, hbl⟩ := A.knB hln
    obtain ⟨ln', hln'⟩ := Option.isSome_iff_exists.1 ((kP k).trans hkm)
    simp (disch := omega) [dual_Dual_all_1_r2, e13, e14, hi']
    simp (disch := omega) [dual_Dual_all_1_r3, e12, e14, hi', hb, c0, c1]
    intro b5 hb5
    have f5 : (G.upd b5 (.cells #[.int .u32 (k.1 : Nat), .int .i64 k.2] 35)) b5 = some (.cells #[.int .u32 (k.1 : Nat), .int .i64 k.2] 35 (0, 0)) := upd_same
    have l5 : Le G (G.upd b5 (.cells #[.int .u32 (k.1 : Nat), .int .i64 k.2] 35)) := .new hb5
    simp (disch := omega)
    show dual_Dual_all_1_r4 _ (G.upd b5 (.cells #[.int .u32 (k.1 : Nat), .int .i64 k.2] 35)) _
    have S5 := S.le' l5
    have lg5 := lg.trans l5
    generalize G.upd b5 (.cells #[.int .u32 (k.1 : Nat), .int .i64 k.2] 35) = G5 at *
    have AG := A'.le' lg5
    obtain ⟨v2, ptG, _, _⟩ := AG.pt
    have lk := AG.lookK hln' (lP k bl hbl)
    have fB := lg5 _ _ (St.bd.trans hB)
    simp (disch := omega) [dual_Dual_all_1_r4, e0, e1, fB, ptG, f5, lk]
    have hsp : ks = ks.take i ++ k :: ks.drop (i + 1) := split_at hk
    refine ((step (ks.take i) k (ks.drop (i + 1)) g bl (fun v g' => v = .bool true ∧ I (ks.take i ++ [k]) g') hsp IV hbl (fun g' h' => ⟨rfl, h'⟩)).frame lg5).mono ?_
    rintro v5 G6 ⟨g5, ⟨rfl, I5⟩, rfl, dom⟩
    simp (disch := omega) [dual_Dual_all_1_r5, e14, wrap_i64]
    have le5 := over_le dom
    refine ⟨n - 1, by omega, i + 1, g5, by omega, by rw [take_snoc hk]; exact I5, le5, S5.keep (fun y o e e2 => over_out (nv y e) e2), fun y e => ?_, by simp [e0], by simp [e1], by simp [e12], by simp [e13], by simp⟩
    obtain ⟨o, ho⟩ := S5.alive e
    exact dom y o ho (nv y e)
end
end Go.Proofs.Ytpeoholnlokdcaa

/- DUAL in memory: the best way. -/
namespace Go.Proofs.Ytpeoholnlokdcaa
open Go
set_option linter.unusedSimpArgs false
set_option linter.unusedVariables false
set_option maxRecDepth 20000

theorem stays_of {h g : Hp} {L : RM} {x : DPt} {s : DS} {Bd : Nat} (e : g Bd = h Bd) (A : DualAt g L x s) : Stays h L x s Bd g := ⟨e, L, s, A, fun _ => rfl, fun _ _ e => e, fun _ => rfl, fun _ _ e => e⟩

section
variable {h : Hp} {L : RM} {x : DPt} {s : DS} {Q : Value → Hp → Prop}

def accW (o : Option Wy) : Wy := o.getD Wy.zero
/-- What the rounds of best keep. -/
structure BsI (h0 : Hp) (b6 b7 l : Nat) (oR : Obj) (o : Option Wy) (g : Hp) : Prop where
  f6 : g b6 = some (.cells (accW o).cells T_way (0, 0))
  f7 : g b7 = some (.cells #[.bool o.isSome] 4 (0, 0))
  fl : g l = some oR
  st : ∀ z ob, z ≠ b6 → z ≠ b7 → z ≠ l → h0 z = some ob → g z = some ob

structure BsE (env : Env) (h0 : Hp) (L : RM) (b : Nat) (below : Int) (b4 b5 b6 b7 l : Nat) : Prop where
  e4 : env 4 = .pointer (some ⟨b4, 0, none⟩)
  e5 : env 5 = .pointer (some ⟨b5, 0, none⟩)
  e6 : env 6 = .pointer (some ⟨b6, 0, none⟩)
  e7 : env 7 = .pointer (some ⟨b7, 0, none⟩)
  hu : ∀ t, 72 ≤ t → env t = undef
  f4 : h0 b4 = some (.cells #[ptrV b] 72 (0, 0))
  f5 : h0 b5 = some (.cells #[.int .i64 below] 3 (0, 0))
  n46 : b4 ≠ b6
  n47 : b4 ≠ b7
  n4l : b4 ≠ l
  n56 : b5 ≠ b6
  n57 : b5 ≠ b7
  n5l : b5 ≠ l
  n67 : b6 ≠ b7
  n6l : b6 ≠ l
  n7l : b7 ≠ l
  o6 : ∀ r, L r ≠ some b6
  o7 : ∀ r, L r ≠ some b7
  ol : ∀ r, L r ≠ some l

theorem BsI.le {h0 g g' : Hp} {b6 b7 l : Nat} {oR : Obj} {o : Option Wy} (B : BsI h0 b6 b7 l oR o g) (e : Le g g') : BsI h0 b6 b7 l oR o g' := ⟨e _ _ B.f6, e _ _ B.f7, e _ _ B.fl, fun z ob z6 z7 zl q => e _ _ (B.st z ob z6 z7 zl q)⟩

set_option maxHeartbeats 2000000 in
theorem bestStep {env : Env} {fn D l b4 b5 b6 b7 b : Nat} {below : Int} {h0 : Hp} {p : PK} {y : Kn} (A : DualAt h0 L x s) (hy : getM s.px p = some y) (hb : L (.kn p) = some b) (E : BsE env h0 L b below b4 b5 b6 b7 l)
    {o : Option Wy} {k : Int} {bl : Nat} {ln : Ln} (hk : getM s.lk k = some ln) (hbl : L (.li k) = some bl) {g : Hp} {K : Value → Hp → Prop} (B : BsI h0 b6 b7 l (recOf 72 env #[26, 27] dual_Dual_best_F0_a dual_Dual_best_F0_b .ready none fn D) o g)
    (hK : ∀ g', BsI h0 b6 b7 l (recOf 72 env #[26, 27] dual_Dual_best_F0_a dual_Dual_best_F0_b .ready none fn D) (bstep s.lk y below o k) g' → K (.bool true) g') : YOk Try.prog l #[.int .i64 k, ptrV bl] g K := by
  obtain ⟨e4, e5, e6, e7, hu, f4, f5, n46, n47, n4l, n56, n57, n5l, n67, n6l, n7l, o6, o7, ol⟩ := E
  refine dual_Dual_best_F0_yok B.fl hu ?_
  generalize hR : recOf 72 env #[26, 27] dual_Dual_best_F0_a dual_Dual_best_F0_b .ready none fn D = oR at *
  generalize hB2 : recOf 72 env #[26, 27] dual_Dual_best_F0_a dual_Dual_best_F0_b .busy none fn D = oB
  unfold rnd
  unfold dual_Dual_best_F0_A
  simp (disch := omega) [dual_Dual_best_r4, dual_Dual_best_r5]
  refine ⟨B.fl, ?_⟩
  have B1 : BsI h0 b6 b7 l oB o (g.upd l oB) := ⟨by rw [upd_ne n6l]; exact B.f6, by rw [upd_ne n7l]; exact B.f7, upd_same, fun z ob z6 z7 zl e => by rw [upd_ne zl]; exact B.st z ob z6 z7 zl e⟩
  generalize g.upd l oB = g1 at *
  have A1 : DualAt g1 L x s := A.keep fun r c ob e e2 => B1.st c ob (fun q => o6 r (by rw [← q]; exact e)) (fun q => o7 r (by rw [← q]; exact e)) (fun q => ol r (by rw [← q]; exact e)) e2
  have f4 := B1.st _ _ n46 n47 n4l f4
  have f5 := B1.st _ _ n56 n57 n5l f5
  -- the end of a round
  have fin1 : ∀ (o' : Option Wy) (g' : Hp), BsI h0 b6 b7 l oB o' g' → bstep s.lk y below o k = o' → g' l = some oB ∧ K (.bool true) (g'.upd l oR) := by
    intro o' g' B' e
    refine ⟨B'.fl, hK _ ?_⟩
    rw [e]
    exact ⟨by rw [upd_ne n6l]; exact B'.f6, by rw [upd_ne n7l]; exact B'.f7, upd_same, fun z ob z6 z7 zl e => by rw [upd_ne zl]; exact B'.st z ob z6 z7 zl e⟩
  obtain ⟨r, oo, ov, Kn⟩ := A1.known hy hb
  have pt := Kn.pt
  have lk := fun h2 (l2 : Le g1 h2) => lookRd (p := k) (Kn.mr.le l2)
  have lk1 := lk g1 (.refl _)
  unfold dual_Dual_best_F0_B
  simp (disch := omega) [dual_Dual_best_r6, e4, f4, pt, lk1]
  intro b10 hb10
  simp (disch := omega)
  have l10 : Le g1 (g1.upd b10 (.cells ((getM y.rep k).getD Wy.zero).cells T_way)) := .new hb10
  have f10 : (g1.upd b10 (.cells ((getM y.rep k).getD Wy.zero).cells T_way)) b10 = some (.cells ((getM y.rep k).getD Wy.zero).cells T_way (0, 0)) := upd_same
  show sq (rg dual_Dual_best_r7) _ _ _ (g1.upd b10 (.cells ((getM y.rep k).getD Wy.zero).cells T_way))
  have B2 := B1.le l10
  have A2 := A1.le' l10
  have f5 := l10 _ _ f5
  generalize g1.upd b10 (.cells ((getM y.rep k).getD Wy.zero).cells T_way) = g2 at *
  unfold bstep at fin1
  rw [hk] at fin1
  cases hg : getM y.rep k with
  | none =>
    rw [hg] at fin1
    simp (disch := omega) [dual_Dual_best_r7]
    unfold rndK
    simp only [hR, hB2]
    exact fin1 o g2 B2 rfl
  | some r =>
    rw [hg] at fin1 f10
    simp only [Option.getD_some] at f10
    simp (disch := omega) [dual_Dual_best_r7, f10, e5, f5]
    refine ofVM (v := r.v) (fun g3 l3 => ?_)
    have f53 := l3 _ _ f5
    have f103 := l3 _ _ f10
    have B3 := B2.le l3
    have A3 := A2.le' l3
    by_cases c1 : below ≤ ofV r.v
    · simp only [if_pos c1] at fin1
      simp (disch := omega) [f53, c1]
      unfold rndK
      simp only [hR, hB2]
      exact fin1 o g3 B3 rfl
    · simp only [if_neg c1] at fin1
      obtain ⟨bl', q1, fl⟩ := A3.li k ln hk
      rw [hbl] at q1
      cases q1
      simp (disch := omega) [f53, c1]
      generalize hw : candW ln r k = w at *
      have rest : ∀ (env2 : Env) (g5 : Hp) (b12 : Nat), BsI h0 b6 b7 l oB o g5 → g5 b12 = some (.cells w.cells T_way (0, 0)) → env2 6 = .pointer (some ⟨b6, 0, none⟩) → env2 7 = .pointer (some ⟨b7, 0, none⟩) → env2 12 = .pointer (some ⟨b12, 0, none⟩) →
          dual_Dual_best_r9 env2 g5 (thenK (cnd (Operand.tmp 68) (rg dual_Dual_best_r10) (ex Exit.normal)) (inBlk 1 (rndK l 72 env #[26, 27] dual_Dual_best_F0_a dual_Dual_best_F0_b fn D K)) .normal) := by
        intro env2 g5 b12 B5 f12 e6 e7 e12
        simp (disch := omega) [dual_Dual_best_r9, f12, e12]
        refine reachVM (v := w.v) (fun g6 l6 => ?_)
        have f126 := l6 _ _ f12
        have B6 := B5.le l6
        cases c2 : reachV w.v with
        | false =>
          simp (disch := omega)
          unfold rndK
          simp only [hR, hB2]
          exact fin1 o g6 B6 (by simp [takeW, c2])
        | true =>
          have f7 := B6.f7
          have put : ∀ (env2 : Env) (g7 : Hp), BsI h0 b6 b7 l oB o g7 → g7 b12 = some (.cells w.cells T_way (0, 0)) → env2 6 = .pointer (some ⟨b6, 0, none⟩) → env2 7 = .pointer (some ⟨b7, 0, none⟩) → env2 12 = .pointer (some ⟨b12, 0, none⟩) →
              (∀ g', BsI h0 b6 b7 l oB (some w) g' → g' l = some oB ∧ K (.bool true) (g'.upd l oR)) →
              dual_Dual_best_r10 env2 g7 (inBlk 1 (rndK l 72 env #[26, 27] dual_Dual_best_F0_a dual_Dual_best_F0_b fn D K) .normal) := by
            intro env2 g7 B7 f12 e6 e7 e12 go
            have f6 := B7.f6
            have f7 := B7.f7
            simp (disch := omega) [dual_Dual_best_r10, e6, e7, e12, f12]
            refine (stA_of f6 (by rfl) (by rfl)).mpr ?_
            have f7' : (g7.upd b6 (.cells w.cells T_way (0, 0))) b7 = some (.cells #[.bool o.isSome] 4 (0, 0)) := by rw [upd_ne n67.symm]; exact f7
            simp (disch := omega) [e7, f7, n67.symm]
            unfold rndK
            simp only [hR, hB2]
            refine go ((g7.upd b6 (.cells w.cells T_way (0, 0))).upd b7 (.cells #[.bool true] 4 (0, 0))) ⟨by rw [upd_ne n67, upd_same]; rfl, upd_same, by rw [upd_ne n7l.symm, upd_ne n6l.symm]; exact B7.fl, fun z ob z6 z7 zl e => by rw [upd_ne z7, upd_ne z6]; exact B7.st z ob z6 z7 zl e⟩
          cases o with
          | none =>
            simp (disch := omega) [e7, e12, f7]
            refine put _ g6 B6 f126 ?_ ?_ ?_ (fun g' B' => fin1 _ g' B' (by simp [takeW, c2])) <;> simp [e6, e7, e12]
          | some bw =>
            have f6 := B6.f6
            simp (disch := omega) [e7, e6, e12, f7, f126, f6]
            refine aheadM (w := w) (y := bw) (fun g7 l7 => ?_)
            cases c3 : aheadW w bw with
            | true =>
              simp (disch := omega)
              refine put _ g7 (B6.le l7) (l7 _ _ f126) ?_ ?_ ?_ (fun g' B' => fin1 _ g' B' (by simp [takeW, c2, c3])) <;> simp [e6, e7, e12]
            | false =>
              simp (disch := omega)
              unfold rndK
              simp only [hR, hB2]
              exact fin1 _ g7 (B6.le l7) (by simp [takeW, c2, c3])
      simp (disch := omega) [dual_Dual_best_r8, f103, fl]
      refine ⟨?_, ?_⟩
      · refine joinM (v := r.v) (w := ln.v) (fun g4 l4 => ?_)
        have f104 := l4 _ _ f103
        have B4 := B3.le l4
        simp (disch := omega) [f104]
        intro b12 hb12
        have n12 := ne_new f104 hb12
        simp (disch := omega) [n12, f104]
        have B5 := B4.le (.new (o := .cells (candW ln r k).cells T_way (0, 0)) hb12)
        rw [hw] at B5
        refine rest _ (g4.upd b12 (.cells (candW ln r k).cells T_way)) b12 (by rw [hw]; exact B5) (by rw [hw]; exact upd_same) ?_ ?_ ?_ <;> simp [e6, e7]
      · intro b12 hb12
        have n12 := ne_new f103 hb12
        have n12' := ne_new fl hb12
        simp (disch := omega) [n12, n12', f103, fl]
        refine joinM (v := r.v) (w := ln.v) (fun g4 l4 => ?_)
        have f104 := l4 _ _ (Le.new (o := .cells Wy.zero.cells T_way (0, 0)) hb12 _ _ f103)
        have B4 := (B3.le (.new (o := .cells Wy.zero.cells T_way (0, 0)) hb12)).le l4
        have f12 : g4 b12 = some (.cells Wy.zero.cells T_way (0, 0)) := l4 _ _ upd_same
        have m6 := ne_new B3.f6 hb12
        have m7 := ne_new B3.f7 hb12
        have ml := ne_new B3.fl hb12
        simp (disch := omega) [f104]
        refine (stA_of f12 (by rfl) (by rfl)).mpr ?_
        have B5 : BsI h0 b6 b7 l oB o (g4.upd b12 (.cells (candW ln r k).cells T_way (0, 0))) := ⟨by rw [upd_ne m6]; exact B4.f6, by rw [upd_ne m7]; exact B4.f7, by rw [upd_ne ml]; exact B4.fl, fun z ob z6 z7 zl e => by
          rw [upd_ne (by rintro rfl; rw [B3.st _ _ z6 z7 zl e] at hb12; cases hb12)]; exact B4.st z ob z6 z7 zl e⟩
        refine ⟨trivial, ?_⟩
        refine rest _ (g4.upd b12 (.cells (candW ln r k).cells T_way)) b12 B5 (by rw [hw]; exact upd_same) ?_ ?_ ?_ <;> simp [e6, e7]

set_option maxHeartbeats 2000000 in
theorem dbestM {p : PK} {y : Kn} {b : Nat} {below : Int} (A : DualAt h L x s) (hy : getM s.px p = some y) (hb : L (.kn p) = some b) (hl : s.lk.length ≤ 1000000)
    (hQ : ∀ h', Le h h' → Q (.tuple #[(accW (bestS s.lk y below)).val, .bool (bestS s.lk y below).isSome]) h') :
    Ok Try.prog F_dual_Dual_best #[ptrV x.p, ptrV b, .int .i64 below] h Q := by
  refine dual_Dual_best_ok (by simp) ?_
  unfold dual_Dual_best_D
  simp (disch := omega) [dual_Dual_best_r0]
  intro b4 hb4 b5 hb5 b6 hb6 b7 hb7
  obtain ⟨n76, h76⟩ := upd_none hb7
  obtain ⟨n75, h75⟩ := upd_none h76
  obtain ⟨n74, h74⟩ := upd_none h75
  obtain ⟨n65, h65⟩ := upd_none hb6
  obtain ⟨n64, h64⟩ := upd_none h65
  obtain ⟨n54, h54⟩ := upd_none hb5
  have key : ∀ (env : Env) (g : Hp), env 0 = ptrV x.p → env 4 = .pointer (some ⟨b4, 0, none⟩) → env 5 = .pointer (some ⟨b5, 0, none⟩) → env 6 = .pointer (some ⟨b6, 0, none⟩) → env 7 = .pointer (some ⟨b7, 0, none⟩) → Le h g →
      g b4 = some (.cells #[ptrV b] 72 (0, 0)) → g b5 = some (.cells #[.int .i64 below] 3 (0, 0)) → g b6 = some (.cells (accW y.own).cells T_way (0, 0)) → g b7 = some (.cells #[.bool y.own.isSome] 4 (0, 0)) →
      (sq (sq (rg dual_Dual_best_r3) (blk 0 (rfn Try.prog 72 (Operand.tmp 25) #[26, 27] dual_Dual_best_F0_a dual_Dual_best_F0_b))) (sq (rg dual_Dual_best_r11) (ex Exit.ret))) (fin Try.prog [ResultVar.cell 6 74, ResultVar.cell 7 4] Q) env g := by
    intro env g e0 e4 e5 e6 e7 lg f4 f5 f6 f7
    simp (disch := omega) [dual_Dual_best_r3, e0]
    refine neighboursM (fun Bd g1 l1 hBd nBd => ?_)
    simp (disch := omega)
    refine ⟨F_dual_Dual_neighbours_1, #[], #[.pointer (some ⟨Bd, 0, none⟩)], by simp, fun l fn D hl2 hu => ?_⟩
    simp (disch := omega)
    have lg1 := lg.trans l1
    have nB6 : Bd ≠ b6 := (ne_new f6 nBd).symm
    have nB7 : Bd ≠ b7 := (ne_new f7 nBd).symm
    have f4 := l1 _ _ f4
    have f5 := l1 _ _ f5
    have f6 := l1 _ _ f6
    have f7 := l1 _ _ f7
    have nl6 : b6 ≠ l := ne_new f6 hl2
    have nl7 : b7 ≠ l := ne_new f7 hl2
    have nl4 : b4 ≠ l := ne_new f4 hl2
    have nl5 : b5 ≠ l := ne_new f5 hl2
    have nlB : Bd ≠ l := ne_new hBd hl2
    have hlh : h l = none := none_of_le lg1 hl2
    have key2 : ∀ (env : Env), env 4 = .pointer (some ⟨b4, 0, none⟩) → env 5 = .pointer (some ⟨b5, 0, none⟩) → env 6 = .pointer (some ⟨b6, 0, none⟩) → env 7 = .pointer (some ⟨b7, 0, none⟩) → (∀ t, 72 ≤ t → env t = undef) →
        Ok Try.prog F_dual_Dual_neighbours_1 #[.func (.yield l) #[] #[], .pointer (some ⟨Bd, 0, none⟩)] (g1.upd l (recOf 72 env #[26, 27] dual_Dual_best_F0_a dual_Dual_best_F0_b .ready none fn D)) (fun _ h2 =>
          BsI (g1.upd l (recOf 72 env #[26, 27] dual_Dual_best_F0_a dual_Dual_best_F0_b .ready none fn D)) b6 b7 l (recOf 72 env #[26, 27] dual_Dual_best_F0_a dual_Dual_best_F0_b .ready none fn D) (bestS s.lk y below) h2) := by
      intro env e4 e5 e6 e7 hu
      have La : ∀ (o : Obj) (z : Nat) (ob : Obj), z ≠ l → g1 z = some ob → (g1.upd l o) z = some ob := fun o z ob n e => by rw [upd_ne n]; exact e
      have A0 : ∀ o, DualAt (g1.upd l o) L x s := fun o => (A.le' lg1).keep fun r c ob e e2 => La o _ _ (by rintro rfl; obtain ⟨o3, e3⟩ := A.al r _ e; rw [hlh] at e3; cases e3) e2
      have E : BsE env (g1.upd l (recOf 72 env #[26, 27] dual_Dual_best_F0_a dual_Dual_best_F0_b .ready none fn D)) L b below b4 b5 b6 b7 l :=
        ⟨e4, e5, e6, e7, hu, La _ _ _ nl4 f4, La _ _ _ nl5 f5, Ne.symm n64, Ne.symm n74, nl4, Ne.symm n65, Ne.symm n75, nl5, Ne.symm n76, nl6, nl7, A.out_ h64, A.out_ h74, A.out_ hlh⟩
      have A1 := A0 (recOf 72 env #[26, 27] dual_Dual_best_F0_a dual_Dual_best_F0_b .ready none fn D)
      have fBd := La (recOf 72 env #[26, 27] dual_Dual_best_F0_a dual_Dual_best_F0_b .ready none fn D) _ _ nlB hBd
      refine nb1M fBd A1 hl (fun V g => BsI (g1.upd l (recOf 72 env #[26, 27] dual_Dual_best_F0_a dual_Dual_best_F0_b .ready none fn D)) b6 b7 l (recOf 72 env #[26, 27] dual_Dual_best_F0_a dual_Dual_best_F0_b .ready none fn D) (V.foldl (bstep s.lk y below) y.own) g)
        ⟨La _ _ _ nl6 f6, La _ _ _ nl7 f7, upd_same, fun z ob _ _ _ e => e⟩ (fun V g B => ?_) (fun V k rest g bl K hsp B hbl hK => ?_) (fun v g B => B)
      · exact stays_of ((B.st _ _ nB6 nB7 nlB fBd).trans fBd.symm) (A1.keep fun r c ob e e2 => B.st c ob (fun q => E.o6 r (by rw [← q]; exact e)) (fun q => E.o7 r (by rw [← q]; exact e)) (fun q => E.ol r (by rw [← q]; exact e)) e2)
      · obtain ⟨ln, hln⟩ := Option.isSome_iff_exists.1 (nbrs_get.1 (by rw [hsp]; simp : k ∈ nbrs s.lk))
        refine bestStep A1 hy hb E hln hbl B (fun g' B' => hK g' ?_)
        rw [List.foldl_append]
        exact B'
    refine (key2 _ ?_ ?_ ?_ ?_ ?_).mono ?_
    · simp [e4]
    · simp [e5]
    · simp [e6]
    · simp [e7]
    · intro t ht; exact hu t ht
    · intro _ h2 B
      refine .inl ⟨B.fl, ?_⟩
      have f6r : (h2.rem l) b6 = some (.cells (accW (bestS s.lk y below)).cells T_way (0, 0)) := by rw [rem_ne nl6]; exact B.f6
      have f7r : (h2.rem l) b7 = some (.cells #[.bool (bestS s.lk y below).isSome] 4 (0, 0)) := by rw [rem_ne nl7]; exact B.f7
      have Lr : Le h (h2.rem l) := fun z ob e => by
        have nz6 : z ≠ b6 := ne_new e h64
        have nz7 : z ≠ b7 := ne_new e h74
        have nzl : z ≠ l := ne_new e hlh
        rw [rem_ne nzl]; exact B.st z ob nz6 nz7 nzl (by rw [upd_ne nzl]; exact lg1 _ _ e)
      generalize h2.rem l = h3 at *
      simp (disch := omega) [dual_Dual_best_r11, e6, e7, f6r, f7r]
      refine (stA_of f6r (by rfl) (by rfl)).mpr ?_
      have e9 : h3.upd b6 (.cells (accW (bestS s.lk y below)).cells T_way (0, 0)) = h3 := upd_self f6r
      have e10 : h3.upd b7 (.cells #[.bool (bestS s.lk y below).isSome] 4 (0, 0)) = h3 := upd_self f7r
      show (_ ∧ True) ∧ arun _ _ (h3.upd b6 (.cells (accW (bestS s.lk y below)).cells T_way (0, 0))) _
      rw [e9]
      simp (disch := omega) [e6, e7, f6r, f7r, e10]
      exact .to _ (.refl _) (hQ _ Lr)
  have l4 : Le h (h.upd b4 (.cells #[ptrV b] 72)) := .new hb4
  have l5 := l4.trans (Le.new (o := .cells #[.int .i64 below] 3) hb5)
  have l6 := l5.trans (Le.new (o := .cells Wy.zero.cells T_way) hb6)
  have l7 := l6.trans (Le.new (o := .cells #[.bool false] 4) hb7)
  show sq (rg dual_Dual_best_r1) _ _ _ ((((h.upd b4 (.cells #[ptrV b] 72)).upd b5 (.cells #[.int .i64 below] 3)).upd b6 (.cells Wy.zero.cells T_way)).upd b7 (.cells #[.bool false] 4))
  have F4 : ((((h.upd b4 (.cells #[ptrV b] 72)).upd b5 (.cells #[.int .i64 below] 3)).upd b6 (.cells Wy.zero.cells T_way)).upd b7 (.cells #[.bool false] 4)) b4 = some (.cells #[ptrV b] 72) := by rw [upd_ne (Ne.symm n74), upd_ne (Ne.symm n64), upd_ne (Ne.symm n54), upd_same]
  have F5 : ((((h.upd b4 (.cells #[ptrV b] 72)).upd b5 (.cells #[.int .i64 below] 3)).upd b6 (.cells Wy.zero.cells T_way)).upd b7 (.cells #[.bool false] 4)) b5 = some (.cells #[.int .i64 below] 3) := by rw [upd_ne (Ne.symm n75), upd_ne (Ne.symm n65), upd_same]
  have F6 : ((((h.upd b4 (.cells #[ptrV b] 72)).upd b5 (.cells #[.int .i64 below] 3)).upd b6 (.cells Wy.zero.cells T_way)).upd b7 (.cells #[.bool false] 4)) b6 = some (.cells Wy.zero.cells T_way) := by rw [upd_ne (Ne.symm n76), upd_same]
  have F7 : ((((h.upd b4 (.cells #[ptrV b] 72)).upd b5 (.cells #[.int .i64 below] 3)).upd b6 (.cells Wy.zero.cells T_way)).upd b7 (.cells #[.bool false] 4)) b7 = some (.cells #[.bool false] 4) := upd_same
  generalize (((h.upd b4 (.cells #[ptrV b] 72)).upd b5 (.cells #[.int .i64 below] 3)).upd b6 (.cells Wy.zero.cells T_way)).upd b7 (.cells #[.bool false] 4) = g0 at *
  have A0 := A.le' l7
  obtain ⟨r, oo, ov, Kn⟩ := A0.known hy hb
  have pt := Kn.pt
  rcases Kn.ow with ⟨q1, q2⟩ | ⟨w, a, q1, q2, q3, q4⟩
  · subst q2
    simp (disch := omega) [dual_Dual_best_r1, F4, pt]
    refine key _ g0 ?_ ?_ ?_ ?_ ?_ l7 F4 F5 (by rw [q1]; exact F6) (by rw [q1]; exact F7) <;> simp
  · subst q2
    simp (disch := omega) [dual_Dual_best_r1, F4, pt]
    simp (disch := omega) [dual_Dual_best_r2, F4, pt, q4]
    refine (stA_of F6 (by rfl) (by rfl)).mpr ?_
    simp (disch := omega) [F7, n76]
    have na6 : a ≠ b6 := fun q => A.out_ h64 _ (by rw [← q]; exact q3)
    refine key _ ((g0.upd b6 (.cells w.cells T_way)).upd b7 (.cells #[.bool true] 4)) ?_ ?_ ?_ ?_ ?_ ((l7.put h64).put h74) (by rw [upd_ne (Ne.symm n74), upd_ne (Ne.symm n64)]; exact F4) (by rw [upd_ne (Ne.symm n75), upd_ne (Ne.symm n65)]; exact F5) (by rw [q1, upd_ne (Ne.symm n76), upd_same]; rfl) (by rw [q1]; exact upd_same) <;> simp
end
end Go.Proofs.Ytpeoholnlokdcaa

/- DUAL in memory: settle. -/
namespace Go.Proofs.Ytpeoholnlokdcaa
open Go
set_option linter.unusedSimpArgs false
set_option linter.unusedVariables false
set_option maxRecDepth 20000

theorem sendS_lk {s : DS} {k code : Int} {ack : Nat} {p : PK} {w : Wy} (j : Int) : (getM (sendS s k code ack p w).lk j).isSome = (getM s.lk j).isSome := by
  unfold sendS
  cases h : getM s.lk k with
  | none => rfl
  | some l =>
    simp only [getM_setM]
    split
    · rename_i e; subst e; rw [h]; rfl
    · rfl
theorem sendS_px {s : DS} {k code : Int} {ack : Nat} {p : PK} {w : Wy} : (sendS s k code ack p w).px = s.px := by unfold sendS; split <;> rfl
theorem sendS_len {s : DS} {k code : Int} {ack : Nat} {p : PK} {w : Wy} : (sendS s k code ack p w).lk.length = s.lk.length := by
  unfold sendS
  split
  · rename_i l h; simp only [setM_length, h]; rfl
  · rfl
theorem sendS_out {s : DS} {k code : Int} {ack : Nat} {p : PK} {w : Wy} : (sendS s k code ack p w).out.length ≤ s.out.length + 1 := by
  unfold sendS; split <;> simp
theorem setK_px {s : DS} {p : PK} {y y' : Kn} (hy : getM s.px p = some y) (q : PK) : (getM (setK s p y').px q).isSome = (getM s.px q).isSome := by
  unfold setK
  simp only [getM_setM]
  split
  · rename_i e; subst e; rw [hy]; rfl
  · rfl
theorem setK_length {s : DS} {p : PK} {y y' : Kn} (hy : getM s.px p = some y) : (setK s p y').px.length = s.px.length := by
  unfold setK
  simp only [setM_length, hy]; rfl
theorem askS_some {s : DS} {p : PK} {w : Wy} {code k : Int} {y : Kn} (hy : getM s.px p = some y) : askS p w code s k = if code = 2 then setK (sendS s k code 0 p w) p { y with opn := setM k (seqS s.lk k) y.opn } else sendS s k code 0 p w := by
  unfold askS; rw [hy]
theorem askS_lk {s : DS} {p : PK} {w : Wy} {code k : Int} (j : Int) : (getM (askS p w code s k).lk j).isSome = (getM s.lk j).isSome := by
  unfold askS
  split
  · split
    · exact sendS_lk j
    · rfl
  · exact sendS_lk j
theorem askS_px {s : DS} {p : PK} {w : Wy} {code k : Int} (q : PK) : (getM (askS p w code s k).px q).isSome = (getM s.px q).isSome := by
  unfold askS
  split
  · split
    · rename_i y hy; rw [setK_px (by rw [sendS_px]; exact hy), sendS_px]
    · rfl
  · rw [sendS_px]
theorem askS_len {s : DS} {p : PK} {w : Wy} {code k : Int} : (askS p w code s k).lk.length = s.lk.length ∧ (askS p w code s k).px.length = s.px.length := by
  unfold askS
  split
  · split
    · rename_i y hy; exact ⟨sendS_len, by rw [setK_length (by rw [sendS_px]; exact hy), sendS_px]⟩
    · exact ⟨rfl, rfl⟩
  · exact ⟨sendS_len, by rw [sendS_px]⟩
theorem askS_out {s : DS} {p : PK} {w : Wy} {code k : Int} : (askS p w code s k).out.length ≤ s.out.length + 1 := by
  unfold askS
  split
  · split
    · exact sendS_out
    · omega
  · exact sendS_out
theorem asks_lk {p : PK} {w : Wy} {code : Int} : ∀ {V : List Int} {s : DS} (j : Int), (getM (V.foldl (askS p w code) s).lk j).isSome = (getM s.lk j).isSome
  | [], _, _ => rfl
  | k :: V, s, j => by rw [List.foldl_cons, asks_lk, askS_lk]
theorem asks_px {p : PK} {w : Wy} {code : Int} : ∀ {V : List Int} {s : DS} (q : PK), (getM (V.foldl (askS p w code) s).px q).isSome = (getM s.px q).isSome
  | [], _, _ => rfl
  | k :: V, s, j => by rw [List.foldl_cons, asks_px, askS_px]
theorem asks_len {p : PK} {w : Wy} {code : Int} : ∀ {V : List Int} {s : DS}, (V.foldl (askS p w code) s).lk.length = s.lk.length ∧ (V.foldl (askS p w code) s).px.length = s.px.length
  | [], _ => ⟨rfl, rfl⟩
  | k :: V, s => by rw [List.foldl_cons, asks_len.1, asks_len.2]; exact askS_len
theorem asks_out {p : PK} {w : Wy} {code : Int} : ∀ {V : List Int} {s : DS}, (V.foldl (askS p w code) s).out.length ≤ s.out.length + V.length
  | [], _ => by simp
  | k :: V, s => by
    rw [List.foldl_cons, List.length_cons]
    have := asks_out (p := p) (w := w) (code := code) (V := V) (s := askS p w code s k)
    have := askS_out (s := s) (p := p) (w := w) (code := code) (k := k)
    omega

theorem eqfV {h : Hp} {a b : Vec} : rrun Try.prog (Op.equalIn 9999 23 a.v b.v) h = some (decide (a.b = b.b) && (decide (a.d = b.d) && (decide (a.h = b.h) && true))) := by
  rw [show Op.equalIn 9999 23 a.v b.v = Op.equalIn (9998 + 1) 23 a.v b.v from rfl, rr_equalIn_struct Try.underlying23 (by kernel_rfl)]
  exact rr_eqf_cons (a := .int .i64 a.b) (b := .int .i64 b.b) (by rfl) (by kernel_rfl) (by kernel_rfl) (by kernel_rfl) (rr_eqf_cons (a := .int .i64 a.d) (b := .int .i64 b.d) (by rfl) (by kernel_rfl) (by kernel_rfl) (by kernel_rfl) (rr_eqf_cons (a := .int .i64 a.h) (b := .int .i64 b.h) (by rfl) (by kernel_rfl) (by kernel_rfl) (by kernel_rfl) rr_eqf_nil))
theorem eqW {h : Hp} {x y : Operand} {a b : Wy} : rrun Try.prog (bop .eql 74 x y a.val b.val) h = some (.bool (decide (a = b))) := by
  have : rrun Try.prog (bop .eql 74 x y a.val b.val) h = some (.bool ((decide (a.v.b = b.v.b) && (decide (a.v.d = b.v.d) && (decide (a.v.h = b.v.h) && true))) && (decide ((a.tg : Int) = b.tg) && (decide (a.nx = b.nx) && true)))) :=
    rr_eql_struct Try.underlying74 (by kernel_rfl) (by kernel_rfl) (rr_eqf_cons (a := a.v.v) (b := b.v.v) (by rfl) (by kernel_rfl) (by kernel_rfl) eqfV (rr_eqf_cons (a := .int .u16 (a.tg : Nat)) (b := .int .u16 (b.tg : Nat)) (by rfl) (by kernel_rfl) (by kernel_rfl) (by kernel_rfl) (rr_eqf_cons (a := .int .i64 a.nx) (b := .int .i64 b.nx) (by rfl) (by kernel_rfl) (by kernel_rfl) (by kernel_rfl) rr_eqf_nil)))
  rw [this]
  congr 2
  rw [Bool.eq_iff_iff]
  simp only [Bool.and_true, Bool.and_eq_true, decide_eq_true_eq]
  rcases a with ⟨⟨a1, a2, a3⟩, a4, a5⟩
  rcases b with ⟨⟨b1, b2, b3⟩, b4, b5⟩
  simp only [Wy.mk.injEq, Vec.mk.injEq]
  constructor
  · rintro ⟨h1, h2, h3⟩; exact ⟨h1, by omega, h3⟩
  · rintro ⟨h1, h2, h3⟩; exact ⟨h1, by omega, h3⟩

section
variable {h : Hp} {L : RM} {x : DPt} {s : DS} {Q : Value → Hp → Prop}

structure StE (env : Env) (h0 : Hp) (L : RM) (x : DPt) (w : Wy) (code : Int) (b b2 b3 b4 b8 l : Nat) : Prop where
  e2 : env 2 = .pointer (some ⟨b2, 0, none⟩)
  e3 : env 3 = .pointer (some ⟨b3, 0, none⟩)
  e4 : env 4 = .pointer (some ⟨b4, 0, none⟩)
  e8 : env 8 = .pointer (some ⟨b8, 0, none⟩)
  hu : ∀ t, 92 ≤ t → env t = undef
  f2 : h0 b2 = some (.cells #[ptrV x.p] 25 (0, 0))
  f3 : h0 b3 = some (.cells #[ptrV b] 72 (0, 0))
  f4 : h0 b4 = some (.cells w.cells T_way (0, 0))
  f8 : h0 b8 = some (.cells #[.int .i64 code] 3 (0, 0))
  o2 : ∀ r, L r ≠ some b2
  o3 : ∀ r, L r ≠ some b3
  o4 : ∀ r, L r ≠ some b4
  o8 : ∀ r, L r ≠ some b8
  ol : ∀ r, L r ≠ some l
  n2 : b2 ≠ l
  n3 : b3 ≠ l
  n4 : b4 ≠ l
  n8 : b8 ≠ l

theorem DualAt.putL {g : Hp} {L : RM} {x : DPt} {s : DS} (A : DualAt g L x s) {l : Nat} (ol : ∀ r, L r ≠ some l) (o : Obj) : DualAt (g.upd l o) L x s :=
  A.keep fun r c ob e e2 => by rw [upd_ne (by rintro rfl; exact ol r e)]; exact e2
theorem DF.old {h0 g : Hp} {L L1 : RM} (F : DF h0 L g L1) {l : Nat} {o : Obj} (f0 : h0 l = some o) (ol : ∀ r, L r ≠ some l) : ∀ r, L1 r ≠ some l := fun r q => by
  rcases F.new r l q with ⟨r', q'⟩ | q'
  · exact ol r' q'
  · rw [f0] at q'; cases q'
theorem back {h0 g g' : Hp} {L L1 L' : RM} {x : DPt} {s' : DS} {l : Nat} {oR oB : Obj} (f0 : h0 l = some oR) (ol : ∀ r, L r ≠ some l) (F1 : DF h0 L g L1) (q : DQ (g.upd l oB) L1 x s' g' L') : DQ h0 L x s' (g'.upd l oR) L' ∧ g' l = some oB := by
  have o1 := F1.old f0 ol
  have f1 : g' l = some oB := q.fr.keep l oB upd_same o1
  have o2 := q.fr.old (l := l) upd_same o1
  refine ⟨⟨q.at_.putL o2 _, ⟨fun y o e n => ?_, fun r y e => ?_, fun p b e => q.fr.kp p b (F1.kp p b e)⟩⟩, f1⟩
  · by_cases c : y = l
    · subst c; rw [f0] at e; cases e; exact upd_same
    · rw [upd_ne c]
      have e1 := F1.keep y o e n
      exact q.fr.keep y o (by rw [upd_ne c]; exact e1) (F1.old e n)
  · rcases q.fr.new r y e with ⟨r', q'⟩ | q'
    · exact F1.new r' y q'
    · by_cases c : y = l
      · subst c; rw [upd_same] at q'; cases q'
      · rw [upd_ne c] at q'
        by_cases c2 : ∃ r', L r' = some y
        · exact .inl c2
        · cases e9 : h0 y with
          | none => exact .inr rfl
          | some o => rw [F1.keep y o e9 (fun r q => c2 ⟨r, q⟩)] at q'; cases q'

/-- What the rounds of settle keep. -/
structure StI (h0 : Hp) (L : RM) (x : DPt) (s : DS) (l : Nat) (oR : Obj) (g : Hp) : Prop where
  q : ∃ L', DQ h0 L x s g L' ∧ ∀ r, r ≠ .ou → L' r = L r
  fl : g l = some oR

set_option maxHeartbeats 2000000 in
theorem settleStep {env : Env} {fn D l b2 b3 b4 b8 b : Nat} {h0 : Hp} {p : PK} {w : Wy} {code : Int} {sV : DS} (hb : L (.kn p) = some b) (E : StE env h0 L x w code b b2 b3 b4 b8 l)
    {y : Kn} (hy : getM sV.px p = some y) {k : Int} {bl : Nat} {ln : Ln} (hk : getM sV.lk k = some ln) (ho : sV.out.length ≤ 1000000) (f0 : h0 l = some (recOf 92 env #[50, 51] dual_Dual_settle_F0_a dual_Dual_settle_F0_b .ready none fn D)) {g : Hp} {K : Value → Hp → Prop} (B : StI h0 L x sV l (recOf 92 env #[50, 51] dual_Dual_settle_F0_a dual_Dual_settle_F0_b .ready none fn D) g)
    (hK : ∀ g', StI h0 L x (askS p w code sV k) l (recOf 92 env #[50, 51] dual_Dual_settle_F0_a dual_Dual_settle_F0_b .ready none fn D) g' → K (.bool true) g') : YOk Try.prog l #[.int .i64 k, ptrV bl] g K := by
  obtain ⟨e2, e3, e4, e8, hu, f2, f3, f4, f8, o2, o3, o4, o8, ol, n2, n3, n4, n8⟩ := E
  obtain ⟨⟨L1, ⟨A1, F1⟩, st⟩, fl⟩ := B
  refine dual_Dual_settle_F0_yok fl hu ?_
  generalize hR : recOf 92 env #[50, 51] dual_Dual_settle_F0_a dual_Dual_settle_F0_b .ready none fn D = oR at *
  generalize hB2 : recOf 92 env #[50, 51] dual_Dual_settle_F0_a dual_Dual_settle_F0_b .busy none fn D = oB
  unfold rnd
  unfold dual_Dual_settle_F0_A
  simp (disch := omega) [dual_Dual_settle_r10]
  refine ⟨fl, ?_⟩
  have ol1 := F1.old f0 ol
  have A2 := A1.putL ol1 oB
  have g2 : (g.upd l oB) b2 = some (.cells #[ptrV x.p] 25 (0, 0)) := by rw [upd_ne n2]; exact F1.keep _ _ f2 o2
  have g3 : (g.upd l oB) b3 = some (.cells #[ptrV b] 72 (0, 0)) := by rw [upd_ne n3]; exact F1.keep _ _ f3 o3
  have g4 : (g.upd l oB) b4 = some (.cells w.cells T_way (0, 0)) := by rw [upd_ne n4]; exact F1.keep _ _ f4 o4
  have g8 : (g.upd l oB) b8 = some (.cells #[.int .i64 code] 3 (0, 0)) := by rw [upd_ne n8]; exact F1.keep _ _ f8 o8
  have bk : ∀ (s' : DS) (g' : Hp) (L' : RM), DQ (g.upd l oB) L1 x s' g' L' → DQ h0 L x s' (g'.upd l oR) L' ∧ g' l = some oB := fun s' g' L' q => back f0 ol F1 q
  generalize g.upd l oB = g1 at *
  have hb1 : L1 (.kn p) = some b := (st _ (by simp)).trans hb
  obtain ⟨r, oo, ov, Kn⟩ := A2.known hy hb1
  have pt := Kn.pt
  have ask := askS_some (w := w) (code := code) (k := k) hy
  unfold dual_Dual_settle_F0_B
  simp (disch := omega) [dual_Dual_settle_r11, e2, e3, e4, e8, g2, g3, g4, g8, pt]
  refine dsendM (p := p) (ack := 0) A2 hk ho (fun g5 L5 q5 st5 => ?_)
  have g35 := q5.fr.keep _ _ g3 (F1.old f3 o3)
  have g85 := q5.fr.keep _ _ g8 (F1.old f8 o8)
  by_cases c : code = 2
  · rw [if_pos c] at ask
    subst c
    have hb5 : L5 (.kn p) = some b := (st5 _ (by simp)).trans hb1
    have hy5 : getM (sendS sV k 2 0 p w).px p = some y := by rw [sendS_px]; exact hy
    obtain ⟨r5, oo5, ov5, Kn5⟩ := q5.at_.known hy5 hb5
    have pt5 := Kn5.pt
    simp (disch := omega) [dual_Dual_settle_r12, e8, g85]
    simp (disch := omega) [dual_Dual_settle_r13, e3, g35, pt5]
    refine putNd Kn5.mo (fun ob M => ?_)
    obtain ⟨q6, K6⟩ := q5.at_.setOpn hy5 Kn5 M Kn5.uo.set
    have q7 := q5.trans q6
    obtain ⟨q8, f8'⟩ := bk _ _ _ q7
    unfold rndK
    simp only [hR, hB2]
    refine ⟨f8', hK _ ⟨⟨L5, ?_, fun r n => (st5 r n).trans (st r n)⟩, upd_same⟩⟩
    rw [ask]
    unfold seqS
    rw [hk]
    exact q8
  · rw [if_neg c] at ask
    simp (disch := omega) [dual_Dual_settle_r12, e8, g85, c]
    obtain ⟨q8, f8'⟩ := bk _ _ _ q5
    unfold rndK
    simp only [hR, hB2]
    refine ⟨f8', hK _ ⟨⟨L5, by rw [ask]; exact q8, fun r n => (st5 r n).trans (st r n)⟩, upd_same⟩⟩
end
end Go.Proofs.Ytpeoholnlokdcaa
