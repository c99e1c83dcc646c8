/- The trie's calls, each told by the list of pairs. -/
import Derived.Test.YtmbhlbohbpepaaaA9
namespace Go.Proofs.Ytmbhlbohbpepaaa
open Go
set_option linter.unusedSimpArgs false

/-- A trie in memory has these pairs. -/
def TrieM (h : Hp) (t nb : Nat) (most : Int) (L : PL) (N : Nat) : Prop :=
  ∃ ns cap c, TrieAt h t nb most (L.length : Int) ns cap c ∧ Rep ns L ∧ ns.length ≤ N ∧ L.length ≤ N

theorem TrieM.ne {h : Hp} {t nb : Nat} {most : Int} {L : PL} {N : Nat} (M : TrieM h t nb most L N) : t ≠ nb := by
  obtain ⟨ns, cap, c, T, _⟩ := M; exact T.ne

theorem TrieM.has_t {h : Hp} {t nb : Nat} {most : Int} {L : PL} {N : Nat} (M : TrieM h t nb most L N) : ∃ o, h t = some o := by
  obtain ⟨ns, cap, c, T, _⟩ := M; exact ⟨_, T.t⟩
theorem TrieM.has_nb {h : Hp} {t nb : Nat} {most : Int} {L : PL} {N : Nat} (M : TrieM h t nb most L N) : ∃ o, h nb = some o := by
  obtain ⟨ns, cap, c, T, _⟩ := M; exact ⟨_, T.nb⟩

theorem TrieM.mono {h g : Hp} {t nb : Nat} {most : Int} {L : PL} {N N' : Nat} (M : TrieM h t nb most L N) (l : ∀ o, h t = some o → g t = some o) (l2 : ∀ o, h nb = some o → g nb = some o) (hN : N ≤ N') : TrieM g t nb most L N' := by
  obtain ⟨ns, cap, c, T, R, h1, h2⟩ := M
  exact ⟨ns, cap, c, T.mono l l2, R, by omega, by omega⟩

theorem TrieM.le {h g : Hp} {t nb : Nat} {most : Int} {L : PL} {N N' : Nat} (M : TrieM h t nb most L N) (l : ∀ x o, h x = some o → g x = some o) (hN : N ≤ N') : TrieM g t nb most L N' := M.mono (l t) (l nb) hN

section
variable {h : Hp} {t nb : Nat} {most : Int} {L : PL} {N a : Nat} {n k : Int} {Q : Value → Hp → Prop}

theorem tNewM (hQ : ∀ t nb h', h t = none → h nb = none → (∀ x o, h x = some o → h' x = some o) → TrieM h' t nb most [] 1 → Q (.pointer (some ⟨t, 0, none⟩)) h') :
    Ok Try.prog F_trie_New #[.int .i64 most] h Q :=
  new_spec (fun t nb h' c h1 h2 h3 T => hQ t nb h' h1 h2 h3 ⟨_, _, _, T, rep_new, by simp, by simp⟩)

theorem tGetM (M : TrieM h t nb most L N) (ha : a < 2 ^ 32) (hQ : Q (.tuple #[.int .i64 ((getR L a n).getD 0), .bool (getR L a n).isSome]) h) :
    Ok Try.prog F_trie_Trie_Get #[.pointer (some ⟨t, 0, none⟩), .agg #[.int .u32 a, .int .i64 n]] h Q := by
  obtain ⟨ns, cap, c, T, R, _⟩ := M
  refine get_spec T R.tri.ok ha ?_
  have := R.look ha n
  rw [← getR] at this
  rw [← this] at hQ
  cases h : look ns a n with
  | none => simpa [h] using hQ
  | some p => obtain ⟨i, x⟩ := p; simpa [h] using hQ

def fa (r : Option ((Nat × Nat) × Int)) : Nat := match r with | none => 0 | some x => x.1.1
def fl (r : Option ((Nat × Nat) × Int)) : Nat := match r with | none => 0 | some x => x.1.2
def fn (r : Option ((Nat × Nat) × Int)) : Int := match r with | none => 0 | some x => x.2

theorem tFindM (M : TrieM h t nb most L N) (ha : a < 2 ^ 32) (hQ : Q (.tuple #[.agg #[.int .u32 (fa (findL L a)), .int .i64 (fl (findL L a))], .int .i64 (fn (findL L a)), .bool (findL L a).isSome]) h) :
    Ok Try.prog F_trie_Trie_Find #[.pointer (some ⟨t, 0, none⟩), .int .u32 a] h Q := by
  obtain ⟨ns, cap, c, T, R, _⟩ := M
  refine Find_spec T R.tri.ok ha ?_
  rw [← R.find ha] at hQ
  cases h : bestOf ns a with
  | none => simpa [h, fa, fl, fn, curA, curL, curN] using hQ
  | some p => obtain ⟨i, x⟩ := p; simpa [h, fa, fl, fn, curA, curL, curN] using hQ

theorem tAllM (M : TrieM h t nb most L N)
    (hQ : ∀ v h', SlAt h' T_api_Prefix 2 pe v (L.map (·.1)) → (∀ y o, h y = some o → h' y = some o) → (∀ b, blkOf v = some b → h b = none) → Q v h') :
    Ok Try.prog F_trie_Trie_All #[.pointer (some ⟨t, 0, none⟩)] h Q := by
  obtain ⟨ns, cap, c, T, R, _⟩ := M
  exact all_spec T R.tri.ok R.tri.fit (fun v h' S => by rw [R.gath] at S; exact hQ v h' S)

theorem tTakeM (M : TrieM h t nb most L N) (ha : a < 2 ^ 32) (hN : N ≤ 1000000)
    (hQ : ∀ h', Chg h h' t nb nb → TrieM h' t nb most (takeR L a n).2 N → Q (.int .i64 (takeR L a n).1) h') :
    Ok Try.prog F_trie_Trie_Take #[.pointer (some ⟨t, 0, none⟩), .agg #[.int .u32 a, .int .i64 n]] h Q := by
  have M0 := M
  obtain ⟨ns, cap, c, T, R, h1, h2⟩ := M
  have hlook := R.look ha n
  rw [← getR] at hlook
  refine take_spec T R.tri.ok ha (by omega) (fun hl => ?_) (fun at_ x h' c' hl C T' => ?_)
  · rw [hl] at hlook
    have e : takeR L a n = (5, L) := by unfold takeR; rw [← hlook]; rfl
    rw [e] at hQ
    exact hQ h ⟨fun _ _ h _ _ => h, .inl rfl⟩ M0
  · rw [hl] at hlook
    have e : takeR L a n = (0, delL L (a, n.toNat)) := by unfold takeR; rw [← hlook]; rfl
    obtain ⟨hm, hd, hx, hh⟩ := look_some hl
    have hp := (mayB_pok ha hm).1
    have hg : getL L (a, n.toNat) ≠ none := by unfold getR at hlook; rw [if_pos hm] at hlook; rw [← hlook]; simp
    have hlen := delL_length L _ hg
    rw [e] at hQ
    have el : ((delL L (a, n.toNat)).length : Int) = (L.length : Int) - 1 := by omega
    rw [← el] at T'
    exact hQ h' C ⟨_, _, _, T', R.set (y := { x with n := 0, has := false }) hp hd hx rfl rfl (R.srt.sublist (delL_sub L _)) (fun y hy => R.pok y ((delL_sub L _).subset hy)) (fun q => by simpa using getL_delL R.srt _ q), by simpa using h1, by simp only; omega⟩

theorem tPutM (M : TrieM h t nb most L N) (ha : a < 2 ^ 32) (hN : N + 32 ≤ 1000000)
    (hQ : ∀ h' nb', Chg h h' t nb nb' → TrieM h' t nb' most (putR most L a n k).2 (N + 32) → Q (.int .i64 (putR most L a n k).1) h') :
    Ok Try.prog F_trie_Trie_Put #[.pointer (some ⟨t, 0, none⟩), .agg #[.int .u32 a, .int .i64 n], .int .i64 k] h Q := by
  have M0 := M
  obtain ⟨ns, cap, c, T, R, h1, h2⟩ := M
  have hlook := R.look ha n
  refine put_spec T R.tri.ok ha (by omega) (by omega) (fun hm => ?_) (fun at_ x h' c' hl C T' => ?_) (fun hm hl hf => ?_) (fun x h' nb' cap' c' hm hl hf C O' hx T' => ?_)
  · have e : putR most L a n k = (1, L) := by unfold putR; simp [hm]
    rw [e] at hQ
    exact hQ h nb ⟨fun _ _ h _ _ => h, .inl rfl⟩ (M0.le (fun _ _ h => h) (by omega))
  · obtain ⟨hm, hd, hx, hh⟩ := look_some hl
    have hp := (mayB_pok ha hm).1
    rw [hl, if_pos hm] at hlook
    have e : putR most L a n k = (0, setL L (a, n.toNat) k) := by unfold putR; rw [if_pos hm, ← hlook]; rfl
    have hg : getL L (a, n.toNat) ≠ none := by rw [← hlook]; simp
    rw [e] at hQ
    have el : (((setL L (a, n.toNat) k).length : Nat) : Int) = (L.length : Int) := by rw [setL_length]
    rw [← el] at T'
    refine hQ h' nb C ⟨_, _, _, T', R.set (y := { x with n := k }) hp hd hx rfl rfl (setL_srt R.srt _ k) (fun y hy => ?_) (fun q => ?_), by simp; omega, by simp only [setL_length]; omega⟩
    · rcases setL_mem hy with e | e
      · subst e; exact hp
      · exact R.pok y e
    · rw [getL_setL L _ q k hg]; simp [hh]
  · rw [hl, if_pos hm] at hlook
    have e : putR most L a n k = (4, L) := by unfold putR; rw [if_pos hm, ← hlook]; simp [hf]
    rw [e] at hQ
    exact hQ h nb ⟨fun _ _ h _ _ => h, .inl rfl⟩ (M0.le (fun _ _ h => h) (by omega))
  · have hp := (mayB_pok ha hm).1
    rw [hl, if_pos hm] at hlook
    have hg : getL L (a, n.toNat) = none := by rw [← hlook]; rfl
    have e : putR most L a n k = (0, insL L (a, n.toNat) k) := by unfold putR; rw [if_pos hm, ← hlook]; simp; omega
    rw [e] at hQ
    obtain ⟨TR, hl1, hl2, hway, hval⟩ := val_make R.tri hp (by omega) (by rw [R.val _ hp]; exact hg)
    simp only at hway hl2 hl1 TR hval
    generalize mkDown ns 0 (bitsFrom a 0 n.toNat) = mk at *
    obtain ⟨at', ns'⟩ := mk
    simp only at *
    obtain ⟨TS, VS⟩ := val_set (y := { x with n := k, has := true }) TR hp hway hx rfl rfl
    have el : (((insL L (a, n.toNat) k).length : Nat) : Int) = (L.length : Int) + 1 := by rw [insL_length]; omega
    rw [← el] at T'
    refine hQ h' nb' C ⟨_, _, _, T', ⟨TS, insL_srt R.srt k hg, fun y hy => ?_, fun q hq => ?_⟩, by simp; omega, by simp only [insL_length]; omega⟩
    · rcases insL_mem hy with e | e
      · subst e; exact hp
      · exact R.pok y e
    · rw [VS q hq, getL_insL L _ q k hg, hval q hq, R.val q hq]
      simp
end
end Go.Proofs.Ytmbhlbohbpepaaa
