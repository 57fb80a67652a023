/- The directory's laws: steps of a law. -/
import Derived.Test.YtpakfelekphbmaaGDirR
namespace Go.Proofs.Ck
open Go Go.RowKit

section
variable {base : Nat} {M0 : Nat → Prop} {w0 w w' : World} {v : Value} {f : Nat → Nat} {bx : List Bx} {K : World → (Nat → Prop) → Prop}
theorem Law.dput (h : Law base M0 w0 w v f bx K) (s : ByteArray) (off : Nat) (ho : off < 18446744073709551616) {e : Nat} {g : Nat → Nat} (he : putE f s off = e) (hg : putF f s off = g) :
    Calls Try.prog 136 #[v, .string s, .int .u64 (off : Int)] w fun e' w' => e' = .returned (.int .i64 (e : Int)) ∧ Law base M0 w0 w' v g bx K := by
  obtain ⟨σ, h1, h2, rfl⟩ := h
  subst he hg
  exact (h1.dput h2 s off ho).mono fun e w' ⟨a, b⟩ => ⟨a, _, b, by rw [putS_W]; exact h2, putS_load h2 s off⟩
theorem Law.ddrop (h : Law base M0 w0 w v f bx K) (s : ByteArray) {b : Bool} {g : Nat → Nat} (hb : findB f s = b) (hg : dropF f s = g) :
    Calls Try.prog 137 #[v, .string s] w fun e' w' => e' = .returned (.bool b) ∧ Law base M0 w0 w' v g bx K := by
  obtain ⟨σ, h1, h2, rfl⟩ := h
  subst hb hg
  exact (h1.ddrop h2 s).mono fun e w' ⟨a, b⟩ => ⟨a, _, b, by rw [dropS_W]; exact h2, dropS_load h2 s⟩
theorem Law.dfind (h : Law base M0 w0 w v f bx K) (s : ByteArray) {x : Nat} {b : Bool} (hx : findV f s = x) (hb : findB f s = b) :
    Calls Try.prog 127 #[v, .string s] w fun e' w' => e' = .returned (.tuple #[.int .u64 (x : Int), .bool b]) ∧ Law base M0 w0 w' v f bx K := by
  subst hx hb
  exact h.read (find_call h.any s)
theorem Law.droom (h : Law base M0 w0 w v f bx K) (s : ByteArray) {e : Nat} (he : roomE f s = e) :
    Calls Try.prog 129 #[v, .string s] w fun e' w' => e' = .returned (.int .i64 (e : Int)) ∧ Law base M0 w0 w' v f bx K := by
  subst he
  exact h.read (room_call h.any s)
theorem Law.dnamed (h : Law base M0 w0 w v f bx K) (q : Nat) (hq : q < 18446744073709551616) {b : Bool} (hb : namedB f q = b) :
    Calls Try.prog 134 #[v, .int .u64 (q : Int)] w fun e' w' => e' = .returned (.bool b) ∧ Law base M0 w0 w' v f bx K := by
  subst hb
  exact h.read (named_call h.any q hq)
theorem Law.dall (h : Law base M0 w0 w v f bx K) {l : List (ByteArray × Nat)} {n : Nat} (hl : entsN f 16 = l) (hn : l.length = n) :
    Calls Try.prog 132 #[v] w fun e w' => ∃ A c, e = .returned (.slice A n c) ∧ Law base M0 w0 w' v f bx fun w X => Row (fun b => ¬ X b) w A n 2 (ents l) ∧ K w X := by
  subst hl hn
  exact h.rowOf (dall_call h.any)
end

/-- What a law's awake does to an empty directory. -/
theorem awake_plain {f0 : Nat → Nat} (h0 : ∀ j, j < 16 → f0 (sl j + 16) = 0) {a b c : ByteArray} (ha : okN a = true) (hb : okN b = true) (hc : okN c = true) (hab : a ≠ b) (hac : a ≠ c) (hbc : b ≠ c) :
    ∃ f1 f2 f3, putE f0 a 3808 = 0 ∧ putF f0 a 3808 = f1 ∧ findB f1 a = true ∧ dropF f1 a = f2 ∧ putE f2 b 3856 = 0 ∧ putF f2 b 3856 = f3 ∧ findV f3 b = 3856 ∧ findB f3 b = true ∧ (entsN f3 16).length = 1 ∧ namedB f3 3856 = true ∧
      putE f3 b 5 = 7 ∧ putF f3 b 5 = f3 ∧ roomE f3 c = 0 := by
  have g0 := good_empty h0
  have no : ∀ {f : Nat → Nat} {t : ByteArray}, (∀ o, ¬ Has f t o) → standS f t = 0 := fun {f t} h => by
    by_cases e : standS f t = 0
    · exact e
    · exact absurd (has_of_find e) (h _)
  have p1 := put_ok (off := 3808) ha (no (has_empty h0 a)) (by rw [cnt_empty h0]; omega) (by omega)
  have g1 := g0.put a 3808
  have s1 := (g1.find ha (Has.put_self p1)).1
  have g2 := g1.drop a
  have n2 : ∀ t o, okN t = true → ¬ Has (dropF (putF f0 a 3808) a) t o := fun t o ht hh => by
    rcases hh.of_drop.of_put with h1 | ⟨h1, h2, _⟩
    · exact has_empty h0 _ _ h1
    · have e := n01_inj ht ha h1 h2
      subst e
      have := g1.dropped t
      exact (g2.find ht hh).1 this
  have c2 : cnt (dropF (putF f0 a 3808) a) = 0 := by
    have h1 := cnt_drop s1
    have h2 := cnt_put p1
    have h3 := cnt_empty h0
    omega
  have p3 := put_ok (off := 3856) hb (no (fun o => n2 b o hb)) (by omega) (by omega)
  have g3 := g2.put b 3856
  obtain ⟨s3, v3⟩ := g3.find hb (Has.put_self p3)
  have c3 : cnt (putF (dropF (putF f0 a 3808) a) b 3856) = 1 := by rw [cnt_put p3, c2]
  have r4 : roomE (putF (dropF (putF f0 a 3808) a) b 3856) b = 7 := by unfold roomE; rw [if_pos hb, if_neg s3]
  have e4 : putE (putF (dropF (putF f0 a 3808) a) b 3856) b 5 = 7 := by unfold putE; rw [if_neg (by omega), r4]
  have s5 : standS (putF (dropF (putF f0 a 3808) a) b 3856) c = 0 := no fun o hh => by
    rcases hh.of_put with h1 | ⟨h1, h2, _⟩
    · exact n2 c o hc h1
    · exact hbc (n01_inj hc hb h1 h2).symm
  refine ⟨_, _, _, p1, rfl, decide_eq_true s1, rfl, p3, rfl, v3, decide_eq_true s3, by rw [g3.ents_cnt, c3], named_has (Has.put_self p3), e4, putF_bad (by omega), ?_⟩
  unfold roomE
  rw [if_pos hc, if_pos s5, if_neg (fun e => by have := (place_full _ c).1 e; omega)]
end Go.Proofs.Ck
