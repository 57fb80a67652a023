/- The ledger: a block comes, a block goes. -/
import Derived.Test.YtpakfelekphbmaaLd2
import Derived.Test.YtpakfelekphbmaaLawRow
import Derived.Test.YtpakfelekphbmaaClientGoes
namespace Go.Proofs.Ck
open Go Go.RowKit

theorem getF_hd {f : Nat → Nat} {c x : Nat} (hc : c < 8) (h : f (hdO c) = x) : getF f (c : Int) 8 = x := get_of hc rfl h

section
variable {base : Nat} {M0 : Nat → Prop} {w0 w w' : World} {v : Value} {f : Nat → Nat} {bx : List Bx} {K : World → (Nat → Prop) → Prop}
set_option maxRecDepth 100000 in
theorem Law.link (L0 : Law base M0 w0 w v f bx K) {c off : Nat} (hc : c < 8) (ho : off % 8 = 0) (ho2 : off + 32 ≤ 4800) (hh : f (hdO c) = 0 ∨ f (hdO c) % 8 = 0 ∧ f (hdO c) + 32 ≤ 4800) :
    Calls Try.prog 115 #[v, .int .i64 (c : Int), .int .u64 (off : Int)] w fun e w' => e = .returned (.tuple #[]) ∧ Law base M0 w0 w' v (linkF f c off) bx K := by
  obtain ⟨h, hhd⟩ : ∃ h, f (hdO c) = h := ⟨_, rfl⟩
  have hl : linkF f c off = upd (if h = 0 then upd (upd f (off + 16) h) (off + 24) 0 else upd (upd (upd f (off + 16) h) (off + 24) 0) (h + 24) off) (hdO c) off := by unfold linkF; rw [hhd]
  rw [hl]
  rw [hhd] at hh
  have hg := getF_hd hc hhd
  obtain ⟨o1, h1⟩ : ∃ o, off + 16 = o := ⟨_, rfl⟩
  obtain ⟨o2, h2⟩ : ∃ o, off + 24 = o := ⟨_, rfl⟩
  obtain ⟨hd, hhdO⟩ : ∃ o, hdO c = o := ⟨_, rfl⟩
  have hpt : 64 + 416 * c + 8 = hd := hhdO
  rw [h1, h2, hhdO]
  have i1 : inSeg o1 := ⟨by omega, by omega⟩
  have i2 : inSeg o2 := ⟨by omega, by omega⟩
  have p1 : IntKind.u64.wrap ((off : Int) + 16) = (o1 : Int) := by rw [IntKind.wrap_u64]; omega
  have p2 : IntKind.u64.wrap ((off : Int) + 24) = (o2 : Int) := by rw [IntKind.wrap_u64]; omega
  have hoff : off < 18446744073709551616 := by omega
  clear hl hhd hhdO
  by_cases h0 : h = 0
  · subst h0
    rw [if_pos rfl]
    have H0 := L0.read (headIs L0.any hg)
    clear hh
    go_enter Try.func115, Try.ntmps115
    go_wp2_with fail
    refine H0.mono ?_
    rintro e w1 ⟨rfl, L1⟩
    clear H0 L0
    go_wp2_with fail
    refine (L1.store o1 0 i1 (by omega)).mono ?_
    rintro e w2 ⟨rfl, L2⟩
    clear L1
    go_wp2_with fail
    refine (L2.store o2 0 i2 (by omega)).mono ?_
    rintro e w3 ⟨rfl, L3⟩
    clear L2
    go_wp2_with fail
    refine (L3.pointIs off hc hoff hpt).mono ?_
    rintro e w4 ⟨rfl, L4⟩
    clear L3
    go_wp2
    go_end0
    exact ⟨rfl, L4⟩
  · rw [if_neg h0]
    obtain ⟨h8, h4⟩ : h % 8 = 0 ∧ h + 32 ≤ 4800 := by omega
    obtain ⟨o3, h3⟩ : ∃ o, h + 24 = o := ⟨_, rfl⟩
    rw [h3]
    have i3 : inSeg o3 := ⟨by omega, by omega⟩
    have p3 : IntKind.u64.wrap ((h : Int) + 24) = (o3 : Int) := by rw [IntKind.wrap_u64]; omega
    have t0 : ((h : Int) != 0) = true := by rw [bne_iff_ne]; omega
    have hhl : h < 18446744073709551616 := by omega
    have H0 := L0.read (headIs L0.any hg)
    clear hh hg h1 h2 h3 h4 h8
    go_enter Try.func115, Try.ntmps115
    go_wp2_with fail
    refine H0.mono ?_
    rintro e w1 ⟨rfl, L1⟩
    clear H0 L0
    go_wp2_with fail
    refine (L1.store o1 h i1 hhl).mono ?_
    rintro e w2 ⟨rfl, L2⟩
    clear L1
    go_wp2_with fail
    refine (L2.store o2 0 i2 (by omega)).mono ?_
    rintro e w3 ⟨rfl, L3⟩
    clear L2
    go_wp2_with fail
    refine (L3.store o3 off i3 hoff).mono ?_
    rintro e w4 ⟨rfl, L4⟩
    clear L3
    go_wp2_with fail
    refine (L4.pointIs off hc hoff hpt).mono ?_
    rintro e w5 ⟨rfl, L5⟩
    clear L4
    go_wp2
    go_end0
    exact ⟨rfl, L5⟩

set_option maxRecDepth 100000 in
theorem Law.unlink (L0 : Law base M0 w0 w v f bx K) {c off : Nat} (hc : c < 8) (ho : off % 8 = 0) (ho2 : off + 32 ≤ 4800) (hn : f (off + 16) = 0 ∨ f (off + 16) % 8 = 0 ∧ f (off + 16) + 32 ≤ 4800) (hp : f (off + 24) = 0 ∨ f (off + 24) % 8 = 0 ∧ f (off + 24) + 32 ≤ 4800) :
    Calls Try.prog 116 #[v, .int .i64 (c : Int), .int .u64 (off : Int)] w fun e w' => e = .returned (.tuple #[]) ∧ Law base M0 w0 w' v (unlinkF f c off) bx K := by
  obtain ⟨n, hnd⟩ : ∃ h, f (off + 16) = h := ⟨_, rfl⟩
  obtain ⟨q, hqd⟩ : ∃ h, f (off + 24) = h := ⟨_, rfl⟩
  have hl : unlinkF f c off = if q = 0 then upd (if n = 0 then f else upd f (n + 24) q) (hdO c) n else upd (if n = 0 then f else upd f (n + 24) q) (q + 16) n := by unfold unlinkF; simp only [hnd, hqd]
  rw [hl]
  rw [hnd] at hn
  rw [hqd] at hp
  obtain ⟨o1, h1⟩ : ∃ o, off + 16 = o := ⟨_, rfl⟩
  obtain ⟨o2, h2⟩ : ∃ o, off + 24 = o := ⟨_, rfl⟩
  obtain ⟨hd, hhdO⟩ : ∃ o, hdO c = o := ⟨_, rfl⟩
  have hpt : 64 + 416 * c + 8 = hd := hhdO
  rw [h1] at hnd
  rw [h2] at hqd
  rw [hhdO]
  have p1 : IntKind.u64.wrap ((off : Int) + 16) = (o1 : Int) := by rw [IntKind.wrap_u64]; omega
  have p2 : IntKind.u64.wrap ((off : Int) + 24) = (o2 : Int) := by rw [IntKind.wrap_u64]; omega
  have ho1 : o1 < 18446744073709551616 := by omega
  have ho2' : o2 < 18446744073709551616 := by omega
  have hn64 : n < 18446744073709551616 := by omega
  have hq64 : q < 18446744073709551616 := by omega
  obtain ⟨n24, hn24⟩ : ∃ o, n + 24 = o := ⟨_, rfl⟩
  obtain ⟨q16, hq16⟩ : ∃ o, q + 16 = o := ⟨_, rfl⟩
  rw [hn24, hq16]
  have p3 : IntKind.u64.wrap ((n : Int) + 24) = (n24 : Int) := by rw [IntKind.wrap_u64]; omega
  have p4 : IntKind.u64.wrap ((q : Int) + 16) = (q16 : Int) := by rw [IntKind.wrap_u64]; omega
  have i3 : n ≠ 0 → inSeg n24 := fun h => ⟨by omega, by omega⟩
  have i4 : q ≠ 0 → inSeg q16 := fun h => ⟨by omega, by omega⟩
  have H0 := L0.load o1 ho1
  have H1 := fun w1 (L1 : Law base M0 w0 w1 v f bx K) => L1.load o2 ho2'
  rw [hnd] at H0
  rw [hqd] at H1
  clear hl hnd hqd hhdO h1 h2 hn hp hn24 hq16 ho2 ho
  by_cases hn0 : n = 0
  · subst hn0
    rw [if_pos rfl]
    by_cases hq0 : q = 0
    · subst hq0
      rw [if_pos rfl]
      clear i3 i4
      go_enter Try.func116, Try.ntmps116
      go_wp2_with fail
      refine H0.mono ?_
      rintro e w1 ⟨rfl, L1⟩
      clear H0 L0
      go_wp2_with fail
      refine (H1 _ L1).mono ?_
      rintro e w2 ⟨rfl, L2⟩
      clear H1 L1
      go_wp2_with fail
      refine (L2.pointIs 0 hc hn64 hpt).mono ?_
      rintro e w3 ⟨rfl, L3⟩
      clear L2
      go_wp2
      go_end0
      exact ⟨rfl, L3⟩
    · rw [if_neg hq0]
      have i5 := i4 hq0
      have t0 : ((q : Int) != 0) = true := by rw [bne_iff_ne]; omega
      clear i3 i4
      go_enter Try.func116, Try.ntmps116
      go_wp2_with fail
      refine H0.mono ?_
      rintro e w1 ⟨rfl, L1⟩
      clear H0 L0
      go_wp2_with fail
      refine (H1 _ L1).mono ?_
      rintro e w2 ⟨rfl, L2⟩
      clear H1 L1
      go_wp2_with fail
      refine (L2.store q16 0 i5 hn64).mono ?_
      rintro e w3 ⟨rfl, L3⟩
      clear L2
      go_wp2
      go_end0
      exact ⟨rfl, L3⟩
  · rw [if_neg hn0]
    have i6 := i3 hn0
    have t1 : ((n : Int) != 0) = true := by rw [bne_iff_ne]; omega
    by_cases hq0 : q = 0
    · subst hq0
      rw [if_pos rfl]
      clear i3 i4
      go_enter Try.func116, Try.ntmps116
      go_wp2_with fail
      refine H0.mono ?_
      rintro e w1 ⟨rfl, L1⟩
      clear H0 L0
      go_wp2_with fail
      refine (H1 _ L1).mono ?_
      rintro e w2 ⟨rfl, L2⟩
      clear H1 L1
      go_wp2_with fail
      refine (L2.store n24 0 i6 hq64).mono ?_
      rintro e w3 ⟨rfl, L3⟩
      clear L2
      go_wp2_with fail
      refine (L3.pointIs n hc hn64 hpt).mono ?_
      rintro e w4 ⟨rfl, L4⟩
      clear L3
      go_wp2
      go_end0
      exact ⟨rfl, L4⟩
    · rw [if_neg hq0]
      have i5 := i4 hq0
      have t0 : ((q : Int) != 0) = true := by rw [bne_iff_ne]; omega
      clear i3 i4
      go_enter Try.func116, Try.ntmps116
      go_wp2_with fail
      refine H0.mono ?_
      rintro e w1 ⟨rfl, L1⟩
      clear H0 L0
      go_wp2_with fail
      refine (H1 _ L1).mono ?_
      rintro e w2 ⟨rfl, L2⟩
      clear H1 L1
      go_wp2_with fail
      refine (L2.store n24 q i6 hq64).mono ?_
      rintro e w3 ⟨rfl, L3⟩
      clear L2
      go_wp2_with fail
      refine (L3.store q16 n i5 hn64).mono ?_
      rintro e w4 ⟨rfl, L4⟩
      clear L3
      go_wp2
      go_end0
      exact ⟨rfl, L4⟩
end
end Go.Proofs.Ck
