/- Parts of the proofs of this seat's laws. -/
import Derived.Test.YtpakfelekphbmaaLed1
import Derived.Test.YtpakfelekphbmaaGr5
import Derived.Test.YtpakfelekphbmaaFineS
import Derived.Test.YtpakfelekphbmaaGTx

namespace Go.Proofs.Ck
open Go Go.RowKit

/-- The words of blocks one behind the other: ahead of the first stands p, behind the last e. -/
def seg (f : Nat → Nat) : Nat → List Nat → Nat → Prop
  | _, [], _ => True
  | p, a :: r, e => f (a + 16) = r.headD e ∧ f (a + 24) = p ∧ seg f a r e
theorem seg_append {f : Nat → Nat} {p e : Nat} {xs ys : List Nat} : seg f p (xs ++ ys) e ↔ seg f p xs (ys.headD e) ∧ seg f (xs.getLastD p) ys e := by
  induction xs generalizing p with
  | nil => simp [seg]
  | cons a r ih =>
    have h1 : (r ++ ys).headD e = r.headD (ys.headD e) := by cases r <;> rfl
    have h2 : (a :: r).getLastD p = r.getLastD a := by cases r <;> rfl
    rw [List.cons_append]
    simp only [seg, h1, h2, ih]
    constructor
    · rintro ⟨a1, a2, a3, a4⟩; exact ⟨⟨a1, a2, a3⟩, a4⟩
    · rintro ⟨⟨a1, a2, a3⟩, a4⟩; exact ⟨a1, a2, a3, a4⟩
/-- A list's words hold of what is the same there. -/
theorem seg_congr {f g : Nat → Nat} {p e : Nat} {l : List Nat} (h : ∀ a ∈ l, g (a + 16) = f (a + 16) ∧ g (a + 24) = f (a + 24)) : seg f p l e → seg g p l e := by
  induction l generalizing p with
  | nil => exact fun _ => trivial
  | cons a r ih =>
    rintro ⟨h1, h2, h3⟩
    obtain ⟨e1, e2⟩ := h a (by simp)
    exact ⟨by rw [e1, h1], by rw [e2, h2], ih (fun b hb => h b (by simp [hb])) h3⟩

/-- A client's first block. -/
def hdO (c : Nat) : Nat := 64 + 416 * c + 8
/-- Is a client's list just these? -/
def Chk (f : Nat → Nat) (c : Nat) (l : List Nat) : Prop := f (hdO c) = l.headD 0 ∧ seg f 0 l 0

/-- Blocks that may be listed: apart from another, in the room. -/
structure Room (all : List Nat) : Prop where
  at_ : ∀ a ∈ all, a % 16 = 0 ∧ 3776 ≤ a ∧ a + 48 ≤ 4800
  apart : ∀ a ∈ all, ∀ b ∈ all, a ≠ b → a + 48 ≤ b ∨ b + 48 ≤ a

/-- Blocks come. -/
def linkF (f : Nat → Nat) (c off : Nat) : Nat → Nat :=
  upd (if f (hdO c) = 0 then upd (upd f (off + 16) (f (hdO c))) (off + 24) 0 else upd (upd (upd f (off + 16) (f (hdO c))) (off + 24) 0) (f (hdO c) + 24) off) (hdO c) off
/-- Blocks go. -/
def unlinkF (f : Nat → Nat) (c off : Nat) : Nat → Nat :=
  let g := if f (off + 16) = 0 then f else upd f (f (off + 16) + 24) (f (off + 24))
  if f (off + 24) = 0 then upd g (hdO c) (f (off + 16)) else upd g (f (off + 24) + 16) (f (off + 16))

/-- All clients' lists. -/
structure Lists (f : Nat → Nat) (all : List Nat) (L : Nat → List Nat) : Prop where
  chk : ∀ c, c < 8 → Chk f c (L c)
  sub : ∀ c, c < 8 → ∀ a ∈ L c, a ∈ all
  nodup : ∀ c, c < 8 → (L c).Nodup
  apart : ∀ c d, c < 8 → d < 8 → c ≠ d → ∀ a ∈ L c, a ∉ L d

section
variable {f : Nat → Nat} {all : List Nat} {L : Nat → List Nat}
theorem Lists.head (h : Lists f all L) {c : Nat} (hc : c < 8) : f (hdO c) = (L c).headD 0 := (h.chk c hc).1
/-- What a block that comes turns: only its own words, its list's first block's, and the list's begin. -/
theorem link_other (hR : Room all) {c off : Nat} (_hoff : off ∈ all) {b : Nat} {r : List Nat} {l : List Nat} (hl : l = [] ∧ f (hdO c) = 0 ∨ l = b :: r ∧ f (hdO c) = b ∧ b ∈ all) (_hc : c < 8) {o : Nat}
    (h : o ≠ hdO c) (h1 : o ≠ off + 16) (h2 : o ≠ off + 24) (h3 : l = [] ∨ o ≠ b + 24) : linkF f c off o = f o := by
  unfold linkF
  rw [upd_ne h]
  rcases hl with ⟨e1, e2⟩ | ⟨e1, e2, e3⟩
  · rw [if_pos e2, upd_ne h2, upd_ne h1]
  · have hb := (hR.at_ b e3).2.1
    have h4 : o ≠ b + 24 := by
      rcases h3 with h3 | h3
      · rw [e1] at h3; cases h3
      · exact h3
    rw [if_neg (by omega), e2, upd_ne h4, upd_ne h2, upd_ne h1]

theorem Lists.link (h : Lists f all L) (hR : Room all) {c off : Nat} (hc : c < 8) (hoff : off ∈ all) (hno : ∀ d, d < 8 → off ∉ L d) :
    Lists (linkF f c off) all (fun d => if d = c then off :: L c else L d) ∧ ∀ a ∈ all, linkF f c off a = f a := by
  have ho := hR.at_ off hoff
  have hhd := h.head hc
  have hcl : (L c = [] ∧ f (hdO c) = 0) ∨ ∃ b r, L c = b :: r ∧ f (hdO c) = b ∧ b ∈ all := by
    cases hL : L c with
    | nil => exact .inl ⟨rfl, by rw [hhd, hL]; rfl⟩
    | cons b r => exact .inr ⟨b, r, rfl, by rw [hhd, hL]; rfl, h.sub c hc b (by rw [hL]; simp)⟩
  have oth : ∀ o, o ≠ hdO c → o ≠ off + 16 → o ≠ off + 24 → (∀ b r, L c = b :: r → o ≠ b + 24) → linkF f c off o = f o := by
    intro o h0 h1 h2 h3
    rcases hcl with ⟨e1, e2⟩ | ⟨b, r, e1, e2, e3⟩
    · exact link_other (b := 0) (r := []) hR hoff (.inl ⟨e1, e2⟩) hc h0 h1 h2 (.inl e1)
    · exact link_other hR hoff (.inr ⟨e1, e2, e3⟩) hc h0 h1 h2 (.inr (h3 b r e1))
  have hdl : ∀ d, d < 8 → hdO d < 3392 := fun d hd => by unfold hdO; omega
  have hhc := hdl c hc
  have mem : ∀ a ∈ all, a % 16 = 0 ∧ 3776 ≤ a ∧ a + 48 ≤ 4800 := hR.at_
  have far : ∀ a ∈ all, ∀ b ∈ all, a ≠ b → a + 48 ≤ b ∨ b + 48 ≤ a := hR.apart
  refine ⟨⟨?_, ?_, ?_, ?_⟩, ?_⟩
  · intro d hd
    by_cases hdc : d = c
    · subst hdc
      rw [if_pos rfl]
      refine ⟨?_, ?_, ?_, ?_⟩
      · unfold linkF; rw [upd_same]; rfl
      · -- next
        unfold linkF
        rw [upd_ne (by omega)]
        rcases hcl with ⟨e1, e2⟩ | ⟨b, r, e1, e2, e3⟩
        · rw [if_pos e2, upd_ne (by omega), upd_same, hhd]
        · have hb := mem b e3
          have hne : off ≠ b := fun e => hno d hc (by rw [e1, e]; simp)
          rw [if_neg (by omega), e2, upd_ne (by have := far off hoff b e3 hne; omega), upd_ne (by omega), upd_same, e1]
          rfl
      · unfold linkF
        rw [upd_ne (by omega)]
        rcases hcl with ⟨e1, e2⟩ | ⟨b, r, e1, e2, e3⟩
        · rw [if_pos e2, upd_same]
        · have hb := mem b e3
          have hne : off ≠ b := fun e => hno d hc (by rw [e1, e]; simp)
          rw [if_neg (by omega), e2, upd_ne (by have := far off hoff b e3 hne; omega), upd_same]
      · rcases hcl with ⟨e1, e2⟩ | ⟨b, r, e1, e2, e3⟩
        · rw [e1]; trivial
        · have hb := mem b e3
          have hne : off ≠ b := fun e => hno d hc (by rw [e1, e]; simp)
          have hs := (h.chk d hc).2
          have hnd := h.nodup d hc
          rw [e1] at hs hnd ⊢
          obtain ⟨s1, s2, s3⟩ := hs
          have hsub : ∀ a ∈ r, a ∈ all ∧ a ≠ b ∧ a ≠ off := fun a ha => ⟨h.sub d hc a (by rw [e1]; simp [ha]), fun e => (List.nodup_cons.1 hnd).1 (e ▸ ha), fun e => hno d hc (by rw [e1, ← e]; simp [ha])⟩
          refine ⟨?_, ?_, ?_⟩
          · rw [oth (b + 16) (by omega) (by have := far off hoff b e3 hne; omega) (by have := far off hoff b e3 hne; omega) (fun b' r' e => by rw [e1] at e; cases e; omega)]
            exact s1
          · unfold linkF
            rw [upd_ne (by omega), if_neg (by omega), e2, upd_same]
          · refine seg_congr (fun a ha => ?_) s3
            obtain ⟨m1, m2, m3⟩ := hsub a ha
            have := mem a m1
            have f1 := far a m1 b e3 m2
            have f2 := far a m1 off hoff m3
            constructor
            · exact oth _ (by omega) (by omega) (by omega) (fun b' r' e => by rw [e1] at e; cases e; omega)
            · exact oth _ (by omega) (by omega) (by omega) (fun b' r' e => by rw [e1] at e; cases e; omega)
    · rw [if_neg hdc]
      obtain ⟨k1, k2⟩ := h.chk d hd
      refine ⟨?_, seg_congr (fun a ha => ?_) k2⟩
      · have := hdl d hd
        rw [oth _ (by unfold hdO; omega) (by omega) (by omega) (fun b r e => by
          have := mem b (h.sub c hc b (by rw [e]; simp)); omega)]
        exact k1
      · have ma := h.sub d hd a ha
        have m := mem a ma
        have f2 := far a ma off hoff (fun e => hno d hd (e ▸ ha))
        have fb : ∀ b r, L c = b :: r → a + 48 ≤ b ∨ b + 48 ≤ a := fun b r e => far a ma b (h.sub c hc b (by rw [e]; simp)) (fun e' => h.apart d c hd hc hdc a ha (by rw [e, e']; simp))
        constructor
        · exact oth _ (by omega) (by omega) (by omega) (fun b r e => by have := fb b r e; omega)
        · exact oth _ (by omega) (by omega) (by omega) (fun b r e => by have := fb b r e; omega)
  · intro d hd a ha
    by_cases hdc : d = c
    · rw [if_pos hdc] at ha
      rcases List.mem_cons.1 ha with rfl | ha
      · exact hoff
      · exact h.sub c hc a ha
    · rw [if_neg hdc] at ha
      exact h.sub d hd a ha
  · intro d hd
    by_cases hdc : d = c
    · rw [if_pos hdc, List.nodup_cons]
      exact ⟨hno c hc, h.nodup c hc⟩
    · rw [if_neg hdc]; exact h.nodup d hd
  · intro d e hd he hde a ha
    by_cases hdc : d = c
    · rw [if_pos hdc] at ha
      rw [if_neg (by omega)]
      rcases List.mem_cons.1 ha with rfl | ha
      · exact hno e he
      · exact h.apart c e hc he (by omega) a ha
    · rw [if_neg hdc] at ha
      by_cases hec : e = c
      · rw [if_pos hec]
        intro hm
        rcases List.mem_cons.1 hm with rfl | hm
        · exact hno d hd ha
        · exact h.apart d c hd hc hdc a ha hm
      · rw [if_neg hec]
        exact h.apart d e hd he hde a ha
  · intro a ha
    have m := mem a ha
    refine oth a (by omega) ?_ (by omega) (fun b r e => ?_)
    · by_cases e : a = off
      · omega
      · have := far a ha off hoff e; omega
    · have mb := mem b (h.sub c hc b (by rw [e]; simp))
      omega

theorem Lists.unlink (h : Lists f all L) (hR : Room all) {c off : Nat} (hc : c < 8) (hin : off ∈ L c) :
    Lists (unlinkF f c off) all (fun d => if d = c then (L c).filter (· != off) else L d) ∧ ∀ a ∈ all, unlinkF f c off a = f a := by
  obtain ⟨xs, ys, hL⟩ := List.append_of_mem hin
  have hnd := h.nodup c hc
  rw [hL] at hnd
  have hsub := h.sub c hc
  have mem : ∀ a ∈ all, a % 16 = 0 ∧ 3776 ≤ a ∧ a + 48 ≤ 4800 := hR.at_
  have far : ∀ a ∈ all, ∀ b ∈ all, a ≠ b → a + 48 ≤ b ∨ b + 48 ≤ a := hR.apart
  have hoff : off ∈ all := hsub off hin
  have hhd := h.head hc
  have hdl : ∀ d, d < 8 → hdO d < 3392 := fun d hd => by unfold hdO; omega
  have hhc := hdl c hc
  have hxs : ∀ a ∈ xs, a ≠ off := fun a ha e => by
    rw [List.nodup_append] at hnd
    exact hnd.2.2 a ha off (by simp) e
  have hys : ∀ a ∈ ys, a ≠ off := fun a ha e => by
    rw [List.nodup_append, List.nodup_cons] at hnd
    exact hnd.2.1.1 (e ▸ ha)
  have hxy : ∀ a ∈ xs, ∀ b ∈ ys, a ≠ b := fun a ha b hb => by
    rw [List.nodup_append] at hnd
    exact hnd.2.2 a ha b (by simp [hb])
  have hfil : (L c).filter (· != off) = xs ++ ys := by
    rw [hL, List.filter_append, List.filter_cons]
    simp only [bne_self_eq_false, Bool.false_eq_true, if_false]
    rw [List.filter_eq_self.2 (fun a ha => by simpa using hxs a ha), List.filter_eq_self.2 (fun a ha => by simpa using hys a ha)]
  have hseg := (h.chk c hc).2
  rw [hL, seg_append] at hseg
  obtain ⟨sx, n1, a1, sy⟩ := hseg
  simp only [List.headD_cons] at sx
  -- next and ahead
  have hN : f (off + 16) = 0 ∧ ys = [] ∨ ∃ b r, ys = b :: r ∧ f (off + 16) = b ∧ b ∈ all ∧ b ∈ L c := by
    cases ys with
    | nil => exact .inl ⟨n1, rfl⟩
    | cons b r =>
      have hm : b ∈ L c := by rw [hL]; simp
      exact .inr ⟨b, r, rfl, n1, hsub b hm, hm⟩
  have hA : f (off + 24) = 0 ∧ xs = [] ∨ ∃ z a, xs = z ++ [a] ∧ f (off + 24) = a ∧ a ∈ all ∧ a ∈ L c := by
    rcases List.eq_nil_or_concat xs with e | ⟨z, a, e⟩
    · subst e; exact .inl ⟨a1, rfl⟩
    · rw [List.concat_eq_append] at e
      subst e
      have hm : a ∈ L c := by rw [hL]; simp
      refine .inr ⟨z, a, rfl, ?_, hsub a hm, hm⟩
      rw [a1]; simp
  have oth : ∀ o, o ≠ hdO c → (∀ b r, ys = b :: r → o ≠ b + 24) → (∀ z a, xs = z ++ [a] → o ≠ a + 16) → unlinkF f c off o = f o := by
    intro o h0 h1 h2
    have g0 : (if f (off + 16) = 0 then f else upd f (f (off + 16) + 24) (f (off + 24))) o = f o := by
      rcases hN with ⟨e1, _⟩ | ⟨b, r, e0, e1, e2, _⟩
      · rw [if_pos e1]
      · have := mem b e2
        rw [if_neg (by omega), upd_ne (by rw [e1]; exact h1 b r e0)]
    unfold unlinkF
    try simp only
    rcases hA with ⟨e1, _⟩ | ⟨z, a, e0, e1, e2, _⟩
    · rw [if_pos e1, upd_ne h0, g0]
    · have := mem a e2
      rw [if_neg (by omega), upd_ne (by rw [e1]; exact h2 z a e0), g0]
  have hsx : ∀ a ∈ xs, a ∈ all := fun a ha => hsub a (by rw [hL]; simp [ha])
  have hsy : ∀ a ∈ ys, a ∈ all := fun a ha => hsub a (by rw [hL]; simp [ha])
  refine ⟨⟨?_, ?_, ?_, ?_⟩, ?_⟩
  · intro d hd
    by_cases hdc : d = c
    · subst hdc
      rw [if_pos rfl, hfil]
      refine ⟨?_, ?_⟩
      · -- the begin
        rcases hA with ⟨e1, ex⟩ | ⟨z, a, e0, e1, e2, _⟩
        · subst ex
          unfold unlinkF
          try simp only
          rw [if_pos e1, upd_same, n1]
          rfl
        · have hne : hdO d ≠ a + 16 := by have := mem a e2; omega
          unfold unlinkF
          try simp only
          have := mem a e2
          rw [if_neg (by omega), e1, upd_ne hne]
          have g0 : (if f (off + 16) = 0 then f else upd f (f (off + 16) + 24) a) (hdO d) = f (hdO d) := by
            rcases hN with ⟨e3, _⟩ | ⟨b, r, e3, e4, e5, _⟩
            · rw [if_pos e3]
            · have := mem b e5
              rw [if_neg (by omega), upd_ne (by omega)]
          rw [g0, hhd, hL, e0]
          cases z <;> rfl
      · rw [seg_append]
        refine ⟨?_, ?_⟩
        · -- those ahead
          rcases List.eq_nil_or_concat xs with e | ⟨z, a, e⟩
          · rw [e]; trivial
          · rw [List.concat_eq_append] at e
            subst e
            rw [seg_append] at sx ⊢
            obtain ⟨sz, t1, t2, _⟩ := sx
            have ma := hsx a (by simp)
            have m := mem a ma
            simp only [List.headD_cons] at sz ⊢
            have ndx : (z ++ [a]).Nodup := (List.nodup_append.1 hnd).1
            have hza : ∀ x ∈ z, x ≠ a := fun x hx e => (List.nodup_append.1 ndx).2.2 x hx a (by simp) e
            refine ⟨seg_congr (fun x hx => ?_) sz, ?_, ?_, trivial⟩
            · have mx := hsx x (by simp [hx])
              have m1 := mem x mx
              have f1 := far x mx a ma (hza x hx)
              have fb : ∀ b r, ys = b :: r → x + 48 ≤ b ∨ b + 48 ≤ x := fun b r e => far x mx b (hsy b (by rw [e]; simp)) (hxy x (by simp [hx]) b (by rw [e]; simp))
              constructor
              · exact oth _ (by omega) (fun b r e => by have := fb b r e; omega) (fun z' a' e => by
                  have := List.append_inj_right' e rfl
                  cases this; omega)
              · exact oth _ (by omega) (fun b r e => by have := fb b r e; omega) (fun z' a' e => by
                  have := List.append_inj_right' e rfl
                  cases this; omega)
            · -- a's next is n
              have e1 : f (off + 24) = a := by rw [a1]; simp
              unfold unlinkF
              try simp only
              rw [if_neg (by omega), e1, upd_same, n1]
              rfl
            · have fb : ∀ b r, ys = b :: r → a + 48 ≤ b ∨ b + 48 ≤ a := fun b r e => far a ma b (hsy b (by rw [e]; simp)) (hxy a (by simp) b (by rw [e]; simp))
              rw [oth _ (by omega) (fun b r e => by have := fb b r e; omega) (fun z' a' e => by
                  have := List.append_inj_right' e rfl
                  cases this; omega)]
              exact t2
        · -- those behind
          cases ys with
          | nil => trivial
          | cons b r =>
            obtain ⟨t1, t2, t3⟩ := sy
            have mb := hsy b (by simp)
            have m := mem b mb
            have ndy : (b :: r).Nodup := (List.nodup_cons.1 (List.nodup_append.1 hnd).2.1).2
            refine ⟨?_, ?_, seg_congr (fun x hx => ?_) t3⟩
            · rw [oth _ (by omega) (fun b' r' e => by cases e; omega) (fun z a e => by
                have ha : a ∈ xs := by rw [e]; simp
                have := far b mb a (hsx a ha) (fun e' => hxy a ha b (by simp) e'.symm)
                omega)]
              exact t1
            · have e1 : f (off + 16) = b := n1
              unfold unlinkF
              try simp only
              have g0 : (if f (off + 16) = 0 then f else upd f (f (off + 16) + 24) (f (off + 24))) (b + 24) = f (off + 24) := by
                rw [if_neg (by omega), e1, upd_same]
              rcases hA with ⟨e2, ex⟩ | ⟨z, a, e0, e2, e3, _⟩
              · rw [if_pos e2, upd_ne (by omega), g0, a1]
              · have := mem a e3
                have ha : a ∈ xs := by rw [e0]; simp
                have hf := far b mb a e3 (fun e' => hxy a ha b (by simp) e'.symm)
                rw [if_neg (by omega), upd_ne (by rw [e2]; omega), g0, a1]
            · have mx := hsy x (by simp [hx])
              have m1 := mem x mx
              have hxb : x ≠ b := fun e => (List.nodup_cons.1 ndy).1 (e ▸ hx)
              have f1 := far x mx b mb hxb
              have fa : ∀ z a, xs = z ++ [a] → x + 48 ≤ a ∨ a + 48 ≤ x := fun z a e => far x mx a (hsx a (by rw [e]; simp)) (fun e' => hxy a (by rw [e]; simp) x (by simp [hx]) e'.symm)
              constructor
              · exact oth _ (by omega) (fun b' r' e => by cases e; omega) (fun z a e => by have := fa z a e; omega)
              · exact oth _ (by omega) (fun b' r' e => by cases e; omega) (fun z a e => by have := fa z a e; omega)
    · rw [if_neg hdc]
      obtain ⟨k1, k2⟩ := h.chk d hd
      refine ⟨?_, seg_congr (fun a ha => ?_) k2⟩
      · have := hdl d hd
        rw [oth _ (by unfold hdO; omega) (fun b r e => by have := mem b (hsy b (by rw [e]; simp)); omega) (fun z a e => by have := mem a (hsx a (by rw [e]; simp)); omega)]
        exact k1
      · have ma := h.sub d hd a ha
        have m := mem a ma
        have fb : ∀ b ∈ L c, a + 48 ≤ b ∨ b + 48 ≤ a := fun b hb => far a ma b (hsub b hb) (fun e' => h.apart d c hd hc hdc a ha (e' ▸ hb))
        constructor
        · exact oth _ (by omega) (fun b r e => by have := fb b (by rw [hL, e]; simp); omega) (fun z x e => by have := fb x (by rw [hL, e]; simp); omega)
        · exact oth _ (by omega) (fun b r e => by have := fb b (by rw [hL, e]; simp); omega) (fun z x e => by have := fb x (by rw [hL, e]; simp); omega)
  · intro d hd a ha
    by_cases hdc : d = c
    · rw [if_pos hdc] at ha
      exact hsub a (List.mem_filter.1 ha).1
    · rw [if_neg hdc] at ha
      exact h.sub d hd a ha
  · intro d hd
    by_cases hdc : d = c
    · rw [if_pos hdc]
      exact (h.nodup c hc).filter _
    · rw [if_neg hdc]; exact h.nodup d hd
  · intro d e hd he hde a ha
    by_cases hdc : d = c
    · rw [if_pos hdc] at ha
      rw [if_neg (by omega)]
      exact h.apart c e hc he (by omega) a (List.mem_filter.1 ha).1
    · rw [if_neg hdc] at ha
      by_cases hec : e = c
      · rw [if_pos hec]
        intro hm
        exact h.apart d c hd hc hdc a ha (List.mem_filter.1 hm).1
      · rw [if_neg hec]
        exact h.apart d e hd he hde a ha
  · intro a ha
    have m := mem a ha
    refine oth a (by omega) (fun b r e => ?_) (fun z x e => ?_)
    · have := mem b (hsy b (by rw [e]; simp)); omega
    · have mx := mem x (hsx x (by rw [e]; simp))
      by_cases e' : a = x
      · omega
      · have := far a ha x (hsx x (by rw [e]; simp)) e'; omega
end
end Go.Proofs.Ck

namespace Go.Proofs.Ck
open Go Go.RowKit

/-- A block that lies: where, how large, is it used, whose, how long. -/
structure Blk where
  off : Nat
  size : Nat
  used : Bool
  owner : Nat
  len : Nat
/-- A piece's size, whether it is used, whose it is, and its bytes. -/
def pS (q : Nat × Nat × Nat) : Nat := 48 + 16 * (q.1 % 8)
def pU (q : Nat × Nat × Nat) : Bool := decide (0 < q.2.1 % 10)
def pO (q : Nat × Nat × Nat) : Nat := q.2.1 % 10 - 1
def pL (q : Nat × Nat × Nat) : Nat := q.2.2 % (pS q - 39)
/-- One piece laid. -/
def layOne (σ : St) (off : Nat) (q : Nat × Nat × Nat) : St :=
  let τ := (σ.store off (packG (pS q) (pU q) (pO q))).store (off + pS q - 8) (packG (pS q) (pU q) (pO q))
  if pU q = true then τ.store (off + 8) (pL q) else τ
/-- The words with pieces laid from an offset on, to the end. -/
def layS (E : Nat) : St → Nat → List (Nat × Nat × Nat) → St
  | σ, off, [] => (σ.store off (packG (E - off) false 0)).store (off + (E - off) - 8) (packG (E - off) false 0)
  | σ, off, q :: r => if E < off + pS q + 48 then (σ.store off (packG (E - off) false 0)).store (off + (E - off) - 8) (packG (E - off) false 0) else layS E (layOne σ off q) (off + pS q) r
/-- The blocks that lie then. -/
def layA (E : Nat) : Nat → List (Nat × Nat × Nat) → List Blk
  | off, [] => [⟨off, E - off, false, 0, 0⟩]
  | off, q :: r => if E < off + pS q + 48 then [⟨off, E - off, false, 0, 0⟩] else ⟨off, pS q, pU q, pO q, if pU q = true then pL q else 0⟩ :: layA E (off + pS q) r

theorem pS_le (q : Nat × Nat × Nat) : 48 ≤ pS q ∧ pS q ≤ 160 ∧ pS q % 16 = 0 := by unfold pS; omega
theorem pO_le (q : Nat × Nat × Nat) : pO q ≤ 8 ∧ (pU q = true ∨ pO q = 0) := by
  unfold pO pU
  refine ⟨by omega, ?_⟩
  by_cases h : 0 < q.2.1 % 10
  · exact .inl (by simp [h])
  · exact .inr (by omega)
theorem pL_le (q : Nat × Nat × Nat) : pL q + 40 ≤ pS q := by
  have := pS_le q
  unfold pL
  have := Nat.mod_lt q.2.2 (show 0 < pS q - 39 by omega)
  omega
theorem may_piece (q : Nat × Nat × Nat) : mayG (pS q) (pU q) (pO q) = true := by
  have := pS_le q
  have := pO_le q
  rw [mayG_iff]
  exact ⟨by omega, by omega, by omega, by omega, this.2⟩
theorem may_rest {n : Nat} (h : n % 16 = 0) (h1 : 48 ≤ n) (h2 : n ≤ 1048576) : mayG n false 0 = true := by
  rw [mayG_iff]; exact ⟨h, h1, h2, by omega, .inr rfl⟩
theorem pack_val {s o : Nat} {u : Bool} (h : mayG s u o = true) : packG s u o = s + o * 4294967296 + (if u = true then 1 else 0) := if_pos h
/-- A block's word says what it says. -/
theorem un_pack {s o : Nat} {u : Bool} (h : mayG s u o = true) : okG (packG s u o) = true ∧ unG (packG s u o) = agG s u o := by
  have h' := (mayG_iff s u o).1 h
  have hv := pack_val h
  obtain ⟨b, hb⟩ : ∃ b, (if u = true then 1 else 0) = b := ⟨_, rfl⟩
  have hb1 : b ≤ 1 ∧ decide (b = 1) = u := by rw [← hb]; cases u <;> simp
  rw [hb] at hv
  have hm : packG s u o % 4294967296 = s + b := by rw [hv]; omega
  have hd : packG s u o / 4294967296 = o := by rw [hv]; omega
  have e1 : unS (packG s u o) = s := by unfold unS; rw [hm]; omega
  have e2 : unU (packG s u o) = u := by
    unfold unU
    rw [hm, ← hb1.2]
    exact decD (by omega)
  have e3 : unO (packG s u o) = o := by unfold unO; rw [hd]; omega
  have ok : okG (packG s u o) = true := by
    unfold okG
    rw [e1, e2, e3, h]
    simp
  refine ⟨ok, ?_⟩
  unfold unG
  rw [if_pos ok, e1, e2, e3]

/-- Blocks lie from an offset to the end. -/
def Lie (f : Nat → Nat) (E : Nat) : Nat → List Blk → Prop
  | off, [] => off = E
  | off, b :: r => b.off = off ∧ mayG b.size b.used b.owner = true ∧ f off = packG b.size b.used b.owner ∧ f (off + b.size - 8) = packG b.size b.used b.owner ∧
      (b.used = true → f (off + 8) = b.len ∧ b.len + 40 ≤ b.size) ∧ (b.used = false → b.len = 0) ∧ Lie f E (off + b.size) r
theorem Lie.le {f : Nat → Nat} {E off : Nat} {l : List Blk} (h : Lie f E off l) : off + 48 * l.length ≤ E := by
  induction l generalizing off with
  | nil => have : off = E := h
           simp [this]
  | cons b r ih =>
    obtain ⟨_, h2, _, _, _, _, h7⟩ := h
    have := (mayG_iff _ _ _).1 h2
    have := ih h7
    simp only [List.length_cons]
    omega
theorem Lie.all {f : Nat → Nat} {E off : Nat} {l : List Blk} (h : Lie f E off l) : ∀ b ∈ l, off ≤ b.off ∧ b.off + b.size ≤ E := by
  induction l generalizing off with
  | nil => intro b hb; cases hb
  | cons b r ih =>
    have hle := h.le
    obtain ⟨h1, h2, h3, h4, h5, h6, h7⟩ := h
    have hm := (mayG_iff _ _ _).1 h2
    have := h7.le
    intro x hx
    rcases List.mem_cons.1 hx with rfl | hx
    · omega
    · have := ih h7 x hx; omega

section
variable {σ : St}
theorem St.load_upd (hW : σ.W.length = 600) {a : Nat} (ha : inSeg a) (x : Nat) : (σ.store a x).load = upd σ.load a x := by
  funext o
  exact load_store ⟨ha.1, by rw [hW]; have := ha.2; omega⟩ x o
theorem layOne_W (off : Nat) (q : Nat × Nat × Nat) : (layOne σ off q).W = σ.W := by
  unfold layOne
  simp only
  split <;> simp [store_W]
theorem layOne_load (hW : σ.W.length = 600) {off : Nat} (q : Nat × Nat × Nat) (h16 : off % 16 = 0) (h : off + pS q ≤ 4800) {o : Nat} (ho : o < off ∨ off + pS q ≤ o) : (layOne σ off q).load o = σ.load o := by
  have hp := pS_le q
  have i1 : inSeg off := ⟨by omega, by omega⟩
  have i2 : inSeg (off + pS q - 8) := ⟨by omega, by omega⟩
  have i3 : inSeg (off + 8) := ⟨by omega, by omega⟩
  unfold layOne
  simp only
  split
  · rw [St.load_upd (by simp [store_W, hW]) i3, upd_ne (by omega), St.load_upd (by simp [store_W, hW]) i2, upd_ne (by omega), St.load_upd hW i1, upd_ne (by omega)]
  · rw [St.load_upd (by simp [store_W, hW]) i2, upd_ne (by omega), St.load_upd hW i1, upd_ne (by omega)]
theorem layOne_in (hW : σ.W.length = 600) {off : Nat} (q : Nat × Nat × Nat) (h16 : off % 16 = 0) (h : off + pS q ≤ 4800) :
    (layOne σ off q).load off = packG (pS q) (pU q) (pO q) ∧ (layOne σ off q).load (off + pS q - 8) = packG (pS q) (pU q) (pO q) ∧ (pU q = true → (layOne σ off q).load (off + 8) = pL q) := by
  have hp := pS_le q
  have i1 : inSeg off := ⟨by omega, by omega⟩
  have i2 : inSeg (off + pS q - 8) := ⟨by omega, by omega⟩
  have i3 : inSeg (off + 8) := ⟨by omega, by omega⟩
  unfold layOne
  simp only
  split
  · refine ⟨?_, ?_, fun _ => ?_⟩
    · rw [St.load_upd (by simp [store_W, hW]) i3, upd_ne (by omega), St.load_upd (by simp [store_W, hW]) i2, upd_ne (by omega), St.load_upd hW i1, upd_same]
    · rw [St.load_upd (by simp [store_W, hW]) i3, upd_ne (by omega), St.load_upd (by simp [store_W, hW]) i2, upd_same]
    · rw [St.load_upd (by simp [store_W, hW]) i3, upd_same]
  · next hu =>
    refine ⟨?_, ?_, fun h => absurd h hu⟩
    · rw [St.load_upd (by simp [store_W, hW]) i2, upd_ne (by omega), St.load_upd hW i1, upd_same]
    · rw [St.load_upd (by simp [store_W, hW]) i2, upd_same]
theorem layEnd (hW : σ.W.length = 600) {off : Nat} (h16 : off % 16 = 0) (h : off + 48 ≤ 4800) :
    Lie ((σ.store off (packG (4800 - off) false 0)).store (off + (4800 - off) - 8) (packG (4800 - off) false 0)).load 4800 off [⟨off, 4800 - off, false, 0, 0⟩] ∧
    ∀ o, o < off → ((σ.store off (packG (4800 - off) false 0)).store (off + (4800 - off) - 8) (packG (4800 - off) false 0)).load o = σ.load o := by
  have i1 : inSeg off := ⟨by omega, by omega⟩
  have i2 : inSeg (off + (4800 - off) - 8) := ⟨by omega, by omega⟩
  rw [St.load_upd (by simp [store_W, hW]) i2, St.load_upd hW i1]
  refine ⟨⟨rfl, (may_rest (by omega) (by omega) (by omega) : mayG (4800 - off) false 0 = true), ?_, ?_, fun h => (by cases h), fun _ => rfl, ?_⟩, fun o ho => ?_⟩
  · rw [upd_ne (by omega), upd_same]
  · exact upd_same _ _ _
  · show off + (4800 - off) = 4800
    omega
  · rw [upd_ne (by omega), upd_ne (by omega)]
/-- What was laid lies, and ahead of it all is as it was. -/
theorem lay_lie (l : List (Nat × Nat × Nat)) : ∀ (σ : St) (off : Nat), σ.W.length = 600 → off % 16 = 0 → off + 48 ≤ 4800 →
    Lie (layS 4800 σ off l).load 4800 off (layA 4800 off l) ∧ ∀ o, o < off → (layS 4800 σ off l).load o = σ.load o := by
  induction l with
  | nil => intro σ off hW h16 h; exact layEnd hW h16 h
  | cons q r ih =>
    intro σ off hW h16 h
    unfold layS layA
    by_cases hb : 4800 < off + pS q + 48
    · rw [if_pos hb, if_pos hb]; exact layEnd hW h16 h
    · rw [if_neg hb, if_neg hb]
      have hp := pS_le q
      obtain ⟨h1, h2⟩ := ih (layOne σ off q) (off + pS q) (by rw [layOne_W]; exact hW) (by omega) (by omega)
      obtain ⟨a1, a2, a3⟩ := layOne_in hW q h16 (by omega)
      refine ⟨⟨rfl, may_piece q, by rw [h2 _ (by omega), a1], by rw [h2 _ (by simp only; omega), a2], fun hu => ?_, fun hu => ?_, h1⟩, fun o ho => ?_⟩
      · simp only at hu
        simp only
        rw [h2 _ (by omega), a3 hu, if_pos hu]
        exact ⟨rfl, pL_le q⟩
      · simp only at hu
        simp [hu]
      · rw [h2 _ (by omega), layOne_load hW q h16 (by omega) (.inl ho)]
theorem layS_fine {E : Nat} (l : List (Nat × Nat × Nat)) : ∀ (σ : St) (off : Nat), FineS σ → FineS (layS E σ off l) := by
  induction l with
  | nil => intro σ off h; exact (h.store _ _).store _ _
  | cons q r ih =>
    intro σ off h
    unfold layS
    split
    · exact (h.store _ _).store _ _
    · refine ih _ _ ?_
      unfold layOne
      simp only
      split
      · exact ((h.store _ _).store _ _).store _ _
      · exact (h.store _ _).store _ _
end
theorem layA_ne (E off : Nat) (l : List (Nat × Nat × Nat)) : layA E off l ≠ [] := by
  cases l with
  | nil => simp [layA]
  | cons q r => unfold layA; split <;> simp
theorem Lie.apart {f : Nat → Nat} {E off : Nat} {l : List Blk} (h : Lie f E off l) : l.Pairwise fun a b => a.off + 48 ≤ b.off := by
  induction l generalizing off with
  | nil => exact List.Pairwise.nil
  | cons b r ih =>
    obtain ⟨h1, h2, h3, h4, h5, h6, h7⟩ := h
    have hm := (mayG_iff _ _ _).1 h2
    rw [List.pairwise_cons]
    exact ⟨fun a ha => by have := h7.all a ha; omega, ih h7⟩
theorem Lie.mod {f : Nat → Nat} {E off : Nat} {l : List Blk} (h : Lie f E off l) (h16 : off % 16 = 0) : ∀ b ∈ l, b.off % 16 = 0 ∧ 48 ≤ b.size := by
  induction l generalizing off with
  | nil => intro b hb; cases hb
  | cons b r ih =>
    obtain ⟨h1, h2, h3, h4, h5, h6, h7⟩ := h
    have hm := (mayG_iff _ _ _).1 h2
    intro x hx
    rcases List.mem_cons.1 hx with rfl | hx
    · omega
    · exact ih h7 (by omega) x hx
end Go.Proofs.Ck

namespace Go.Proofs.Ck
open Go Go.RowKit

/-- Two words of a block, as they should be. -/
def wordsB (f : Nat → Nat) (l : List Nat) (i : Nat) : Bool :=
  decide (f ((l.getD i 0 + 16) % 18446744073709551616) = l.getD (i + 1) 0) && decide (f ((l.getD i 0 + 24) % 18446744073709551616) = if i = 0 then 0 else l.getD (i - 1) 0)
/-- Is a client's list just these? -/
def chkB (f : Nat → Nat) (c : Int) (l : List Nat) : Bool := decide (getF f c 8 = l.getD 0 0) && (List.range l.length).all (wordsB f l)
theorem seg_get {f : Nat → Nat} {l : List Nat} : ∀ {p e : Nat}, seg f p l e → ∀ i, i < l.length → f (l.getD i 0 + 16) = (if i + 1 < l.length then l.getD (i + 1) 0 else e) ∧ f (l.getD i 0 + 24) = if i = 0 then p else l.getD (i - 1) 0 := by
  induction l with
  | nil => intro p e _ i hi; simp at hi
  | cons a r ih =>
    rintro p e ⟨h1, h2, h3⟩ i hi
    cases i with
    | zero =>
      simp only [List.getD_cons_zero, List.getD_cons_succ]
      refine ⟨?_, by rw [h2]; simp⟩
      rw [h1]
      cases r with
      | nil => simp
      | cons b r => simp
    | succ i =>
      have hi' : i < r.length := by simpa using hi
      obtain ⟨k1, k2⟩ := ih h3 i hi'
      simp only [List.getD_cons_succ]
      refine ⟨?_, ?_⟩
      · rw [k1]
        simp only [List.length_cons]
        by_cases h : i + 1 < r.length
        · rw [if_pos h, if_pos (by omega)]
        · rw [if_neg h, if_neg (by omega)]
      · rw [k2]
        cases i with
        | zero => simp
        | succ i => simp
theorem chk_told {f : Nat → Nat} {c : Nat} {l : List Nat} (hc : c < 8) (h : Chk f c l) (hl : ∀ a ∈ l, a < 4800) : chkB f (c : Int) l = true := by
  obtain ⟨h1, h2⟩ := h
  unfold chkB
  rw [Bool.and_eq_true, decide_eq_true_eq, List.all_eq_true]
  refine ⟨?_, fun i hi => ?_⟩
  · unfold getF
    rw [if_pos (by omega), show ((c : Int)).toNat = c from rfl]
    rw [show 64 + 416 * c + 8 = hdO c from rfl, h1]
    cases l <;> rfl
  · have hi := List.mem_range.1 hi
    obtain ⟨k1, k2⟩ := seg_get h2 i hi
    have hm : l.getD i 0 ∈ l := by rw [List.getD_eq_getElem?_getD, List.getElem?_eq_getElem hi]; exact List.getElem_mem hi
    have hlt := hl _ hm
    unfold wordsB
    rw [Bool.and_eq_true, decide_eq_true_eq, decide_eq_true_eq, Nat.mod_eq_of_lt (by omega), Nat.mod_eq_of_lt (by omega)]
    refine ⟨?_, k2⟩
    rw [k1]
    by_cases h : i + 1 < l.length
    · rw [if_pos h]
    · rw [if_neg h, List.getD_eq_getElem?_getD, List.getElem?_eq_none (by omega)]; rfl

/-- One list otherwise. -/
def setL (L : Nat → List Nat) (c : Nat) (l : List Nat) : Nat → List Nat := fun d => if d = c then l else L d
/-- Is a block in some list? -/
def inL (L : Nat → List Nat) (off : Nat) : Bool := (List.range 8).any fun k => decide (off ∈ L k)
theorem inL_no {L : Nat → List Nat} {off : Nat} (h : inL L off = false) : ∀ d, d < 8 → off ∉ L d := by
  intro d hd hm
  unfold inL at h
  rw [List.any_eq_false] at h
  exact h d (List.mem_range.2 hd) (by simpa using hm)
def stepF (f : Nat → Nat) (L : Nat → List Nat) (c off : Nat) : Nat → Nat := if off ∈ L c then unlinkF f c off else if inL L off = false then linkF f c off else f
def stepL (L : Nat → List Nat) (c off : Nat) : Nat → List Nat := if off ∈ L c then setL L c ((L c).filter (· != off)) else if inL L off = false then setL L c (off :: L c) else L
/-- Steps: whose list, and which block. -/
def stepsF (all : List Nat) : (Nat → Nat) → (Nat → List Nat) → List (Nat × Nat) → Nat → Nat
  | f, _, [] => f
  | f, L, q :: r => stepsF all (stepF f L (q.1 % 8) (all.getD (q.2 % all.length) 0)) (stepL L (q.1 % 8) (all.getD (q.2 % all.length) 0)) r
def stepsL (all : List Nat) : (Nat → List Nat) → List (Nat × Nat) → Nat → List Nat
  | L, [] => L
  | L, q :: r => stepsL all (stepL L (q.1 % 8) (all.getD (q.2 % all.length) 0)) r
theorem stepsF_snoc (all : List Nat) (q : Nat × Nat) : ∀ (l : List (Nat × Nat)) (f : Nat → Nat) (L : Nat → List Nat),
    stepsF all f L (l ++ [q]) = stepF (stepsF all f L l) (stepsL all L l) (q.1 % 8) (all.getD (q.2 % all.length) 0)
  | [], f, L => rfl
  | x :: r, f, L => by
    rw [List.cons_append]
    simp only [stepsF, stepsL]
    exact stepsF_snoc all q r _ _
theorem stepsL_snoc (all : List Nat) (q : Nat × Nat) : ∀ (l : List (Nat × Nat)) (L : Nat → List Nat),
    stepsL all L (l ++ [q]) = stepL (stepsL all L l) (q.1 % 8) (all.getD (q.2 % all.length) 0)
  | [], L => rfl
  | x :: r, L => by
    rw [List.cons_append]
    simp only [stepsL]
    exact stepsL_snoc all q r _
section
variable {f : Nat → Nat} {all : List Nat} {L : Nat → List Nat}
theorem Lists.step (h : Lists f all L) (hR : Room all) {c off : Nat} (hc : c < 8) (hoff : off ∈ all) :
    Lists (stepF f L c off) all (stepL L c off) ∧ ∀ a ∈ all, stepF f L c off a = f a := by
  unfold stepF stepL
  by_cases h1 : off ∈ L c
  · rw [if_pos h1, if_pos h1]
    exact h.unlink hR hc h1
  · rw [if_neg h1, if_neg h1]
    by_cases h2 : inL L off = false
    · rw [if_pos h2, if_pos h2]
      exact h.link hR hc hoff (inL_no h2)
    · rw [if_neg h2, if_neg h2]
      exact ⟨h, fun _ _ => rfl⟩
theorem Lists.steps (hR : Room all) (h0 : all ≠ []) : ∀ (l : List (Nat × Nat)) {f : Nat → Nat} {L : Nat → List Nat}, Lists f all L → Lists (stepsF all f L l) all (stepsL all L l) ∧ ∀ a ∈ all, stepsF all f L l a = f a
  | [], f, L, h => ⟨h, fun _ _ => rfl⟩
  | q :: r, f, L, h => by
    have hlen : 0 < all.length := List.length_pos_iff.2 h0
    have hm : all.getD (q.2 % all.length) 0 ∈ all := by
      rw [List.getD_eq_getElem?_getD, List.getElem?_eq_getElem (Nat.mod_lt _ hlen)]
      exact List.getElem_mem _
    obtain ⟨h1, h2⟩ := h.step hR (c := q.1 % 8) (Nat.mod_lt _ (by omega)) hm
    obtain ⟨h3, h4⟩ := Lists.steps hR h0 r h1
    exact ⟨h3, fun a ha => by simp only [stepsF]; rw [h4 a ha, h2 a ha]⟩
theorem Lists.told (h : Lists f all L) (hR : Room all) {c : Nat} (hc : c < 8) : chkB f (c : Int) (L c) = true :=
  chk_told hc (h.chk c hc) fun a ha => by have := hR.at_ a (h.sub c hc a ha); omega
end
/-- At first all lists are empty. -/
theorem lists_empty {f : Nat → Nat} {all : List Nat} (h : ∀ c, c < 8 → f (hdO c) = 0) : Lists f all fun _ => [] :=
  ⟨fun c hc => ⟨h c hc, trivial⟩, fun c hc a ha => (by cases ha), fun c hc => List.nodup_nil, fun c d hc hd hcd a ha => (by cases ha)⟩
end Go.Proofs.Ck
