import Derived.Test.YtiijdojihleggaaGreatDoorQNPJ
import Derived.Test.YtiijdojihleggaaGreatDoorQNZH
import Derived.Test.YtiijdojihleggaaGreatDoorQNZI
import Derived.Test.YtiijdojihleggaaGreatDoorQNZJ
import Derived.Test.YtiijdojihleggaaGreatDoorQKdg
import Derived.Test.YtiijdojihleggaaGreatDoorQNZG
import Derived.Test.YtiijdojihleggaaGreatDoorQNB1
set_option maxRecDepth 100000
set_option linter.unusedSimpArgs false
set_option linter.unusedVariables false
open Go.Lib (hid)
namespace Go.Proofs.YtiijdojihleggaaGreatDoor
def wn : F → Nat
 | .nil => 0
 | .cons _ _ _ _ c p r => 1 + wn c + wn p + wn r
def wnT : List Tok → Nat
 | [] => 0
 | _ :: r => 1 + wnT r
theorem wnT_len : ∀ l : List Tok, wnT l = l.length
 | [] => rfl
 | _ :: r => by rw [wnT, wnT_len r, List.length_cons]; omega
theorem wn_app (f g : F) : wn (f.app g) = wn f + wn g := by
 induction f with
 | nil => simp [F.app, wn]
 | cons k t n s c p r _ _ ih => simp only [F.app, wn]; rw [ih]; omega
theorem wn_all (E : Nat) : ∀ n, (∀ d c st x, msgP E n d c st = .ok x → wn x.1 + wnT x.2.left ≤ wnT st.left) ∧ (∀ d c st x, argP E n d c st = .ok x → wn x.1 + wnT x.2.left ≤ wnT st.left) ∧
 (∀ k d c ks st x, casP E n k d c ks st = .ok x → wn x.1 + wnT x.2.left ≤ wnT st.left) := by
 intro n
 induction n with
 | zero =>
   refine ⟨fun d c st x h => ?_, fun d c st x h => ?_, fun k d c ks st x h => ?_⟩
   ·rw [msgP] at h; injection h with h; subst h; simp [wn]
   ·rw [argP] at h; injection h with h; subst h; simp [wn]
   ·rw [casP] at h; injection h with h; subst h; simp [wn]
 | succ n ih =>
   obtain ⟨i1, i2, i3⟩ := ih
   refine ⟨fun d c st x h => ?_, fun d c st x h => ?_, fun k d c ks st x h => ?_⟩
   ·obtain ⟨l, ns⟩ := st
    cases l with
    | nil => rw [msgP] at h; injection h with h; subst h; simp [wn]
    | cons t r =>
      rw [msgP] at h
      simp only at h
      simp only [wnT]
      split at h
      ·obtain ⟨y, hy, rfl⟩ := map_ok.1 h
       have := i1 _ _ _ _ hy
       have h2 := unescP_len _ t.t (Nat.le_refl _)
       simp only [wn, List.length_nil] at this ⊢; omega
      split at h
      ·split at h
       ·obtain ⟨y, hy, rfl⟩ := map_ok.1 h
        have := i1 _ _ _ _ hy
        simp only [wn, List.length_nil] at this ⊢; omega
       ·cases h
      split at h
      ·split at h
       ·obtain ⟨y, hy, rfl⟩ := map_ok.1 h
        have := i1 _ _ _ _ hy
        simp only [wn, List.length_nil] at this ⊢; omega
       ·cases h
      split at h
      ·split at h
       ·obtain ⟨y, hy, h⟩ := bind_ok.1 h
        have e1 := i1 _ _ _ _ hy
        obtain ⟨f, ⟨yl, yn⟩⟩ := y
        cases yl with
        | nil => cases h
        | cons u q =>
          simp only at h
          split at h
          ·obtain ⟨z, hz, rfl⟩ := map_ok.1 h
           have := i1 _ _ _ _ hz
           simp only [wn, wnT, List.length_nil] at e1 this ⊢; omega
          ·cases h
       ·cases h
      split at h
      ·obtain ⟨y, hy, h⟩ := bind_ok.1 h
       have e1 := i2 _ _ _ _ hy
       obtain ⟨z, hz, rfl⟩ := map_ok.1 h
       have := i1 _ _ _ _ hz
       simp only [wn_app] at e1 this ⊢; omega
      ·injection h with h; subst h; simp [wn, wnT]
   ·rw [argP] at h
    obtain ⟨y, hy, h⟩ := bind_ok.1 h
    obtain ⟨t, r, hl, _, _, hn⟩ := namP_ok.1 hy
    have e1 : y.2.left = r := by rcases hn with ⟨_, rfl⟩ | ⟨_, _, rfl⟩ <;> rfl
    have e0 : y.1 = t.t := by rcases hn with ⟨_, rfl⟩ | ⟨_, _, rfl⟩ <;> rfl
    rw [e1, e0] at h
    rw [hl]
    simp only [wnT]
    cases r with
    | nil => cases h
    | cons u r =>
      simp only at h
      simp only [wnT]
      split at h
      ·injection h with h; subst h; simp only [wn, F.one, List.length_nil]; omega
      split at h
      ·cases r with
       | nil => cases h
       | cons v q =>
         simp only at h
         simp only [wnT]
         split at h
         ·split at h
          ·split at h
           ·obtain ⟨z, hz, h⟩ := bind_ok.1 h
            obtain ⟨t1, r1, rfl, _, rfl⟩ := takeP_ok.1 hz
            obtain ⟨a, ha, h⟩ := bind_ok.1 h
            have e2 := i3 _ _ _ _ _ _ ha
            obtain ⟨b, hb, rfl⟩ := map_ok.1 h
            obtain ⟨t2, r2, hr2, _, rfl⟩ := takeP_ok.1 hb
            rw [hr2] at e2
            simp only [wn, wnT, F.one, List.length_nil] at e2 ⊢; omega
           ·cases h
          split at h
          ·obtain ⟨b, hb, rfl⟩ := map_ok.1 h
           obtain ⟨t2, r2, rfl, _, rfl⟩ := takeP_ok.1 hb
           simp only [wn, wnT, F.one, List.length_nil]; omega
          ·obtain ⟨z, hz, h⟩ := bind_ok.1 h
           obtain ⟨t1, r1, rfl, _, rfl⟩ := takeP_ok.1 hz
           obtain ⟨a, ha, h⟩ := bind_ok.1 h
           obtain ⟨t2, r2, e2, _, _, rfl⟩ := wrdP_ok.1 ha
           simp only at e2
           obtain ⟨b, hb, rfl⟩ := map_ok.1 h
           obtain ⟨t3, r3, e3, _, rfl⟩ := takeP_ok.1 hb
           simp only at e3
           subst e2 e3
           simp only [wn, wnT, F.one, List.length_nil]; omega
         ·cases h
      ·cases h
   ·obtain ⟨l, ns⟩ := st
    cases l with
    | nil => rw [casP] at h; cases h
    | cons t r =>
      rw [casP] at h
      simp only at h
      simp only [wnT]
      split at h
      ·split at h
       ·cases h
       split at h
       ·cases h
       obtain ⟨z, hz, h⟩ := bind_ok.1 h
       obtain ⟨t1, r1, rfl, _, rfl⟩ := takeP_ok.1 hz
       obtain ⟨a, ha, h⟩ := bind_ok.1 h
       have e2 := i1 _ _ _ _ ha
       obtain ⟨b, hb, h⟩ := bind_ok.1 h
       obtain ⟨t2, r2, hr2, _, rfl⟩ := takeP_ok.1 hb
       obtain ⟨g, hg, rfl⟩ := map_ok.1 h
       have e3 := i3 _ _ _ _ _ _ hg
       rw [hr2] at e2
       simp only [wn, wnT, List.length_nil] at e2 e3 ⊢; omega
      split at h
      ·split at h
       ·injection h with h; subst h; simp [wn, wnT]
       ·cases h
      ·cases h
theorem msgC_wn {E d : Nat} {c : Bool} {st : St} {x : F × St} (h : msgC E d c st = .ok x) : wn x.1 ≤ wnT st.left := by
 have := (wn_all E _).1 _ _ _ _ h
 omega
theorem parse_wn {c : Bool} {s : By} {f : F} (h : parseR c s = .ok f) : wt f ≤ 32100000 ∧ wn f ≤ 4000 := by
 obtain ⟨h1, h2, ⟨ns, h3⟩, h4⟩ := parseR_ok.1 h
 have hw := msgC_wt h3
 have hn := msgC_wn h3
 obtain ⟨t1, t2, _⟩ := tokens_size h1 h2
 have hw2 := wtT_le (tokensP s).1 (fun t ht => (t2 t ht).1)
 have e : wt f ≤ wtT (tokensP s).1 := hw
 have e2 : (tokensP s).1.length * 8020 ≤ 4000 * 8020 := Nat.mul_le_mul_right _ t1
 have e3 : wn f ≤ wnT (tokensP s).1 := hn
 rw [wnT_len] at e3
 omega
theorem places_form : ∀ f : F, (∀ d c pt, formB d c pt f = true → ∀ p ∈ placesF f, p.2.2.length ≤ 40) ∧ (∀ kind d c seen, casB kind d c seen f = true → ∀ p ∈ placesF f, p.2.2.length ≤ 40) := by
 intro f
 induction f with
 | nil => exact ⟨fun _ _ _ _ p hp => (by cases hp), fun _ _ _ _ _ p hp => (by cases hp)⟩
 | cons k t n s ca pa r ihc ihp ihr =>
   constructor
   ·intro d c pt h p hp
    obtain ⟨hr, hn, _, _, hsub⟩ := form_sub h
    rw [placesF] at hp
    rcases List.mem_append.1 hp with hp | hp
    ·split at hp
     ·rename_i hk
      rw [List.mem_singleton.1 hp]
      have := hn hk
      unfold nameB at this
      simp only [Bool.and_eq_true, decide_eq_true_eq] at this
      exact this.1.1.2
     ·cases hp
    ·rcases List.mem_append.1 hp with hp | hp
     ·rcases hsub with ⟨_, rfl | ⟨d', c', hf⟩⟩ | ⟨rfl, _⟩
      ·cases hp
      ·exact ihp.1 _ _ _ hf p hp
      ·cases hp
     ·rcases List.mem_append.1 hp with hp | hp
      ·rcases hsub with ⟨rfl, _⟩ | ⟨_, kd, d', c', hf⟩
       ·cases hp
       ·exact ihc.2 _ _ _ _ hf p hp
      ·exact ihr.1 _ _ _ hr p hp
   ·intro kind d c seen h p hp
    obtain ⟨rfl, rfl, hf, hr⟩ := cas_sub h
    rw [placesF, if_neg (by decide)] at hp
    simp only [placesF, List.nil_append] at hp
    rcases List.mem_append.1 hp with hp | hp
    ·exact ihp.1 _ _ _ hf p hp
    ·exact ihr.2 _ _ _ _ hr p hp
theorem par_short {f g : F} {l : List NmP} (h : parV f g = some l) : OneN l ∧ ∀ p ∈ l, p.2.length ≤ 40 := by
 unfold parV at h
 split at h
 ·rename_i hv
  obtain ⟨h1, _, _, h4⟩ := par_spec _ _ [] l hv.2.2 one_nil h
  refine ⟨h1, fun p hp => ?_⟩
  rcases h4 p hp with h0 | ⟨_, y, hy, e⟩
  ·cases h0
  ·rw [← e]
   exact (places_form g).1 _ _ _ (validF_iff.1 hv.2.1).1 y hy
 ·cases h
theorem look_short {l : List NmP} (h : ∀ p ∈ l, p.2.length ≤ 40) (n : By) : ((lookP l n).getD []).length ≤ 40 := by
 cases hl : lookP l n with
 | none => simp
 | some m => exact h _ (look_some hl)
theorem ren_wt {l : List NmP} (h : ∀ p ∈ l, p.2.length ≤ 40) : ∀ f : F, wt (renF l f) ≤ wt f + 80 * wn f := by
 intro f
 induction f with
 | nil => simp [renF, wt]
 | cons k t n s c p r i1 i2 i3 =>
   rw [renF, wt, wt, wn]
   have h1 : (nameR l k n).length ≤ n.length + 40 := by
    unfold nameR
    split
    ·have := look_short h n; omega
    ·omega
   omega
theorem ren_can {l : List NmP} (h : ∀ p ∈ l, p.2.length ≤ 40) : ∀ f : F, (Can f → Can (renF l f)) ∧ (CanC f → CanC (renF l f)) := by
 intro f
 induction f with
 | nil => exact ⟨fun _ => (by rw [renF, Can]; trivial), fun _ => (by rw [renF, CanC]; trivial)⟩
 | cons k t n s c p r i1 i2 i3 =>
   constructor
   ·intro hc
    rw [Can] at hc
    rw [renF, Can]
    refine ⟨?_, hc.2.1, i1.2 hc.2.2.1, i2.1 hc.2.2.2.1, i3.1 hc.2.2.2.2⟩
    unfold nameR
    split
    ·have := look_short h n; omega
    ·exact hc.1
   ·intro hc
    rw [CanC] at hc
    obtain ⟨rfl, h2, h3, rfl, h5, h6, h7⟩ := hc
    rw [renF, CanC]
    refine ⟨rfl, h2, h3, rfl, ?_, i2.1 h6, i3.2 h7⟩
    unfold nameR
    rw [if_neg (by decide)]
    exact h5
end Go.Proofs.YtiijdojihleggaaGreatDoor
namespace Go.Proofs.YtiijdojihleggaaGreatDoor
open Go.RowKit
theorem errF_ne {c : Bool} {s : By} {x : Int × Option Nat} (h : parseR c s = .error x) : x.1 ≠ 0 := by
 obtain ⟨e, a⟩ := x
 cases a with
 | none => have := parse_none h; show e ≠ 0; omega
 | some a => have := (parse_err h).2.1; show e ≠ 0; omega
def RetP2 (w : World) (Y : Except (Int × Option Nat) F) (e : Ending) (w' : World) : Prop :=
 Ext w w' ∧ ((∃ f A c p l k, Y = .ok f ∧ e = .returned (.tuple #[.slice A f.len c, .agg #[.int .i64 p, .int .i64 l, .int .i64 k], .int .i64 0]) ∧ FwS w' (fun k => w.heap.size ≤ k) f (.slice A f.len c)) ∨
  ∃ x A n c p l k, Y = .error x ∧ e = .returned (.tuple #[.slice A n c, .agg #[.int .i64 p, .int .i64 l, .int .i64 k], .int .i64 x.1]) ∧ x.1 ≠ 0)
theorem parse2_any (s : ByteArray) (w : World) (hm : Mx w) (hs : s.size ≤ 1048576) : Calls Tryz.prog 25 #[.string s] w (RetP2 w (parseR false s.data.toList)) := by
 refine (tParse_any s w hm hs).mono ?_
 rintro e w' ⟨hx, A, n, c, rfl, h1, h2⟩
 obtain ⟨p, l, k, hp⟩ := posE_three s.data.toList (parseR false s.data.toList)
 rw [hp]
 cases hy : parseR false s.data.toList with
 | ok f =>
   have hF := (h1 f hy).1
   obtain ⟨A', c', ps, e2, h4⟩ := hF
   injection e2 with e3 e4 e5
   subst e3 e4 e5
   exact ⟨hx, .inl ⟨f, A, c, p, l, k, rfl, rfl, A, c, ps, rfl, h4⟩⟩
 | error x => exact ⟨hx, .inr ⟨x, A, n, c, p, l, k, rfl, rfl, errF_ne hy⟩⟩
theorem par_len : ∀ (xs ys : List PlP) (o l : List NmP), parL xs ys o = some l → l.length ≤ o.length + xs.length
 | [], _, o, l, h => by injection h with h; subst h; simp
 | _ :: _, [], o, l, h => by injection h with h; subst h; simp
 | x :: xs, y :: ys, o, l, h => by
   simp only [parL] at h
   cases hs : parStep o x y with
   | none => rw [hs] at h; cases h
   | some o1 =>
     rw [hs] at h
     have h1 := par_len xs ys o1 l h
     have h2 : o1.length ≤ o.length + 1 := by
      unfold parStep at hs
      split at hs
      ·cases hs
      ·split at hs
       ·cases hs
       ·split at hs
        ·injection hs with hs; subst hs; omega
        ·injection hs with hs; subst hs; simp
     rw [List.length_cons]
     omega
theorem parV_len {f g : F} {l : List NmP} (h : parV f g = some l) : l.length ≤ f.nodes := by
 unfold parV at h
 split at h
 ·have h1 := par_len _ _ _ _ h
  have := places_len f
  simp at h1
  omega
 ·cases h
theorem look_take {PL : List NmP} (h1 : OneN PL) {j : Nat} {p : NmP} (hp : PL[j]? = some p) : ∀ z, lookP (PL.take (j + 1)) z = if z = p.1 then some p.2 else lookP (PL.take j) z := by
 intro z
 rw [take_next hp]
 have hone : OneN (PL.take j ++ [p]) := by
  rw [← take_next hp]
  exact fun a ha b hb => h1 a (List.mem_of_mem_take ha) b (List.mem_of_mem_take hb)
 by_cases hz : z = p.1
 ·rw [if_pos hz, hz]
  exact look_of hone (by simp)
 ·rw [if_neg hz]
  cases hq : lookP (PL.take j) z with
  | some m => exact look_of hone (List.mem_append_left _ (look_some hq))
  | none =>
    cases hq2 : lookP (PL.take j ++ [p]) z with
    | none => rfl
    | some m =>
      rcases List.mem_append.1 (look_some hq2) with h | h
      ·exact absurd rfl (look_none hq _ h)
      ·rw [List.mem_singleton] at h
       subst h
       exact absurd rfl hz
def fitQ (o : Option (List NmP)) (b : F) : By × Int := match o with
 | some l => if knowF l b = true then (if validF false (renF l b) = true then (txtP [32] (renF l b), 0) else ([], 6)) else ([], 8)
 | none => ([], 8)
theorem fit_eq {s t x : By} {a b c : F} (ha : parseR false s = .ok a) (hb : parseR false t = .ok b) (hc : parseR false x = .ok c) : fitP s t x = fitQ (parV a c) b := by
 unfold fitP
 rw [ha, hb, hc]
 rfl
def FiI (wb : World) (mb : Nat) (PL : List NmP) (i : Value) (wr : World) : Prop := ∃ j : Nat, i = .int .i64 j ∧ j ≤ PL.length ∧ MapO Tryz.prog 9 wr mb j (lookP (PL.take j)) ∧ Ext wb wr
theorem nm_at {w : World} {A : Option Addr} {L : List NmP} (h : SlN w A L.length 2 (L.flatMap nmC)) {j : Nat} {p : NmP} (hp : L[j]? = some p) :
 ∃ b o, A = some ⟨b, o, none⟩ ∧ b < w.heap.size ∧ w.cell? ⟨b, o + j * 2, none⟩ = some (.string ⟨p.1.toArray⟩) ∧ w.cell? ⟨b, o + j * 2 + 1, none⟩ = some (.string ⟨p.2.toArray⟩) := by
 have g0 := flat_get nmC 2 (fun _ => rfl) L j 0 p hp (by omega)
 have g1 := flat_get nmC 2 (fun _ => rfl) L j 1 p hp (by omega)
 obtain ⟨b, o, rfl, hb, h0⟩ := h.2 _ _ g0
 obtain ⟨b1, o1, e1, _, h1⟩ := h.2 _ _ g1
 injection e1 with e1
 injection e1 with p1 q1 _
 subst p1 q1
 exact ⟨b, o, rfl, hb, h0, by rw [Nat.add_assoc]; exact h1⟩
set_option maxHeartbeats 8000000 in
theorem tFit_any (s t x : ByteArray) (w : World) (hm : Mx w) (hs : s.size ≤ 1048576) (ht : t.size ≤ 1048576) (hx : x.size ≤ 1048576) :
 Calls Tryz.prog 22 #[.string s, .string t, .string x] w (RetSE w (fitP s.data.toList t.data.toList x.data.toList)) := by
 obtain ⟨R, hR⟩ : ∃ R, R = fitP s.data.toList t.data.toList x.data.toList := ⟨_, rfl⟩
 rw [← hR]
 have HR := hid hR
 have HM := hid hm
 have KS := hid (fun W (hW : Ext w W) => parse2_any s W (hm.ext hW) hs)
 have KT := hid (fun W (hW : Ext w W) => parse2_any t W (hm.ext hW) ht)
 have KX := hid (fun W (hW : Ext w W) => parse2_any x W (hm.ext hW) hx)
 obtain ⟨YS, hYS⟩ : ∃ Y, Y = parseR false s.data.toList := ⟨_, rfl⟩
 obtain ⟨YT, hYT⟩ : ∃ Y, Y = parseR false t.data.toList := ⟨_, rfl⟩
 obtain ⟨YX, hYX⟩ : ∃ Y, Y = parseR false x.data.toList := ⟨_, rfl⟩
 rw [← hYS] at KS
 rw [← hYT] at KT
 rw [← hYX] at KX
 have HYS := hid hYS
 have HYT := hid hYT
 have HYX := hid hYX
 have HB0 := hid (show AtC 98 (w.alloc (.cells #[.slice none 0 0, .slice none 0 0, .slice none 0 0] 98)) w.heap.size #[.slice none 0 0, .slice none 0 0, .slice none 0 0] from AtC.new w _)
 have HXB := hid (show Ext w (w.alloc (.cells #[.slice none 0 0, .slice none 0 0, .slice none 0 0] 98)) from (Ext.refl w).alloc _)
 clear hm hs ht hx hYS hYT hYX hR
 have q0 : ∀ W : World, (Instr.index 99 (.agg #[.string s, .string t, .string x]) (.int .i64 0)).run Tryz.prog W = .ok (.string s) W := fun W => by kernel_rfl
 have q1 : ∀ W : World, (Instr.index 99 (.agg #[.string s, .string t, .string x]) (.int .i64 1)).run Tryz.prog W = .ok (.string t) W := fun W => by kernel_rfl
 have q2 : ∀ W : World, (Instr.index 99 (.agg #[.string s, .string t, .string x]) (.int .i64 2)).run Tryz.prog W = .ok (.string x) W := fun W => by kernel_rfl
 go_enter Tryz.func22, Tryz.ntmps22
 go_wp2
 refine wp_loop_rounds 4 ?_
 obtain ⟨w1, hw1⟩ : ∃ w1, w1 = w.alloc (.cells #[.slice none 0 0, .slice none 0 0, .slice none 0 0] 98) := ⟨_, rfl⟩
 rw [← hw1] at HB0 HXB ⊢
 clear hw1
 rw [rounds_succ]
 go_wp2_with fail
 refine (KS.out _ HXB.out).mono ?_
 rintro e w2 ⟨hx2, h2⟩
 have hxs0 := hx2
 have HX2 := hid (HXB.out.trans hx2)
 rcases h2 with ⟨fa, Aa, ca, p0, l0, k0, hy, rfl, hf⟩ | ⟨er, Aa, n0, ca, p0, l0, k0, hy, rfl, hne⟩
 rotate_left
 ·as_aux_lemma =>
  have hr : R = ([], 3) := by
   rw [HR.out]
   unfold fitP
   rw [← HYS.out, hy]
  obtain ⟨ee, hee⟩ : ∃ ee, ee = er.1 := ⟨_, rfl⟩
  rw [← hee] at hne ⊢
  have h1 : (ee == 0) = false := by simpa using hne
  have h2 : (ee != 0) = true := by simpa using hne
  subst hr
  clear hee hne hx2 hy
  go_wp2
  go_ret2
  exact ⟨rfl, HX2.out.trans ((Ext.refl _).alloc _)⟩
 have HY0 := hid (show YS = .ok fa from hy)
 go_upto_region 8 with (fail)
 obtain ⟨w3, hw⟩ : ∃ x, x = w2.alloc (.cells #[.int .i64 p0, .int .i64 l0, .int .i64 k0] 65) := ⟨_, rfl⟩
 rw [← hw]
 have hxa : Ext w2 w3 := by rw [hw]; exact (Ext.refl _).alloc _
 have hb := HB0.out.ext (hx2.trans hxa)
 have q9 : w3.cell? ⟨w.heap.size, 0, none⟩ = some (.slice none 0 0) := hb.cell 0 _ rfl
 have f9 := frz_of hb 0
 have HF0 := hid (FwS.exc hf (Exc.of_ext (S := fun _ => False) hxa) (fun _ _ h => h) (fun k hk => (show w.heap.size < k from by have h1 := HB0.out.lt; omega)))
 clear hw hf hy hx2
 go_wp2_with fail
 obtain ⟨w4, hw⟩ : ∃ x, x = w3.setCell ⟨w.heap.size, 0, none⟩ (.slice Aa fa.len ca) := ⟨_, rfl⟩
 rw [← hw]
 have hb' : AtC 98 w4 w.heap.size #[.slice Aa fa.len ca, .slice none 0 0, .slice none 0 0] := by rw [hw]; exact heap_setCell_same _ _ 0 _ _ _ hb
 have HB1 := hid hb'
 have HX4 := hid (show Ext w w4 from by rw [hw]; exact (HX2.out.trans hxa).setCell (p := ⟨w.heap.size, 0, none⟩) (Nat.le_refl _) _)
 have HE0 := hid (show Exc (fun b => b = w.heap.size) w3 w4 from by rw [hw]; exact Exc.setCell (S := fun b => b = w.heap.size) (p := ⟨w.heap.size, 0, none⟩) rfl _)
 have HG0 := hid (HF0.out.exc HE0.out (fun k hk e => by omega) (fun k hk => hk))
 clear hw hb hb' q9 f9 hxa
 rw [rounds_succ]
 go_wp2_with fail
 refine (KT.out _ HX4.out).mono ?_
 rintro e w5 ⟨hx2, h2⟩
 have hxs1 := hx2
 have HX5 := hid (HX4.out.trans hx2)
 rcases h2 with ⟨fb, Ab, cb, p1, l1, k1, hy, rfl, hf⟩ | ⟨er, Ab, n1, cb, p1, l1, k1, hy, rfl, hne⟩
 rotate_left
 ·as_aux_lemma =>
  have hr : R = ([], 3) := by
   rw [HR.out]
   unfold fitP
   rw [← HYS.out, HY0.out, ← HYT.out, hy]
  obtain ⟨ee, hee⟩ : ∃ ee, ee = er.1 := ⟨_, rfl⟩
  rw [← hee] at hne ⊢
  have h1 : (ee == 0) = false := by simpa using hne
  have h2 : (ee != 0) = true := by simpa using hne
  subst hr
  clear hee hne hx2 hy
  go_wp2
  go_ret2
  exact ⟨rfl, HX5.out.trans ((Ext.refl _).alloc _)⟩
 have HY1 := hid (show YT = .ok fb from hy)
 go_upto_region 8 with (fail)
 obtain ⟨w6, hw⟩ : ∃ x, x = w5.alloc (.cells #[.int .i64 p1, .int .i64 l1, .int .i64 k1] 65) := ⟨_, rfl⟩
 rw [← hw]
 have hxa : Ext w5 w6 := by rw [hw]; exact (Ext.refl _).alloc _
 have hb := HB1.out.ext (hx2.trans hxa)
 have q9 : w6.cell? ⟨w.heap.size, 1, none⟩ = some (.slice none 0 0) := hb.cell 1 _ rfl
 have f9 := frz_of hb 1
 have HF1 := hid (FwS.exc hf (Exc.of_ext (S := fun _ => False) hxa) (fun _ _ h => h) (fun k hk => (show w.heap.size < k from by have h1 := HB1.out.lt; omega)))
 clear hw hf hy hx2
 go_wp2_with fail
 obtain ⟨w7, hw⟩ : ∃ x, x = w6.setCell ⟨w.heap.size, 1, none⟩ (.slice Ab fb.len cb) := ⟨_, rfl⟩
 rw [← hw]
 have hb' : AtC 98 w7 w.heap.size #[.slice Aa fa.len ca, .slice Ab fb.len cb, .slice none 0 0] := by rw [hw]; exact heap_setCell_same _ _ 1 _ _ _ hb
 have HB2 := hid hb'
 have HX7 := hid (show Ext w w7 from by rw [hw]; exact (HX5.out.trans hxa).setCell (p := ⟨w.heap.size, 1, none⟩) (Nat.le_refl _) _)
 have HE1 := hid (show Exc (fun b => b = w.heap.size) w6 w7 from by rw [hw]; exact Exc.setCell (S := fun b => b = w.heap.size) (p := ⟨w.heap.size, 1, none⟩) rfl _)
 have HG1 := hid (HF1.out.exc HE1.out (fun k hk e => by omega) (fun k hk => hk))
 have HG0_1 := hid (FwS.exc (FwS.exc HG0.out (Exc.of_ext (S := fun _ => False) (show Ext w4 w6 from hxs1.trans hxa)) (fun _ _ h => h) (fun _ h => h)) HE1.out (fun k hk e => by omega) (fun k hk => hk))
 clear hw hb hb' q9 f9 hxa
 rw [rounds_succ]
 go_wp2_with fail
 refine (KX.out _ HX7.out).mono ?_
 rintro e w8 ⟨hx2, h2⟩
 have hxs2 := hx2
 have HX8 := hid (HX7.out.trans hx2)
 rcases h2 with ⟨fc, Ac, cc, p2, l2, k2, hy, rfl, hf⟩ | ⟨er, Ac, n2, cc, p2, l2, k2, hy, rfl, hne⟩
 rotate_left
 ·as_aux_lemma =>
  have hr : R = ([], 3) := by
   rw [HR.out]
   unfold fitP
   rw [← HYS.out, HY0.out, ← HYT.out, HY1.out, ← HYX.out, hy]
  obtain ⟨ee, hee⟩ : ∃ ee, ee = er.1 := ⟨_, rfl⟩
  rw [← hee] at hne ⊢
  have h1 : (ee == 0) = false := by simpa using hne
  have h2 : (ee != 0) = true := by simpa using hne
  subst hr
  clear hee hne hx2 hy
  go_wp2
  go_ret2
  exact ⟨rfl, HX8.out.trans ((Ext.refl _).alloc _)⟩
 have HY2 := hid (show YX = .ok fc from hy)
 go_upto_region 8 with (fail)
 obtain ⟨w9, hw⟩ : ∃ x, x = w8.alloc (.cells #[.int .i64 p2, .int .i64 l2, .int .i64 k2] 65) := ⟨_, rfl⟩
 rw [← hw]
 have hxa : Ext w8 w9 := by rw [hw]; exact (Ext.refl _).alloc _
 have hb := HB2.out.ext (hx2.trans hxa)
 have q9 : w9.cell? ⟨w.heap.size, 2, none⟩ = some (.slice none 0 0) := hb.cell 2 _ rfl
 have f9 := frz_of hb 2
 have HF2 := hid (FwS.exc hf (Exc.of_ext (S := fun _ => False) hxa) (fun _ _ h => h) (fun k hk => (show w.heap.size < k from by have h1 := HB2.out.lt; omega)))
 clear hw hf hy hx2
 go_wp2_with fail
 obtain ⟨w10, hw⟩ : ∃ x, x = w9.setCell ⟨w.heap.size, 2, none⟩ (.slice Ac fc.len cc) := ⟨_, rfl⟩
 rw [← hw]
 have hb' : AtC 98 w10 w.heap.size #[.slice Aa fa.len ca, .slice Ab fb.len cb, .slice Ac fc.len cc] := by rw [hw]; exact heap_setCell_same _ _ 2 _ _ _ hb
 have HB3 := hid hb'
 have HX10 := hid (show Ext w w10 from by rw [hw]; exact (HX8.out.trans hxa).setCell (p := ⟨w.heap.size, 2, none⟩) (Nat.le_refl _) _)
 have HE2 := hid (show Exc (fun b => b = w.heap.size) w9 w10 from by rw [hw]; exact Exc.setCell (S := fun b => b = w.heap.size) (p := ⟨w.heap.size, 2, none⟩) rfl _)
 have HG2 := hid (HF2.out.exc HE2.out (fun k hk e => by omega) (fun k hk => hk))
 have HG0_2 := hid (FwS.exc (FwS.exc HG0_1.out (Exc.of_ext (S := fun _ => False) (show Ext w7 w9 from hxs2.trans hxa)) (fun _ _ h => h) (fun _ h => h)) HE2.out (fun k hk e => by omega) (fun k hk => hk))
 have HG1_2 := hid (FwS.exc (FwS.exc HG1.out (Exc.of_ext (S := fun _ => False) (show Ext w7 w9 from hxs2.trans hxa)) (fun _ _ h => h) (fun _ h => h)) HE2.out (fun k hk e => by omega) (fun k hk => hk))
 clear hw hb hb' q9 f9 hxa
 rw [rounds_succ]
 have b0 := HB3.out.cell 0 _ rfl
 have b1 := HB3.out.cell 1 _ rfl
 have b2 := HB3.out.cell 2 _ rfl
 have HF0 := hid HG0_2.out
 have HF1 := hid HG1_2.out
 have HF2 := hid HG2.out
 obtain ⟨wa, hwa⟩ : ∃ x, x = w10 := ⟨_, rfl⟩
 rw [← hwa] at HF0 HF1 HF2 HX10 HB3 b0 b1 b2 ⊢
 have HA := hid (show parseR false s.data.toList = .ok fa from HYS.out.symm.trans HY0.out)
 have HBP := hid (show parseR false t.data.toList = .ok fb from HYT.out.symm.trans HY1.out)
 have HC := hid (show parseR false x.data.toList = .ok fc from HYX.out.symm.trans HY2.out)
 have pa := parse_fit HA.out
 have pc := parse_fit HC.out
 have pb := parse_fit HBP.out
 have KP := hid (tPar_any HF0.out HF2.out pa.1 pc.1 pa.2.1 pc.2.1 (by have := pa.2.2; omega) (by have := pc.2.2; omega) (HM.out.ext HX10.out))
 obtain ⟨PP, hPP⟩ : ∃ PP, PP = parV fa fc := ⟨_, rfl⟩
 rw [← hPP] at KP
 have HPP := hid hPP
 have HPB := hid pb
 have HPA := hid pa.2.2
 clear hwa pa pb pc hPP KS KT KX
 go_wp2_with fail
 refine KP.out.mono ?_
 rintro e wb ⟨hres, hxb⟩
 -- the pairs, whatever came
 have hshape : ∃ (PL : List NmP) (ok : Bool) (A9 : Option Addr) (c9 : Nat), e = .returned (.tuple #[.slice A9 PL.length c9, .bool ok]) ∧ SlN wb A9 PL.length 2 (PL.flatMap nmC) ∧ (∀ p ∈ PL, p.1.length ≤ 1048576 ∧ p.2.length ≤ 1048576) ∧ OneN PL ∧ (∀ p ∈ PL, p.2.length ≤ 40) ∧ PL.length ≤ 100000000 ∧ ((ok = false ∧ PP = none) ∨ (ok = true ∧ PP = some PL)) := by
  rcases hres with ⟨h1, rfl⟩ | ⟨l, A9, c9, h1, rfl, h2, h3⟩
  ·exact ⟨[], false, none, 0, rfl, SlN.nil _ _ _, fun p hp => (by cases hp), one_nil, fun p hp => (by cases hp), Nat.zero_le _, .inl ⟨rfl, h1⟩⟩
  ·obtain ⟨h4, h5⟩ := par_short (HPP.out.symm.trans h1)
   exact ⟨l, true, A9, c9, rfl, h2, h3, h4, h5, by have h6 := parV_len (HPP.out.symm.trans h1); have h7 := HPA.out; omega, .inr ⟨rfl, h1⟩⟩
 obtain ⟨PL, okp, A9, c9, rfl, hs9, hl9, hone, h40, hpl, hpp⟩ := hshape
 have HS9 := hid hs9
 have HL9 := hid hl9
 have HONE := hid hone
 have H40 := hid h40
 have HPQ := hid hpp
 have HXb := hid (HX10.out.trans hxb)
 have HF1b := hid (HF1.out.ext hxb)
 have HXab := hid hxb
 have b1 := (HB3.out.ext hxb).cell 1 _ rfl
 clear hres hs9 hl9 hone h40 hpp hxb KP b0 b2
 have hmm := @run_makeMap Tryz.prog
 have HI0 := hid (show FiI wb wb.heap.size PL (.int .i64 0) (wb.alloc (.map #[] 0)) from ⟨0, rfl, Nat.zero_le _, (MapO.made _ _ wb).same (fun z => by simp [lookP]), (Ext.refl wb).alloc _⟩)
 go_wp2_with fail
 go_loopw [54] (FiI wb wb.heap.size PL) (fun i _ => PL.length - (intOf i).toNat)
 case atStart => exact HI0.out
 case round =>
  obtain ⟨j, rfl, hj, hmj, hxj⟩ := hrel
  obtain ⟨wo, rfl⟩ : ∃ wo : World, wo = wr := ⟨_, rfl⟩
  have HMJ := hid hmj
  have HXJ := hid hxj
  clear hmj hxj
  by_cases hjl : j < PL.length
  ·as_aux_lemma =>
   obtain ⟨b9, o9, rfl, hb9, s0, s1⟩ := nm_at (HS9.out.ext HXJ.out) (List.getElem?_eq_getElem hjl)
   obtain ⟨pp, hppj⟩ : ∃ pp, PL[j]? = some pp := ⟨_, List.getElem?_eq_getElem hjl⟩
   rw [show PL[j] = pp from by have := List.getElem?_eq_getElem hjl; rw [hppj] at this; injection this with this; exact this.symm] at s0 s1
   have HPJ := hid hppj
   have hn1 := (HL9.out pp (List.mem_of_getElem? hppj)).1
   have HN1 := hid (show pp.1.length ≤ maxLen from by unfold maxLen; omega)
   clear hppj hn1 b1
   obtain ⟨p1, p2⟩ := pp
   simp only at s0 s1 HN1
   go_wp2_with (at_mapUpdate; refine wpList_mapUpdateO rfl _ _ _ 93 9 9 rfl Tryz.underlying9 Tryz.underlying93 wb.heap.size j _ rfl (HMJ.out.ext ((Ext.refl _).alloc _)) (by unfold maxLen; omega) p1 rfl p2 rfl HN1.out ?_; intro w7 hm7 hg7; have HM7 := hid hm7; have HX7 := hid ((HXJ.out.alloc _).grown hg7 (fun k hk => by injection hk with hk; omega)); clear hm7 hg7)
   exact ⟨⟨j + 1, by go_num, hjl, HM7.out.same (fun z => (look_take HONE.out HPJ.out z).symm), HX7.out⟩, by simp [intOf]; omega⟩
  have hje : j = PL.length := by omega
  subst hje
  have HMF := hid (show MapO Tryz.prog 9 wo wb.heap.size PL.length (lookP PL) from by have := HMJ.out; rw [List.take_length] at this; exact this)
  have HFB := hid (HF1b.out.ext HXJ.out)
  have b1 := (HB3.out.ext ((show Ext wa wb from HXab.out).trans HXJ.out)).cell 1 _ rfl
  have hvb := (validF_iff.1 (parse_valid HBP.out)).1
  have KR := hid (ren_all PL (fb.nodes + 1) fb _ _ 0 false false wb.heap.size PL.length wo (by omega) HFB.out hvb (by have := HPB.out.2.2; omega) HMF.out)
  clear hvb
  go_wp2_with fail
  refine KR.out.mono ?_
  rintro e wc ⟨hres, hxc⟩
  have HXC := hid (HXb.out.trans (HXJ.out.trans hxc))
  have HRF := hid (show R = fitQ PP fb from by rw [HR.out, HPP.out]; exact fit_eq HA.out HBP.out HC.out)
  rcases hres with ⟨hkf, rfl⟩ | ⟨A7, c7, hkt, rfl, hs7⟩
  ·as_aux_lemma =>
   have hr : R = ([], 8) := by
    rw [HRF.out]
    rcases HPQ.out with ⟨_, h⟩ | ⟨_, h⟩
    ·rw [h]; rfl
    ·rw [h]; unfold fitQ; simp only; rw [hkf, if_neg (by decide)]
   subst hr
   clear b1 hxc
   cases okp
   ·go_wp2
    go_ret2
    exact ⟨rfl, HXC.out⟩
   ·go_wp2
    go_ret2
    exact ⟨rfl, HXC.out⟩
  ·have HS7 := hid hs7
   have HKT := hid hkt
   clear hs7 hkt b1 hxc KR
   cases okp
   ·as_aux_lemma =>
    have hr : R = ([], 8) := by
     rw [HRF.out]
     rcases HPQ.out with ⟨_, h⟩ | ⟨h, _⟩
     ·rw [h]; rfl
     ·cases h
    subst hr
    go_wp2
    go_ret2
    exact ⟨rfl, HXC.out⟩
   ·as_aux_lemma =>
    have hpp : PP = some PL := by
     rcases HPQ.out with ⟨h, _⟩ | ⟨_, h⟩
     ·cases h
     ·exact h
    have hRR : R = if validF false (renF PL fb) = true then (txtP [32] (renF PL fb), 0) else ([], 6) := by
     rw [HRF.out, hpp]; unfold fitQ; simp only; rw [HKT.out, if_pos rfl]
    have hwn := parse_wn HBP.out
    have hrw := ren_wt H40.out fb
    have KPr := hid (tprint_any HS7.out ((ren_can H40.out fb).1 HPB.out.1) (by omega) (HM.out.ext HXC.out))
    have HV := hid (show prtP false (renF PL fb) = if validF false (renF PL fb) = true then (txtP [32] (renF PL fb), 0) else ([], 1) from rfl)
    rw [HV.out] at KPr
    generalize validF false (renF PL fb) = vb at hRR KPr
    have HRR := hid hRR
    clear hpp hRR hwn hrw HV
    cases vb
    ·have hr : R = ([], 6) := HRR.out
     subst hr
     go_wp2_with fail
     refine KPr.out.mono ?_
     rintro e wd ⟨rfl, hxd⟩
     have HXD := hid (HXC.out.trans hxd)
     clear hxd KPr
     go_wp2
     go_ret2
     exact ⟨rfl, HXD.out⟩
    ·have hr : R = (txtP [32] (renF PL fb), 0) := HRR.out
     subst hr
     go_wp2_with fail
     refine KPr.out.mono ?_
     rintro e wd ⟨rfl, hxd⟩
     have HXD := hid (HXC.out.trans hxd)
     clear hxd KPr
     go_wp2
     go_ret2
     exact ⟨rfl, HXD.out⟩
end Go.Proofs.YtiijdojihleggaaGreatDoor
namespace Go.Proofs.YtiijdojihleggaaGreatDoor
open Go.RowKit
def exS1 : ByteArray := ⟨#[79, 112, 101, 110, 32, 116, 104, 101, 32, 102, 105, 108, 101]⟩
def exT1 : ByteArray := ⟨#[68, 97, 116, 101, 105, 32, 195, 182, 102, 102, 110, 101, 110]⟩
def exS2 : ByteArray := ⟨#[67, 108, 111, 115, 101, 32, 116, 104, 101, 32, 102, 105, 108, 101]⟩
def exT2 : ByteArray := ⟨#[68, 97, 116, 101, 105, 32, 115, 99, 104, 108, 105, 101, 195, 159, 101, 110]⟩
def exQ : ByteArray := ⟨#[79, 112, 101, 110, 32, 97, 32, 102, 105, 108, 101]⟩
theorem ex_add1 : addM [] exS1 exT1 = ([(exS1, exT1)], 0) := by kernel_rfl
theorem ex_add2 : addM [(exS1, exT1)] exS2 exT2 = ([(exS1, exT1), (exS2, exT2)], 0) := by kernel_rfl
theorem ex_fil : (([(exS1, exT1), (exS2, exT2)].zipIdx.map (mtOf exQ)).filter fun x => decide (500 ≤ x.n)) = [⟨0, 666, exS1, exT1⟩] := by kernel_rfl
theorem ex_all : allM [(exS1, exT1), (exS2, exT2)] exQ 500 = [⟨0, 666, exS1, exT1⟩] := by
 unfold allM
 have h : longB exQ = false := by kernel_rfl
 rw [if_neg (by rw [h]; decide), ex_fil]
 simp [isoS, insS]
theorem ex_fit : fitP [123, 110, 125, 32, 102, 105, 108, 101, 115] [123, 110, 125, 32, 68, 97, 116, 101, 105, 101, 110] [123, 99, 111, 117, 110, 116, 125, 32, 102, 105, 108, 101, 115] = ([123, 99, 111, 117, 110, 116, 125, 32, 68, 97, 116, 101, 105, 101, 110], 0) := by kernel_rfl
def M1x : List SgP := [(exS1, exT1)]
def M2x : List SgP := [(exS1, exT1), (exS2, exT2)]
set_option maxHeartbeats 4000000 in
theorem awake_any (w : World) (hm : Mx w) : Calls Tryz.prog 10 #[] w (RetTrue w) := by
 have KN := hid (tNew_any w)
 have KA : Hid (∀ (T : Nat → Prop) (gm : Nat) (W : World), MemT T W gm [] → Calls Tryz.prog 27 #[.pointer (some ⟨gm, 0, none⟩), .string ⟨#[79, 112, 101, 110, 32, 116, 104, 101, 32, 102, 105, 108, 101]⟩, .string ⟨#[68, 97, 116, 101, 105, 32, 195, 182, 102, 102, 110, 101, 110]⟩] W (RetAdd T W gm (M1x, 0))) :=
  hid (fun T gm W h => by have k := tAdd_any exS1 exT1 h (by decide) (by decide); rw [ex_add1] at k; exact k)
 have KB : Hid (∀ (T : Nat → Prop) (gm : Nat) (W : World), MemT T W gm M1x → Calls Tryz.prog 27 #[.pointer (some ⟨gm, 0, none⟩), .string ⟨#[67, 108, 111, 115, 101, 32, 116, 104, 101, 32, 102, 105, 108, 101]⟩, .string ⟨#[68, 97, 116, 101, 105, 32, 115, 99, 104, 108, 105, 101, 195, 159, 101, 110]⟩] W (RetAdd T W gm (M2x, 0))) :=
  hid (fun T gm W h => by have k := tAdd_any exS2 exT2 h (by decide) (by decide); unfold M1x at k; rw [ex_add2] at k; exact k)
 have KF : Hid (∀ W, Ext w W → Calls Tryz.prog 22 #[.string ⟨#[123, 110, 125, 32, 102, 105, 108, 101, 115]⟩, .string ⟨#[123, 110, 125, 32, 68, 97, 116, 101, 105, 101, 110]⟩, .string ⟨#[123, 99, 111, 117, 110, 116, 125, 32, 102, 105, 108, 101, 115]⟩] W fun e w' => e = .returned (.tuple #[.string ⟨#[123, 99, 111, 117, 110, 116, 125, 32, 68, 97, 116, 101, 105, 101, 110]⟩, .int .i64 0]) ∧ Ext W w') :=
  hid (fun W hW => (tFit_any ⟨#[123, 110, 125, 32, 102, 105, 108, 101, 115]⟩ ⟨#[123, 110, 125, 32, 68, 97, 116, 101, 105, 101, 110]⟩ ⟨#[123, 99, 111, 117, 110, 116, 125, 32, 102, 105, 108, 101, 115]⟩ W (hm.ext hW) (by decide) (by decide) (by decide)).mono fun e w' h => by
   obtain ⟨rfl, hx⟩ := h
   refine ⟨?_, hx⟩
   have e1 : fitP (⟨#[123, 110, 125, 32, 102, 105, 108, 101, 115]⟩ : ByteArray).data.toList (⟨#[123, 110, 125, 32, 68, 97, 116, 101, 105, 101, 110]⟩ : ByteArray).data.toList (⟨#[123, 99, 111, 117, 110, 116, 125, 32, 102, 105, 108, 101, 115]⟩ : ByteArray).data.toList = ([123, 99, 111, 117, 110, 116, 125, 32, 68, 97, 116, 101, 105, 101, 110], 0) := ex_fit
   rw [e1])
 have HSH := hid (show ShortM M2x from by
  have h1 := short_add (m := []) short_nil exS1 exT1
  rw [ex_add1] at h1
  have h2 := short_add h1 exS2 exT2
  rw [ex_add2] at h2
  exact h2)
 have KQ : Hid (∀ (T : Nat → Prop) (gm : Nat) (W : World), MemT T W gm M2x → Calls Tryz.prog 16 #[.pointer (some ⟨gm, 0, none⟩), .string ⟨#[79, 112, 101, 110, 32, 97, 32, 102, 105, 108, 101]⟩, .int .i64 500] W (RetBest W [⟨0, 666, exS1, exT1⟩])) :=
  hid (fun T gm W h => by have k := tBest_any h HSH.out stab_small (by decide) (by decide) exQ (by decide) 500; unfold M2x at k; rw [ex_all] at k; exact k)
 clear hm
 go_enter Tryz.func10, Tryz.ntmps10
 go_wp2_with fail
 refine KN.out.mono ?_
 rintro e w1 ⟨gm, T1, rfl, hm1, ht1, hx1⟩
 have HX1 := hid hx1
 have HT1 := hid ht1
 have HM1 := hid hm1
 clear hx1 ht1 hm1 KN
 go_wp2_with fail
 refine (KA.out T1 gm w1 HM1.out).mono ?_
 rintro e w2 ⟨T2, rfl, hm2, ht2, hx2⟩
 have HX2 := hid (show Ext w w2 from HX1.out.trans_below (hx2.below (B := w.heap.size) (fun k hk => HT1.out k hk) (Ext.size HX1.out)))
 have HT2 := hid (show ∀ k, T2 k → w.heap.size ≤ k from fun k hk => by
  rcases ht2 k hk with h | h
  ·exact HT1.out k h
  ·exact Nat.le_trans (Ext.size HX1.out) h)
 have HM2 := hid hm2
 clear hm2 ht2 hx2 KA
 go_wp2_with fail
 refine (KB.out T2 gm w2 HM2.out).mono ?_
 rintro e w3 ⟨T3, rfl, hm3, ht3, hx3⟩
 have HX3 := hid (show Ext w w3 from HX2.out.trans_below (hx3.below (B := w.heap.size) (fun k hk => HT2.out k hk) (Ext.size HX2.out)))
 have HM3 := hid hm3
 clear hm3 ht3 hx3 KB
 go_wp2_with fail
 refine (KQ.out T3 gm w3 HM3.out).mono ?_
 rintro e w4 ⟨hres, hx4⟩
 obtain ⟨x, r, hxr, rfl⟩ : ∃ x r, [(⟨0, 666, exS1, exT1⟩ : Mt)] = x :: r ∧ e = .returned (.tuple #[.agg #[.int .i64 x.i, .int .i64 x.n, .string x.s, .string x.t], .bool true]) := by
  rcases hres with ⟨h, _⟩ | h
  ·cases h
  ·exact h
 injection hxr with hx' _
 subst hx'
 have HX4 := hid (HX3.out.trans hx4)
 have HM4 := hid (HM3.out.ext hx4)
 clear hres hx4 KQ
 simp only
 go_upto_region 5 with (fail)
 obtain ⟨w5, hw5⟩ : ∃ x, x = w4.alloc (.cells #[.int .i64 0, .int .i64 666, .string exS1, .string exT1] 39) := ⟨_, rfl⟩
 rw [← hw5]
 have hx5 : Ext w4 w5 := by rw [hw5]; exact (Ext.refl _).alloc _
 have HB5 := hid (show AtC 39 w5 w4.heap.size #[.int .i64 0, .int .i64 666, .string exS1, .string exT1] from by rw [hw5]; exact AtC.new w4 _)
 have HX5 := hid (HX4.out.trans hx5)
 have HM5 := hid (HM4.out.ext hx5)
 clear hw5 hx5
 go_wp2_with fail
 refine (KF.out _ HX5.out).mono ?_
 rintro e w6 ⟨rfl, hx6⟩
 have HX6 := hid (HX5.out.trans hx6)
 have HM6 := hid (HM5.out.ext hx6)
 have b0 : w6.cell? ⟨w4.heap.size, 0, none⟩ = some (.int .i64 0) := (HB5.out.ext hx6).cell 0 _ rfl
 have b1 : w6.cell? ⟨w4.heap.size, 1, none⟩ = some (.int .i64 666) := (HB5.out.ext hx6).cell 1 _ rfl
 clear hx6 KF
 go_wp2_with (go_at_call 28; refine (tLen_any HM6.out).mono ?_; rintro e w7 ⟨rfl, rfl⟩)
 go_ret
 exact ⟨rfl, HX6.out⟩
end Go.Proofs.YtiijdojihleggaaGreatDoor
