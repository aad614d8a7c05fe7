import Derived.Test.YtiijdojihleggaaGreatDoorQNPQ
set_option maxRecDepth 100000
set_option linter.unusedSimpArgs false
set_option linter.unusedVariables false
open Go.Lib (hid)
namespace Go.Proofs.YtiijdojihleggaaGreatDoor
open Go.RowKit
def ArgH (N : Nat) : Prop := ∀ (C : Pc) (t : Tok) (r : List Tok) (ns : List By) (d : Nat) (c : Bool) (w : World), PsO w C (.ok ⟨t :: r, ns⟩) → t.k = 2 → r.length < N → d ≤ 8 →
 Calls Tryz.prog 99 #[.pointer (some ⟨C.g, 0, none⟩), .int .i64 d, .bool c] w (RetP w C (argC C.s.size d c ⟨r, ns⟩))
def lenX : Except Err St → Nat
 | .ok st => st.left.length + 1
 | .error _ => 0
def intV : Option Value → Int
 | some (.int _ i) => i
 | _ => 0
def mW (C : Pc) (w : World) : Nat := if intV (w.cell? ⟨C.g, 5, none⟩) = 0 then C.all.length + 1 - (intV (w.cell? ⟨C.g, 2, none⟩)).toNat else 0
theorem mW_eq {w : World} {C : Pc} {X : Except Err St} (h : PsO w C X) : mW C w = lenX X := by
 unfold mW
 rcases X with ⟨e, a⟩ | st
 ·obtain ⟨h0, n, ns, h⟩ := h
  rw [h.cells.2.2.2.2.2]
  exact if_neg h0
 ·obtain ⟨n, h, hd⟩ := h
  rw [h.cells.2.2.2.2.2, h.cells.2.2.1]
  have h2 := h.nx
  refine (if_pos rfl).trans ?_
  show C.all.length + 1 - ((n : Int)).toNat = st.left.length + 1
  rw [← hd, List.length_drop, Int.toNat_natCast]
  omega
def MsI (w : World) (C : Pc) (X0 : Except Err St) (N d : Nat) (c : Bool) (out : Value) (wr : World) : Prop :=
 ∃ X f m xs, X0.bind (msgC C.s.size d c) = prepF f (X.bind (msgC C.s.size d c)) ∧ PsO wr C X ∧ (∀ st, X = .ok st → st.left.length < N ∧ d ≤ 8) ∧ wr.ownsRow w.heap.size 96 6 out m xs ∧
   (∀ st, X = .ok st → m = f.len ∧ Fw wr (fun k => w.heap.size ≤ k ∧ some k ≠ out.ownBlock) f xs) ∧ Exc (fun k => C.two k ∨ w.heap.size ≤ k) w wr ∧ m + lenX X ≤ 4001
theorem own_exc {S : Nat → Prop} {w w' : World} {B : Nat} {e : TypeId} {size : Nat} {v : Value} {n : Nat} {xs : List Value} (h : w.ownsRow B e size v n xs) (hw : Exc S w w') (hS : ∀ k, v.ownBlock = some k → ¬ S k) : w'.ownsRow B e size v n xs := by
 obtain ⟨h1, h2⟩ := h
 refine ⟨h1, ?_⟩
 rcases h2 with h2 | ⟨g, cap, cur, hv, hb, hg, r⟩
 ·exact .inl h2
 ·exact .inr ⟨g, cap, cur, hv, hb, (hw.block g (Array.getElem?_eq_some_iff.1 hg).1 (hS g (by rw [hv]; rfl))).trans hg, r⟩
theorem six_one (a b c d e f : Value) (h : a.oneCell' = true ∧ b.oneCell' = true ∧ c.oneCell' = true ∧ d.oneCell' = true ∧ e.oneCell' = true ∧ f.oneCell' = true) : ∀ u ∈ [a, b, c, d, e, f], u.oneCell' = true := by
 intro u hu
 simp only [List.mem_cons, List.not_mem_nil, or_false] at hu
 rcases hu with rfl | rfl | rfl | rfl | rfl | rfl
 ·exact h.1
 ·exact h.2.1
 ·exact h.2.2.1
 ·exact h.2.2.2.1
 ·exact h.2.2.2.2.1
 ·exact h.2.2.2.2.2
theorem own_cap {w : World} {B : Nat} {e : TypeId} {size : Nat} {A : Option Addr} {m cc n : Nat} {xs : List Value} (h : w.ownsRow B e size (.slice A m cc) n xs) : m ≤ cc := by
 rcases h.2 with ⟨e0, _⟩ | ⟨g, cap, cur, e0, _, _, hle, _⟩
 ·injection e0 with _ e1 e2
  omega
 ·injection e0 with _ e1 e2
  omega
theorem msg_ret {w wr : World} {C : Pc} {X0 X : Except Err St} {d : Nat} {c : Bool} {f : F} {m : Nat} {xs : List Value} {A : Option Addr} {cc : Nat} (hY : X0.bind (msgC C.s.size d c) = prepF f (X.bind (msgC C.s.size d c))) (hO : PsO wr C X)
 (hown : wr.ownsRow w.heap.size 96 6 (.slice A m cc) m xs) (hF : ∀ st, X = .ok st → m = f.len ∧ Fw wr (fun k => w.heap.size ≤ k ∧ some k ≠ (Value.slice A m cc).ownBlock) f xs) (hE : Exc (fun k => C.two k ∨ w.heap.size ≤ k) w wr)
 (hs : ∀ st, X = .ok st → msgC C.s.size d c st = .ok (.nil, st)) : RetM w C (X0.bind (msgC C.s.size d c)) (.returned (.slice A m cc)) wr := by
 rcases X with e | st
 ·rw [hY]
  exact ⟨⟨A, m, cc, rfl, fun f st h => by cases h⟩, hO, exc_new hE⟩
 ·have h1 : X0.bind (msgC C.s.size d c) = .ok (f, st) := by
   rw [hY]
   show prepF f (msgC C.s.size d c st) = _
   rw [hs st rfl]
   show Except.ok (f.app .nil, st) = _
   rw [F.app_nil]
  rw [h1]
  refine ⟨⟨A, m, cc, rfl, fun f' st' h => ?_⟩, hO, exc_new hE⟩
  injection h with h
  injection h with h _
  subst h
  obtain ⟨h2, h3⟩ := hF st rfl
  subst h2
  exact ⟨FwS_own hown ((FCw_exc (Exc.refl (fun _ => False) wr) (fun _ _ h => h) (fun _ h => h.1) f).1 _ h3) (fun k hk => hk), own_cap hown⟩
theorem msg_go {w wr w3 w4 : World} {C : Pc} {X0 : Except Err St} {N d : Nat} {c : Bool} {t : Tok} {r : List Tok} {ns : List By} {f : F} {m : Nat} {xs cs : List Value} {v v' : Value} {o : Obj}
 (hY : X0.bind (msgC C.s.size d c) = prepF f ((Except.ok ⟨t :: r, ns⟩ : Except Err St).bind (msgC C.s.size d c))) (hb : begB t.k = true) (hl : (t :: r).length < N ∧ d ≤ 8) (hm : m + lenX (.ok ⟨t :: r, ns⟩) ≤ 4001)
 (hF : m = f.len ∧ Fw wr (fun k => w.heap.size ≤ k ∧ some k ≠ v.ownBlock) f xs) (hv : wr.ownsRow w.heap.size 96 6 v m xs) (hE : Exc (fun k => C.two k ∨ w.heap.size ≤ k) w wr) (h3 : Exc C.two wr w3)
 (hO : PsO w3 C ((partP C.s.size d c t r ns).map (·.2))) (hlen : ∀ g st, partP C.s.size d c t r ns = .ok (g, st) → st.left.length ≤ r.length ∧ g.len = 1 ∧ Fw w3 (fun k => wr.heap.size ≤ k) g cs)
 (old : C.g < w.heap.size ∧ C.mb < w.heap.size ∧ 0 < w.heap.size ∧ (∀ ad, C.A = some ad → ad.block < w.heap.size))
 (hown : w4.ownsRow w.heap.size 96 6 v' (m + 1) (xs ++ cs)) (hg : (w3.alloc o).grownBy w4 v.ownBlock) (hwh : v'.ownBlock = v.ownBlock ∨ ∀ b, v'.ownBlock = some b → (w3.alloc o).heap.size ≤ b) :
 MsI w C X0 N d c v' w4 ∧ mW C w4 < lenX (.ok ⟨t :: r, ns⟩) := by
 have hvb : ∀ k, v.ownBlock = some k → w.heap.size ≤ k ∧ k < wr.heap.size := fun k hk => hv.lt k hk
 have ha : Exc (fun k => some k = v.ownBlock) w3 w4 := (Exc.of_ext ((Ext.refl w3).alloc o)).trans ⟨hg.os, hg.tape, hg.output, hg.size, fun k hk ht => hg.block k hk ht⟩
 have hz : (w3.alloc o).heap.size = w3.heap.size + 1 := by simp
 have hsz := hE.size
 have hO4 : PsO w4 C ((partP C.s.size d c t r ns).map (·.2)) := hO.exc ha (fun e => by have := hvb _ e.symm; omega) (fun e => by have := hvb _ e.symm; omega) (fun e => by have := hvb _ e.symm; omega) (fun ad hA e => by have := hvb _ e.symm; have := old.2.2.2 ad hA; omega)
 have hE4 : Exc (fun k => C.two k ∨ w.heap.size ≤ k) w w4 := (hE.trans (h3.mono fun k e => .inl e)).trans (ha.mono fun k e => .inr (hvb k e.symm).1)
 have hYp : X0.bind (msgC C.s.size d c) = prepF f ((partP C.s.size d c t r ns).bind fun y => prepF y.1 (msgC C.s.size d c y.2)) := by
  rw [hY]
  show prepF f (msgC C.s.size d c ⟨t :: r, ns⟩) = _
  rw [msgC_part hb]
 have hlx : lenX ((partP C.s.size d c t r ns).map (·.2)) ≤ r.length + 1 := by
  cases hp : partP C.s.size d c t r ns with
  | error e => exact Nat.zero_le _
  | ok y =>
    have := (hlen y.1 y.2 hp).1
    show y.2.left.length + 1 ≤ r.length + 1
    omega
 have hme : mW C w4 < lenX (.ok ⟨t :: r, ns⟩) := by
  rw [mW_eq hO4]
  show _ < (t :: r).length + 1
  rw [List.length_cons]
  omega
 refine ⟨?_, hme⟩
 have hmm : m + (r.length + 2) ≤ 4001 := hm
 cases hp : partP C.s.size d c t r ns with
 | error e =>
   rw [hp] at hO4 hYp hlx
   exact ⟨.error e, f, m + 1, xs ++ cs, hYp, hO4, (fun st h => by cases h), hown, (fun st h => by cases h), hE4, by show m + 1 + 0 ≤ 4001; omega⟩
 | ok y =>
   obtain ⟨g, st⟩ := y
   rw [hp] at hO4 hYp
   obtain ⟨l1, l2, l3⟩ := hlen g st hp
   refine ⟨.ok st, f.app g, m + 1, xs ++ cs, ?_, hO4, fun st' h => ?_, hown, fun st' h => ⟨?_, ?_⟩, hE4, ?_⟩
   ·rw [hYp]
    show prepF f (prepF g (msgC C.s.size d c st)) = prepF (f.app g) (msgC C.s.size d c st)
    exact prepF_prepF _ _ _
   ·injection h with h
    subst h
    have := hl.1
    rw [List.length_cons] at this
    exact ⟨by omega, hl.2⟩
   ·rw [F.len_app, l2, hF.1]
   ·have f3 : Fw w3 (fun k => w.heap.size ≤ k ∧ some k ≠ v.ownBlock) f xs := (FCw_exc h3 (fun k hk e => by rcases e with e | e <;> omega) (fun k hk => hk) f).1 _ hF.2
    have g3 : Fw w3 (fun k => w.heap.size ≤ k ∧ some k ≠ v.ownBlock) g cs := (FCw_exc (Exc.refl (fun _ => False) w3) (fun _ _ h => h) (fun k hk => ⟨by omega, fun e => by have := hvb k e.symm; omega⟩) g).1 _ l3
    have fg := (FCw_in w3 _ (f.app g)).1 _ ((FCw_app w3 _ g f).1 _ _ f3 g3)
    refine (FCw_exc ha (fun k hk e => hk.1.2 e) (fun k hk => ⟨hk.1.1, fun e => ?_⟩) (f.app g)).1 _ fg
    rcases hwh with h | h
    ·exact hk.1.2 (e.trans h)
    ·have := h k e.symm
     have := hk.2
     omega
   ·show m + 1 + (st.left.length + 1) ≤ 4001
    omega
set_option maxHeartbeats 8000000 in
theorem pmsg_step (N : Nat) (hM : MsgH N) (hA : ArgH N) : MsgH (N + 1) := by
 intro C X0 d c w h hX hd
 obtain ⟨i0, hi, hz0, hz1, hz2⟩ := info_parts (show (Tryz.prog.info? 96).map (fun i => (i.zero, i.size, i.bytes)) = some (some (.agg #[.int .i64 0, .string ⟨#[]⟩, .string ⟨#[]⟩, .string ⟨#[]⟩, .slice none 0 0, .slice none 0 0]), 6, 104) from by kernel_rfl)
 have hlx : lenX X0 ≤ 4001 := by
  rcases X0 with e | st
  ·exact Nat.zero_le _
  ·obtain ⟨n, hp, hdr⟩ := h
   have h1 := hp.len
   show st.left.length + 1 ≤ 4001
   rw [← hdr, List.length_drop]
   omega
 have H0 := hid (show MsI w C X0 (N + 1) d c (.slice none 0 0) w from
  ⟨X0, .nil, 0, [], (prepF_nil _).symm, h, hX, World.ownsRow_nil _ _ _ _, fun st _ => ⟨rfl, by rw [Fw]⟩, Exc.refl _ _, by omega⟩)
 have HQ := hid (show C.g < w.heap.size ∧ C.mb < w.heap.size ∧ 0 < w.heap.size ∧ (0 < C.all.length → ∀ ad, C.A = some ad → ad.block < w.heap.size) from by
  obtain ⟨n, ns, a, e, hp⟩ := h.any
  exact ⟨hp.old.1, hp.old.2.1, hp.old.2.2.1, fun h0 => hp.toks.inside (by decide) h0⟩)
 clear h hX hlx
 go_enter Tryz.func67, Tryz.ntmps67
 go_wp2_with fail
 go_loopw [7] (MsI w C X0 (N + 1) d c) (fun _ wr => mW C wr)
 case atStart => exact H0.out
 case round =>
  obtain ⟨X, f, m, xs, hY, hO, hl, hown, hF, hE, hm⟩ := hrel
  rw [mW_eq hO]
  obtain ⟨A, cc, hout, _⟩ := own_slN hown
  subst hout
  have HY := hid hY
  have HO := hid hO
  have HOW := hid hown
  have HF := hid hF
  have HE := hid hE
  have K1 := hid (pkind_any C X wr hO)
  rcases X with ⟨ee, a⟩ | ⟨left, ns⟩
  ·obtain ⟨h0, n, ns, hp⟩ := hO
   have c5 := hp.cells.2.2.2.2.2
   have b1 : (ee == 0) = false := by rw [beq_eq_false_iff_ne]; exact h0
   clear hY hown hF hE hp hl
   go_wp2
   go_ret
   exact msg_ret HY.out HO.out HOW.out HF.out HE.out (fun st h => by cases h)
  have c5 : wr.cell? ⟨C.g, 5, none⟩ = some (.int .i64 0) := by
   obtain ⟨n, hp, _⟩ := hO
   exact hp.cells.2.2.2.2.2
  obtain ⟨kd, hkd⟩ : ∃ kd, kd = kindL left := ⟨_, rfl⟩
  have hkx : kindX (.ok ⟨left, ns⟩) = kd := hkd.symm
  rw [hkx] at K1
  have HKD := hid hkd
  clear hkx hkd hY hown hF hE
  cases hbg : begB kd
  ·have hs : ∀ st, (Except.ok ⟨left, ns⟩ : Except Err St) = .ok st → msgC C.s.size d c st = .ok (.nil, st) := by
    intro st h
    injection h with h
    subst h
    rcases left with _ | ⟨t, r⟩
    ·exact msgC_nil _ _ _ _
    ·exact msgC_stopB (by rw [HKD.out] at hbg; exact hbg)
   have HS := hid hs
   unfold begB at hbg
   simp only [Bool.or_eq_false_iff, beq_eq_false_iff_ne] at hbg
   obtain ⟨⟨⟨⟨n1, n4⟩, n7⟩, n5⟩, n2⟩ := hbg
   have b1 : ((kd : Int) == 1) = false := by rw [beq_eq_false_iff_ne]; omega
   have b4 : ((kd : Int) == 4) = false := by rw [beq_eq_false_iff_ne]; omega
   have b7 : ((kd : Int) == 7) = false := by rw [beq_eq_false_iff_ne]; omega
   have b5 : ((kd : Int) == 5) = false := by rw [beq_eq_false_iff_ne]; omega
   have b2 : ((kd : Int) == 2) = false := by rw [beq_eq_false_iff_ne]; omega
   clear hs n1 n4 n7 n5 n2 hl hO
   go_wp2_with fail
   refine K1.out.mono ?_
   rintro e w2 ⟨rfl, q, rfl⟩
   go_wp2
   go_ret
   have hx := (Ext.refl wr).drewN q
   exact msg_ret HY.out (HO.out.ext hx) (own_ext HOW.out hx) (fun st h => ⟨(HF.out st h).1, (FCw_exc (Exc.of_ext (S := fun _ => False) hx) (fun _ _ h => h) (fun _ h => h) f).1 _ (HF.out st h).2⟩) (HE.out.trans (Exc.of_ext hx)) HS.out
  obtain ⟨t, r, rfl⟩ : ∃ t r, left = t :: r := by
   rcases left with _ | ⟨t, r⟩
   ·rw [HKD.out] at hbg
    exact absurd hbg (by decide)
   ·exact ⟨t, r, rfl⟩
  have hkt : t.k = kd := HKD.out.symm
  have hbt : begB t.k = true := by rw [hkt]; exact hbg
  have HBT := hid hbt
  obtain ⟨hl1, hl2⟩ := hl _ rfl
  have hl1b : r.length < N := by rw [List.length_cons] at hl1; omega
  have HL := hid (show (t :: r).length < N + 1 ∧ d ≤ 8 from ⟨hl1, hl2⟩)
  have HMM := hid hm
  have hmb : m ≤ 4000 := by
   have : lenX (.ok ⟨t :: r, ns⟩) = (t :: r).length + 1 := rfl
   omega
  have old : C.g < w.heap.size ∧ C.mb < w.heap.size ∧ 0 < w.heap.size ∧ (∀ ad, C.A = some ad → ad.block < w.heap.size) := by
   obtain ⟨q1, q2, q3, q4⟩ := HQ.out
   refine ⟨q1, q2, q3, q4 ?_⟩
   obtain ⟨n, hp, hdr⟩ := hO
   rcases Nat.lt_or_ge n C.all.length with h1 | h1
   ·omega
   ·rw [List.drop_eq_nil_of_le h1] at hdr
    cases hdr
  have HOLD := hid old
  have HGD := hid (show tokB t = true ∧ t.t.length ≤ 4000 from by
   obtain ⟨n, hp, hdr⟩ := hO
   have hmem : t ∈ C.all := List.mem_of_mem_drop (i := n) (by rw [hdr]; exact List.mem_cons_self)
   exact ⟨hp.good t hmem, (hp.ok t hmem).1⟩)
  clear old hm hO hl hl1
  have OW : wr.ownsRow w.heap.size 96 6 (.slice A m cc) m xs := HOW.out
  have hsz := HE.out.size
  by_cases k1 : kd = 1
  ·have b1 : ((kd : Int) == 1) = true := by rw [k1]; rfl
   have KT := hid (fun q => ptake_any C (.ok ⟨t :: r, ns⟩) 1 (wr.drewN q) (HO.out.ext ((Ext.refl wr).drewN q)) (by decide))
   have hk1 : t.k = 1 := hkt.trans k1
   have e1 : takeS 1 (.ok ⟨t :: r, ns⟩) = ⟨t.t.toArray⟩ := by
    show (if t.k = 1 then (⟨t.t.toArray⟩ : ByteArray) else ⟨#[]⟩) = _
    rw [if_pos hk1]
   have e2 : (Except.ok ⟨t :: r, ns⟩ : Except Err St).bind (takeX C.s.size 1) = .ok ⟨r, ns⟩ := by
    show Except.map _ (if t.k = 1 then .ok (t.t, r) else .error (3, t.a)) = _
    rw [if_pos hk1]
    rfl
   have e3 : partP C.s.size d c t r ns = .ok (.one 1 (unescP t.t) [] [] .nil .nil, ⟨r, ns⟩) := if_pos hk1
   rw [e1, e2] at KT
   have hesc : textN t.t = t.t.length := by
    have h := HGD.out.1
    unfold tokB at h
    rw [if_pos hk1, Bool.and_eq_true] at h
    exact esc_text _ h.2
   have KU := hid (fun W => tunesc_any ⟨t.t.toArray⟩ W (by show t.t.length ≤ _; have := HGD.out.2; omega) hesc)
   have HE3 := hid e3
   clear e1 e2 e3 hesc
   go_wp2_with fail
   refine K1.out.mono ?_
   rintro e w2 ⟨rfl, q, rfl⟩
   go_wp2_with fail
   refine (KT.out _).mono ?_
   rintro e w3 ⟨rfl, ho3, hx3⟩
   go_wp2_with fail
   refine (KU.out _).mono ?_
   rintro e w4 ⟨rfl, hx4⟩
   have HW3 := hid ((((Exc.of_ext ((Ext.refl wr).drewN q)).trans hx3).trans (Exc.of_ext hx4) : Exc C.two wr w4))
   have HP3 := hid (show PsO w4 C ((partP C.s.size d c t r ns).map (·.2)) from by rw [HE3.out]; exact ho3.ext hx4)
   have HLEN := hid (show ∀ g st, partP C.s.size d c t r ns = .ok (g, st) → st.left.length ≤ r.length ∧ g.len = 1 ∧ Fw w4 (fun k => wr.heap.size ≤ k) g [.int .i64 1, .string ⟨(unescP t.t).toArray⟩, .string ⟨#[]⟩, .string ⟨#[]⟩, .slice none 0 0, .slice none 0 0] from by
    intro g st h
    rw [HE3.out] at h
    injection h with h
    injection h with h1 h2
    subst h1 h2
    exact ⟨Nat.le_refl _, rfl, Fw_one (CwS.nil _ _) (FwS.nil _ _)⟩)
   clear ho3 hx3 hx4
   have HAL := hid ((Ext.refl w4).alloc (.cells #[.int .i64 1, .string ⟨(unescP t.t).toArray⟩, .string ⟨#[]⟩, .string ⟨#[]⟩, .slice none 0 0, .slice none 0 0] 96))
   have HNC := hid (new_cells w4 #[.int .i64 1, .string ⟨(unescP t.t).toArray⟩, .string ⟨#[]⟩, .string ⟨#[]⟩, .slice none 0 0, .slice none 0 0] 96)
   have HOX := hid (own_ext (own_exc OW HW3.out (fun k hk e => by have h := (OW.lt k hk).1; obtain ⟨o1, o2, _, _⟩ := HOLD.out; rcases e with e | e <;> omega)) HAL.out)
   have HONE := hid (six_one (.int .i64 1 : Value) (.string ⟨(unescP t.t).toArray⟩) (.string ⟨#[]⟩) (.string ⟨#[]⟩) (.slice none 0 0) (.slice none 0 0) ⟨rfl, rfl, rfl, rfl, rfl, rfl⟩)
   have HZ := hid (show w.heap.size ≤ (w4.alloc (.cells #[.int .i64 1, .string ⟨(unescP t.t).toArray⟩, .string ⟨#[]⟩, .string ⟨#[]⟩, .slice none 0 0, .slice none 0 0] 96)).heap.size from Nat.le_trans (Nat.le_trans hsz HW3.out.size) HAL.out.size)
   clear c5 hsz
   go_wp2_with (first
    | (at_builtin; refine wpList_appN _ rfl _ _ 47 rfl w.heap.size 96 i0 _ 6 104 Tryz.underlying47 hi hz0 hz1 hz2 rfl (by decide) _ m _ rfl HOX.out ⟨w4.heap.size, 0, none⟩ 1 1 _ rfl rfl HNC.out HONE.out (by unfold maxLen; omega) (by omega) HZ.out ?_; intro v5 w5 hown5 hgrow5 hwhere5; have HO5 := hid hown5; have HG5 := hid hgrow5; have HW5 := hid hwhere5; clear hown5 hgrow5 hwhere5))
   exact msg_go HY.out HBT.out HL.out HMM.out (HF.out _ rfl) HOW.out HE.out HW3.out HP3.out HLEN.out HOLD.out HO5.out HG5.out HW5.out
  by_cases k4 : kd = 4
  ·have f1 : ((kd : Int) == 1) = false := by rw [beq_eq_false_iff_ne]; omega
   have f4 : ((kd : Int) == 4) = true := by rw [k4]; rfl
   have hk4 : t.k = 4 := hkt.trans k4
   cases c
   ·have KF := hid (fun q => pfail_any C (.ok ⟨t :: r, ns⟩) 3 (wr.drewN q) (HO.out.ext ((Ext.refl wr).drewN q)) (by decide))
    have KT := hid (fun W (hW : PsO W C (.error (3, t.a))) => ptake_any C (.error (3, t.a)) 4 W hW (by decide))
    have HE3 := hid (show partP C.s.size d false t r ns = .error (3, t.a) from by unfold partP; rw [if_neg (by omega), if_pos hk4, if_neg (by decide)])
    go_wp2_with fail
    refine K1.out.mono ?_
    rintro e w2 ⟨rfl, q, rfl⟩
    go_wp2_with fail
    refine (KF.out _).mono ?_
    rintro e w3 ⟨rfl, ho3, hx3⟩
    go_wp2_with fail
    refine (KT.out _ ho3).mono ?_
    rintro e w4 ⟨rfl, ho4, hx4⟩
    have HW3 := hid ((((Exc.of_ext ((Ext.refl wr).drewN q)).trans hx3).trans hx4 : Exc C.two wr w4))
    have HP3 := hid (show PsO w4 C ((partP C.s.size d false t r ns).map (·.2)) from by rw [HE3.out]; exact ho4)
    have HLEN := hid (show ∀ g st, partP C.s.size d false t r ns = .ok (g, st) → st.left.length ≤ r.length ∧ g.len = 1 ∧ Fw w4 (fun k => wr.heap.size ≤ k) g [.int .i64 10, .string ⟨#[]⟩, .string ⟨#[]⟩, .string ⟨#[]⟩, .slice none 0 0, .slice none 0 0] from by
     intro g st h
     rw [HE3.out] at h
     cases h)
    clear ho3 hx3 ho4 hx4
    have HAL := hid ((Ext.refl w4).alloc (.cells #[.int .i64 10, .string ⟨#[]⟩, .string ⟨#[]⟩, .string ⟨#[]⟩, .slice none 0 0, .slice none 0 0] 96))
    have HNC := hid (new_cells w4 #[.int .i64 10, .string ⟨#[]⟩, .string ⟨#[]⟩, .string ⟨#[]⟩, .slice none 0 0, .slice none 0 0] 96)
    have HOX := hid (own_ext (own_exc OW HW3.out (fun k hk e => by have h := (OW.lt k hk).1; obtain ⟨o1, o2, _, _⟩ := HOLD.out; rcases e with e | e <;> omega)) HAL.out)
    have HONE := hid (six_one (.int .i64 10 : Value) (.string ⟨#[]⟩) (.string ⟨#[]⟩) (.string ⟨#[]⟩) (.slice none 0 0) (.slice none 0 0) ⟨rfl, rfl, rfl, rfl, rfl, rfl⟩)
    have HZ := hid (show w.heap.size ≤ (w4.alloc (.cells #[.int .i64 10, .string ⟨#[]⟩, .string ⟨#[]⟩, .string ⟨#[]⟩, .slice none 0 0, .slice none 0 0] 96)).heap.size from Nat.le_trans (Nat.le_trans hsz HW3.out.size) HAL.out.size)
    clear c5 hsz
    go_wp2_with (first
     | (at_builtin; refine wpList_appN _ rfl _ _ 47 rfl w.heap.size 96 i0 _ 6 104 Tryz.underlying47 hi hz0 hz1 hz2 rfl (by decide) _ m _ rfl HOX.out ⟨w4.heap.size, 0, none⟩ 1 1 _ rfl rfl HNC.out HONE.out (by unfold maxLen; omega) (by omega) HZ.out ?_; intro v5 w5 hown5 hgrow5 hwhere5; have HO5 := hid hown5; have HG5 := hid hgrow5; have HW5 := hid hwhere5; clear hown5 hgrow5 hwhere5))
    exact msg_go HY.out HBT.out HL.out HMM.out (HF.out _ rfl) HOW.out HE.out HW3.out HP3.out HLEN.out HOLD.out HO5.out HG5.out HW5.out
   ·have KT := hid (fun q => ptake_any C (.ok ⟨t :: r, ns⟩) 4 (wr.drewN q) (HO.out.ext ((Ext.refl wr).drewN q)) (by decide))
    have HE3 := hid (show partP C.s.size d true t r ns = .ok (.one 10 [] [] [] .nil .nil, ⟨r, ns⟩) from by unfold partP; rw [if_neg (by omega), if_pos hk4, if_pos rfl])
    have e2 : (Except.ok ⟨t :: r, ns⟩ : Except Err St).bind (takeX C.s.size 4) = .ok ⟨r, ns⟩ := by
     show Except.map _ (if t.k = 4 then .ok (t.t, r) else .error (3, t.a)) = _
     rw [if_pos hk4]
     rfl
    rw [e2] at KT
    clear e2
    go_wp2_with fail
    refine K1.out.mono ?_
    rintro e w2 ⟨rfl, q, rfl⟩
    go_wp2_with fail
    refine (KT.out _).mono ?_
    rintro e w4 ⟨rfl, ho4, hx4⟩
    have HW3 := hid (((Exc.of_ext ((Ext.refl wr).drewN q)).trans hx4 : Exc C.two wr w4))
    have HP3 := hid (show PsO w4 C ((partP C.s.size d true t r ns).map (·.2)) from by rw [HE3.out]; exact ho4)
    have HLEN := hid (show ∀ g st, partP C.s.size d true t r ns = .ok (g, st) → st.left.length ≤ r.length ∧ g.len = 1 ∧ Fw w4 (fun k => wr.heap.size ≤ k) g [.int .i64 10, .string ⟨#[]⟩, .string ⟨#[]⟩, .string ⟨#[]⟩, .slice none 0 0, .slice none 0 0] from by
     intro g st h
     rw [HE3.out] at h
     injection h with h
     injection h with h1 h2
     subst h1 h2
     exact ⟨Nat.le_refl _, rfl, Fw_one (CwS.nil _ _) (FwS.nil _ _)⟩)
    clear ho4 hx4
    have HAL := hid ((Ext.refl w4).alloc (.cells #[.int .i64 10, .string ⟨#[]⟩, .string ⟨#[]⟩, .string ⟨#[]⟩, .slice none 0 0, .slice none 0 0] 96))
    have HNC := hid (new_cells w4 #[.int .i64 10, .string ⟨#[]⟩, .string ⟨#[]⟩, .string ⟨#[]⟩, .slice none 0 0, .slice none 0 0] 96)
    have HOX := hid (own_ext (own_exc OW HW3.out (fun k hk e => by have h := (OW.lt k hk).1; obtain ⟨o1, o2, _, _⟩ := HOLD.out; rcases e with e | e <;> omega)) HAL.out)
    have HONE := hid (six_one (.int .i64 10 : Value) (.string ⟨#[]⟩) (.string ⟨#[]⟩) (.string ⟨#[]⟩) (.slice none 0 0) (.slice none 0 0) ⟨rfl, rfl, rfl, rfl, rfl, rfl⟩)
    have HZ := hid (show w.heap.size ≤ (w4.alloc (.cells #[.int .i64 10, .string ⟨#[]⟩, .string ⟨#[]⟩, .string ⟨#[]⟩, .slice none 0 0, .slice none 0 0] 96)).heap.size from Nat.le_trans (Nat.le_trans hsz HW3.out.size) HAL.out.size)
    clear c5 hsz
    go_wp2_with (first
     | (at_builtin; refine wpList_appN _ rfl _ _ 47 rfl w.heap.size 96 i0 _ 6 104 Tryz.underlying47 hi hz0 hz1 hz2 rfl (by decide) _ m _ rfl HOX.out ⟨w4.heap.size, 0, none⟩ 1 1 _ rfl rfl HNC.out HONE.out (by unfold maxLen; omega) (by omega) HZ.out ?_; intro v5 w5 hown5 hgrow5 hwhere5; have HO5 := hid hown5; have HG5 := hid hgrow5; have HW5 := hid hwhere5; clear hown5 hgrow5 hwhere5))
    exact msg_go HY.out HBT.out HL.out HMM.out (HF.out _ rfl) HOW.out HE.out HW3.out HP3.out HLEN.out HOLD.out HO5.out HG5.out HW5.out
  by_cases k7 : kd = 7
  ·have f1 : ((kd : Int) == 1) = false := by rw [beq_eq_false_iff_ne]; omega
   have f4 : ((kd : Int) == 4) = false := by rw [beq_eq_false_iff_ne]; omega
   have f7 : ((kd : Int) == 7) = true := by rw [k7]; rfl
   have hk7 : t.k = 7 := hkt.trans k7
   obtain ⟨X1, hX1⟩ : ∃ X1, X1 = (Except.ok ⟨t :: r, ns⟩ : Except Err St).bind (deepX C.s.size (d + 1)) := ⟨_, rfl⟩
   have KD := hid (fun q => (show Calls Tryz.prog 97 #[.pointer (some ⟨C.g, 0, none⟩), .int .i64 ((d : Int) + 1)] (wr.drewN q) _ from pdeep_any C (.ok ⟨t :: r, ns⟩) (d + 1) (wr.drewN q) (HO.out.ext ((Ext.refl wr).drewN q)) (by omega)))
   rw [← hX1] at KD
   have KT := hid (fun W (hW : PsO W C X1) => ptake_any C X1 7 W hW (by decide))
   obtain ⟨NM, hNM⟩ : ∃ NM, NM = takeS 7 X1 := ⟨_, rfl⟩
   rw [← hNM] at KT
   have HX1 := hid hX1
   have HNM := hid hNM
   clear hX1 hNM
   go_wp2_with fail
   refine K1.out.mono ?_
   rintro e w2 ⟨rfl, q, rfl⟩
   go_wp2_with fail
   refine (KD.out _).mono ?_
   rintro e w3 ⟨rfl, ho3, hx3⟩
   go_wp2_with fail
   refine (KT.out _ ho3).mono ?_
   rintro e w4 ⟨rfl, ho4, hx4⟩
   have HW3 := hid ((((Exc.of_ext ((Ext.refl wr).drewN q)).trans hx3).trans hx4 : Exc C.two wr w4))
   have HPX := hid (show PsO w4 C ((partP C.s.size d c t r ns).map (·.2)) ∧ (∀ g st, partP C.s.size d c t r ns = .ok (g, st) → g = .one 11 [] NM.data.toList [] .nil .nil ∧ st = ⟨r, ns⟩) from by
    have hp : partP C.s.size d c t r ns = if d < 8 then .ok (.one 11 [] t.t [] .nil .nil, ⟨r, ns⟩) else .error (6, t.a) := by unfold partP; rw [if_neg (by omega), if_neg (by omega), if_pos hk7]
    have h1 := HX1.out
    have h2 := HNM.out
    clear HX1 HNM KD KT HO HY HOW HF HE
    by_cases h8 : d < 8
    ·have a1 : X1 = .ok ⟨t :: r, ns⟩ := by rw [h1]; exact if_neg (by omega)
     rw [hp, if_pos h8]
     rw [a1] at ho4 h2
     have a2 : (Except.ok ⟨t :: r, ns⟩ : Except Err St).bind (takeX C.s.size 7) = .ok ⟨r, ns⟩ := by
      show Except.map _ (if t.k = 7 then .ok (t.t, r) else .error (3, t.a)) = _
      rw [if_pos hk7]
      rfl
     rw [a2] at ho4
     have a3 : NM = ⟨t.t.toArray⟩ := by
      rw [h2]
      show (if t.k = 7 then (⟨t.t.toArray⟩ : ByteArray) else ⟨#[]⟩) = _
      rw [if_pos hk7]
     refine ⟨ho4, fun g st h => ?_⟩
     injection h with h
     injection h with h1 h2
     subst h1 h2
     rw [a3]
     exact ⟨rfl, rfl⟩
    ·have a1 : X1 = .error (6, t.a) := by rw [h1]; exact if_pos (by omega)
     rw [hp, if_neg h8]
     rw [a1] at ho4
     exact ⟨ho4, fun g st h => by cases h⟩)
   have HP3 := hid HPX.out.1
   have HLEN := hid (show ∀ g st, partP C.s.size d c t r ns = .ok (g, st) → st.left.length ≤ r.length ∧ g.len = 1 ∧ Fw w4 (fun k => wr.heap.size ≤ k) g [.int .i64 11, .string ⟨#[]⟩, .string NM, .string ⟨#[]⟩, .slice none 0 0, .slice none 0 0] from by
    intro g st h
    obtain ⟨rfl, rfl⟩ := HPX.out.2 g st h
    exact ⟨Nat.le_refl _, rfl, Fw_one (CwS.nil _ _) (FwS.nil _ _)⟩)
   clear ho3 hx3 ho4 hx4 HPX
   have HAL := hid ((Ext.refl w4).alloc (.cells #[.int .i64 11, .string ⟨#[]⟩, .string NM, .string ⟨#[]⟩, .slice none 0 0, .slice none 0 0] 96))
   have HNC := hid (new_cells w4 #[.int .i64 11, .string ⟨#[]⟩, .string NM, .string ⟨#[]⟩, .slice none 0 0, .slice none 0 0] 96)
   have HOX := hid (own_ext (own_exc OW HW3.out (fun k hk e => by have h := (OW.lt k hk).1; obtain ⟨o1, o2, _, _⟩ := HOLD.out; rcases e with e | e <;> omega)) HAL.out)
   have HONE := hid (six_one (.int .i64 11 : Value) (.string ⟨#[]⟩) (.string NM) (.string ⟨#[]⟩) (.slice none 0 0) (.slice none 0 0) ⟨rfl, rfl, rfl, rfl, rfl, rfl⟩)
   have HZ := hid (show w.heap.size ≤ (w4.alloc (.cells #[.int .i64 11, .string ⟨#[]⟩, .string NM, .string ⟨#[]⟩, .slice none 0 0, .slice none 0 0] 96)).heap.size from Nat.le_trans (Nat.le_trans hsz HW3.out.size) HAL.out.size)
   clear c5 hsz
   go_wp2_with (first
    | (at_builtin; refine wpList_appN _ rfl _ _ 47 rfl w.heap.size 96 i0 _ 6 104 Tryz.underlying47 hi hz0 hz1 hz2 rfl (by decide) _ m _ rfl HOX.out ⟨w4.heap.size, 0, none⟩ 1 1 _ rfl rfl HNC.out HONE.out (by unfold maxLen; omega) (by omega) HZ.out ?_; intro v5 w5 hown5 hgrow5 hwhere5; have HO5 := hid hown5; have HG5 := hid hgrow5; have HW5 := hid hwhere5; clear hown5 hgrow5 hwhere5))
   exact msg_go HY.out HBT.out HL.out HMM.out (HF.out _ rfl) HOW.out HE.out HW3.out HP3.out HLEN.out HOLD.out HO5.out HG5.out HW5.out
  by_cases k5 : kd = 5
  ·have f1 : ((kd : Int) == 1) = false := by rw [beq_eq_false_iff_ne]; omega
   have f4 : ((kd : Int) == 4) = false := by rw [beq_eq_false_iff_ne]; omega
   have f7 : ((kd : Int) == 7) = false := by rw [beq_eq_false_iff_ne]; omega
   have f5 : ((kd : Int) == 5) = true := by rw [k5]; rfl
   have hk5 : t.k = 5 := hkt.trans k5
   have KE := hid (fun q => pelm_any N hM C t r ns d c (wr.drewN q) (HO.out.ext ((Ext.refl wr).drewN q)) hk5 hl1b (by omega))
   have HE3 := hid (show partP C.s.size d c t r ns = elmP C.s.size d c ⟨t :: r, ns⟩ from by unfold partP; rw [if_neg (by omega), if_neg (by omega), if_neg (by omega), if_pos hk5])
   go_wp2_with fail
   refine K1.out.mono ?_
   rintro e w2 ⟨rfl, q, rfl⟩
   go_wp2_with fail
   refine (KE.out _).mono ?_
   rintro e w4 ⟨⟨pk, pt, pn, ps, pA, pa, pc, qA, qa, qc, rfl, hf4⟩, ho4, hx4⟩
   have HW3 := hid (((Exc.of_ext ((Ext.refl wr).drewN q)).trans hx4 : Exc C.two wr w4))
   have HP3 := hid (show PsO w4 C ((partP C.s.size d c t r ns).map (·.2)) from by rw [HE3.out]; exact ho4)
   have HLEN := hid (show ∀ g st, partP C.s.size d c t r ns = .ok (g, st) → st.left.length ≤ r.length ∧ g.len = 1 ∧ Fw w4 (fun k => wr.heap.size ≤ k) g [.int .i64 pk, .string pt, .string pn, .string ps, .slice pA pa pc, .slice qA qa qc] from by
    intro g st h
    rw [HE3.out] at h
    have hz : (wr.drewN q).heap.size = wr.heap.size := rfl
    obtain ⟨l1, l2⟩ := hf4 g st h
    rw [hz] at l2
    exact ⟨(elmP_len h).2, l1, l2⟩)
   clear ho4 hx4 hf4
   have HAL := hid ((Ext.refl w4).alloc (.cells #[.int .i64 pk, .string pt, .string pn, .string ps, .slice pA pa pc, .slice qA qa qc] 96))
   have HNC := hid (new_cells w4 #[.int .i64 pk, .string pt, .string pn, .string ps, .slice pA pa pc, .slice qA qa qc] 96)
   have HOX := hid (own_ext (own_exc OW HW3.out (fun k hk e => by have h := (OW.lt k hk).1; obtain ⟨o1, o2, _, _⟩ := HOLD.out; rcases e with e | e <;> omega)) HAL.out)
   have HONE := hid (six_one (.int .i64 pk : Value) (.string pt) (.string pn) (.string ps) (.slice pA pa pc) (.slice qA qa qc) ⟨rfl, rfl, rfl, rfl, rfl, rfl⟩)
   have HZ := hid (show w.heap.size ≤ (w4.alloc (.cells #[.int .i64 pk, .string pt, .string pn, .string ps, .slice pA pa pc, .slice qA qa qc] 96)).heap.size from Nat.le_trans (Nat.le_trans hsz HW3.out.size) HAL.out.size)
   clear c5 hsz
   go_wp2_with (first
    | (at_builtin; refine wpList_appN _ rfl _ _ 47 rfl w.heap.size 96 i0 _ 6 104 Tryz.underlying47 hi hz0 hz1 hz2 rfl (by decide) _ m _ rfl HOX.out ⟨w4.heap.size, 0, none⟩ 1 1 _ rfl rfl HNC.out HONE.out (by unfold maxLen; omega) (by omega) HZ.out ?_; intro v5 w5 hown5 hgrow5 hwhere5; have HO5 := hid hown5; have HG5 := hid hgrow5; have HW5 := hid hwhere5; clear hown5 hgrow5 hwhere5))
   exact msg_go HY.out HBT.out HL.out HMM.out (HF.out _ rfl) HOW.out HE.out HW3.out HP3.out HLEN.out HOLD.out HO5.out HG5.out HW5.out
  have k2 : kd = 2 := by
   unfold begB at hbg
   simpa [k1, k4, k7, k5] using hbg
  have f1 : ((kd : Int) == 1) = false := by rw [beq_eq_false_iff_ne]; omega
  have f4 : ((kd : Int) == 4) = false := by rw [beq_eq_false_iff_ne]; omega
  have f7 : ((kd : Int) == 7) = false := by rw [beq_eq_false_iff_ne]; omega
  have f5 : ((kd : Int) == 5) = false := by rw [beq_eq_false_iff_ne]; omega
  have f2 : ((kd : Int) == 2) = true := by rw [k2]; rfl
  have hk2 : t.k = 2 := hkt.trans k2
  have KA := hid (fun q => hA C t r ns d c (wr.drewN q) (HO.out.ext ((Ext.refl wr).drewN q)) hk2 hl1b hl2)
  have HE3 := hid (show partP C.s.size d c t r ns = argC C.s.size d c ⟨r, ns⟩ from by unfold partP; rw [if_neg (by omega), if_neg (by omega), if_neg (by omega), if_neg (by omega)])
  go_wp2_with fail
  refine K1.out.mono ?_
  rintro e w2 ⟨rfl, q, rfl⟩
  go_wp2_with fail
  refine (KA.out _).mono ?_
  rintro e w4 ⟨⟨pk, pt, pn, ps, pA, pa, pc, qA, qa, qc, rfl, hf4⟩, ho4, hx4⟩
  have HW3 := hid (((Exc.of_ext ((Ext.refl wr).drewN q)).trans hx4 : Exc C.two wr w4))
  have HP3 := hid (show PsO w4 C ((partP C.s.size d c t r ns).map (·.2)) from by rw [HE3.out]; exact ho4)
  have HLEN := hid (show ∀ g st, partP C.s.size d c t r ns = .ok (g, st) → st.left.length ≤ r.length ∧ g.len = 1 ∧ Fw w4 (fun k => wr.heap.size ≤ k) g [.int .i64 pk, .string pt, .string pn, .string ps, .slice pA pa pc, .slice qA qa qc] from by
   intro g st h
   rw [HE3.out] at h
   have hz : (wr.drewN q).heap.size = wr.heap.size := rfl
   obtain ⟨l1, l2⟩ := hf4 g st h
   rw [hz] at l2
   exact ⟨argC_len h, l1, l2⟩)
  clear ho4 hx4 hf4
  have HAL := hid ((Ext.refl w4).alloc (.cells #[.int .i64 pk, .string pt, .string pn, .string ps, .slice pA pa pc, .slice qA qa qc] 96))
  have HNC := hid (new_cells w4 #[.int .i64 pk, .string pt, .string pn, .string ps, .slice pA pa pc, .slice qA qa qc] 96)
  have HOX := hid (own_ext (own_exc OW HW3.out (fun k hk e => by have h := (OW.lt k hk).1; obtain ⟨o1, o2, _, _⟩ := HOLD.out; rcases e with e | e <;> omega)) HAL.out)
  have HONE := hid (six_one (.int .i64 pk : Value) (.string pt) (.string pn) (.string ps) (.slice pA pa pc) (.slice qA qa qc) ⟨rfl, rfl, rfl, rfl, rfl, rfl⟩)
  have HZ := hid (show w.heap.size ≤ (w4.alloc (.cells #[.int .i64 pk, .string pt, .string pn, .string ps, .slice pA pa pc, .slice qA qa qc] 96)).heap.size from Nat.le_trans (Nat.le_trans hsz HW3.out.size) HAL.out.size)
  clear c5 hsz
  go_wp2_with (first
   | (at_builtin; refine wpList_appN _ rfl _ _ 47 rfl w.heap.size 96 i0 _ 6 104 Tryz.underlying47 hi hz0 hz1 hz2 rfl (by decide) _ m _ rfl HOX.out ⟨w4.heap.size, 0, none⟩ 1 1 _ rfl rfl HNC.out HONE.out (by unfold maxLen; omega) (by omega) HZ.out ?_; intro v5 w5 hown5 hgrow5 hwhere5; have HO5 := hid hown5; have HG5 := hid hgrow5; have HW5 := hid hwhere5; clear hown5 hgrow5 hwhere5))
  exact msg_go HY.out HBT.out HL.out HMM.out (HF.out _ rfl) HOW.out HE.out HW3.out HP3.out HLEN.out HOLD.out HO5.out HG5.out HW5.out
end Go.Proofs.YtiijdojihleggaaGreatDoor
