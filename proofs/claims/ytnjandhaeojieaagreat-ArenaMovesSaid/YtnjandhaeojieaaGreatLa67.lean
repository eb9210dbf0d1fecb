/- The law ArenaMoves (the whole). -/
import Derived.Test.YtnjandhaeojieaaGreatLa65
set_option linter.unusedVariables false
set_option linter.unusedSimpArgs false
namespace Go.Proofs.YtnjandhaeojieaaGreat
open Go.AM
theorem len_l (n : Nat) (g : Nat → Nat → T) : (T.l n g).len = n := rfl
theorem el_l (n : Nat) (g : Nat → Nat → T) (i j : Nat) : (T.l n g).el i j = g i j := rfl
theorem ArenaMoves_sp (l : T) (o1 n1 : Int) (k1 : T) (o2 n2 : Int) (k2 te ts ta tn tp : T) (v0 : Int) (wl : WT Tryz.prog 22 l) (w1 : WT Tryz.prog 23 k1) (w2 : WT Tryz.prog 23 k2) (we : WT Tryz.prog 26 te) (ws : WT Tryz.prog 26 ts) (wa : WT Tryz.prog 23 ta) (wn : WT Tryz.prog 23 tn) (wp : WT Tryz.prog 23 tp) :
    Ev fun N => C_parrylaw10_ArenaMoves (K N) l o1 n1 k1 o2 n2 k2 te ts ta tn tp v0 = rb true := by
  have hl := WT_len wl
  have h1 := WT_KW w1
  have h2 := WT_KW w2
  have he := WT_KC we
  have hs := WT_KC ws
  have ha := WT_KW wa
  have hn := WT_KW wn
  have hp := WT_KW wp
  obtain ⟨m, hmd⟩ : ∃ m : Md, m = ⟨varsOf l, .mk o1 n1 (kidsOf k1), .mk o2 n2 (kidsOf k2), cmdsOf te, cmdsOf ts, kidsOf ta, kidsOf tn, kidsOf tp⟩ := ⟨_, rfl⟩
  have base := Ev.and (Ev.and (heavy6_sp l k1 k2 te ts ta tn tp hl h1 h2 he hs ha hn hp) awake10_sp) (refMayM_sp l hl k1 k2 te ts ta tn tp h1 h2 he hs ha hn hp)
  by_cases good : mayM m = 0 ∧ prodV (varsOf l) ≤ 24
  case neg =>
    refine Ev.step (base.imp fun N hb => ?_)
    obtain ⟨⟨hh, haw⟩, hr⟩ := hb
    obtain ⟨y, hy, hy2⟩ := hh o1 n1 o2 n2
    have aw : ((C_parrylaw10_awake (K N)).bind fun r => some (lookR [(0, T.b (r 0).bool)])) = rb true := by rw [haw]; rfl
    rw [C_parrylaw10_ArenaMoves_K]
    refine bind_of hy (if_both (fun _ => aw) fun c0 => bind_of (hr o1 n1 o2 n2) (if_both (fun _ => aw) fun c1 => ?_))
    exfalso
    have c1 : mayM m = 0 := by rw [hmd]; simpa [lookR_0, int_i] using c1
    refine good ⟨c1, hy2 (of_decide_eq_false c0) ?_⟩
    have := (mayM_zero c1).1
    rw [hmd] at this
    exact this
  obtain ⟨hm, hP⟩ := good
  have mv : m.vars = varsOf l := by rw [hmd]
  have hT : prodV m.vars ≤ 24 := by rw [mv]; exact hP
  refine Ev.step (Ev.imp4 base (chs_sp l k1 k2 te ts ta tn tp hl h1 h2 he hs ha hn hp o1 n1 o2 n2 hmd hm hT) (Build_sp l k1 k2 te ts ta tn tp hl h1 h2 he hs ha hn hp o1 n1 o2 n2 hmd hm hT) (Ev.ge 400) fun N hb C hB hN => ?_)
  obtain ⟨⟨hh, haw⟩, hr⟩ := hb
  obtain ⟨y, hy, hy2⟩ := hh o1 n1 o2 n2
  have aw : ((C_parrylaw10_awake (K N)).bind fun r => some (lookR [(0, T.b (r 0).bool)])) = rb true := by rw [haw]; rfl
  obtain ⟨L, no, go, nN, gN, nA, gA, e, hI, hv, ho, hrw⟩ := hB
  have hnA := hv.1
  have hsm := hI.small
  have hroot := hI.root
  have hpos : 0 < (atE m).length := (List.getElem?_eq_some_iff.1 hroot).1
  have hnN : nN = (atE m).length := by rw [hrw.1, hI.len]
  have hu : (!(IntKind.wrap .u64 (((nA : Nat) : Int)) == 0)) = true := by rw [wrapu_eq (by omega) (by omega)]; simp; omega
  obtain ⟨V, hV⟩ : ∃ V, V = IntKind.wrap .i64 (Int.tmod (IntKind.wrap .u64 v0) (IntKind.wrap .u64 ((nA : Nat) : Int))) := ⟨_, rfl⟩
  have vr := mod_range v0 (n := ((nA : Nat) : Int)) (by omega) (by omega)
  rw [← hV] at vr
  have hlt : V.toNat < (atE m).length := by omega
  obtain ⟨v, hva⟩ : ∃ v, (atE m)[V.toNat]? = some v := ⟨_, List.getElem?_eq_getElem hlt⟩
  obtain ⟨a1, a2, a3⟩ := hv.2 _ _ hva
  have hkind := univE_kind (hI.un v (List.mem_of_getElem? hva))
  have fin : ∀ tW, Ints tW (wantX m v) → (wantX m v).length ≤ 24 → parrylaw10_ArenaMoves.B0 (K N) N V tW (T.l no go) (T.l nN gN) (T.l nA gA) v.1 v.2.1 v.2.2 = rb true := fun tW hW hlw => amAll hI (fun _ => hT) hlw vr.1 hva hv hrw hW (by omega) aw
  obtain ⟨r, hr0⟩ : ∃ r, r = lookR [(0, T.l no go), (1, T.l nN gN), (2, T.l nA gA), (3, T.i 0)] := ⟨_, rfl⟩
  rw [← hr0] at e
  have r0 : r 0 = T.l no go := by rw [hr0]; rfl
  have r1 : r 1 = T.l nN gN := by rw [hr0]; rfl
  have r2 : r 2 = T.l nA gA := by rw [hr0]; rfl
  have r3 : r 3 = T.i 0 := by rw [hr0]; rfl
  rw [C_parrylaw10_ArenaMoves_K]
  refine bind_of hy (if_both (fun _ => aw) fun c0 => bind_of (hr o1 n1 o2 n2) (if_both (fun _ => aw) fun c1 => bind_of e ?_))
  simp only [r0, r1, r2, r3, len_l, el_l, int_i]
  rw [← hV]
  refine if_not (by rfl) (if_not (decide_eq_false (by omega)) (if_not (by simp; omega) (if_of hu (if_of (by simp; omega) ?_))))
  rw [a1, a2, a3]
  unfold wantX at fin
  by_cases k1' : v.1 = 1
  · rw [if_pos k1'] at fin
    obtain ⟨t, et, it⟩ := C.ie
    exact if_of (by simpa using k1') (bind_of et (fin _ it.shift C.lie))
  rw [if_neg k1'] at fin
  refine if_not (by simpa using k1') ?_
  by_cases k2' : v.1 = 2
  · rw [if_pos k2'] at fin
    obtain ⟨t, et, it⟩ := C.is v.2.2
    exact if_of (by simpa using k2') (bind_of et (fin _ it.shift (C.lis _)))
  rw [if_neg k2'] at fin
  refine if_not (by simpa using k2') ?_
  by_cases k3' : v.1 = 3
  · rw [if_pos k3'] at fin
    obtain ⟨t, et, it⟩ := C.ev v.2.1
    exact if_of (by simpa using k3') (bind_of et (fin _ it (C.lev _)))
  rw [if_neg k3'] at fin
  refine if_not (by simpa using k3') ?_
  obtain ⟨t, et, it⟩ := C.sy v.2.1 v.2.2
  exact bind_of et (fin _ it (C.lsy _ _))
end Go.Proofs.YtnjandhaeojieaaGreat
