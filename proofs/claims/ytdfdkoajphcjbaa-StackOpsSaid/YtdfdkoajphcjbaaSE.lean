/-
  The echo: what its loop does; programs of the call's own, given away. No condition.
-/
import Derived.Test.YtdfdkoajphcjbaaSR
import Derived.Test.YtdfdkoajphcjbaaSB
import Derived.Test.YtdfdkoajphcjbaaD7
namespace Go.Proofs.Ytdfdkoajphcjbaa
set_option linter.unusedSimpArgs false
set_option linter.unusedVariables false
open Go.V

abbrev siC (x : SI) : List AV := [I x.op, I x.a, I x.b, U32 x.n]
theorem frz_code {H : List VObj} {nx id s ty len : Nat} (code : List SI) (ho : H[id]? = some ⟨s, ty, 4, (code.map siC).flatten⟩) (hl : len = code.length) : Frz 0 H nx (.ref id s 0 len) (.imm 4 (code.map siA)) := by
  have h := Frz.refT (n := 0) (nx := nx) (len := len) (Nat.zero_le _) ho rfl rfl (yss := code.map siC) (zss := code.map siC) rfl (fun l hl => ?_) (by simp [hl]) (FrzLL.pure fun l hl => ?_)
  · rw [List.map_map] at h; exact h
  · obtain ⟨x, _, rfl⟩ := List.mem_map.1 hl; rfl
  · obtain ⟨x, _, rfl⟩ := List.mem_map.1 hl; rfl
/-- A program of one function. -/
theorem frz_one {H : List VObj} {nx idF sF tF idL sL tL : Nat} (w : Int) (g : SF) (hF : H[idF]? = some ⟨sF, tF, 5, [I g.params, I g.slots, I g.first, B g.word, .ref idL sL 0 g.code.length]⟩) (hL : H[idL]? = some ⟨sL, tL, 4, (g.code.map siC).flatten⟩) :
    Frz 0 H nx (.agg [I w, .ref idF sF 0 1]) (spA ⟨w, [g]⟩) :=
  Frz.agg ⟨_, _, rfl, Frz.pure rfl, _, _, rfl, Frz.refT (Nat.zero_le _) hF rfl rfl (yss := [[I g.params, I g.slots, I g.first, B g.word, .ref idL sL 0 g.code.length]]) (zss := [[I g.params, I g.slots, I g.first, B g.word, .imm 4 (g.code.map siA)]]) rfl (by simp) rfl
    ⟨_, _, rfl, ⟨_, _, rfl, Frz.pure rfl, _, _, rfl, Frz.pure rfl, _, _, rfl, Frz.pure rfl, _, _, rfl, Frz.pure rfl, _, _, rfl, frz_code g.code hL rfl, rfl⟩, rfl⟩, rfl⟩
/-- A program of two functions. -/
theorem frz_two {H : List VObj} {nx idF sF tF id1 s1 t1 id2 s2 t2 : Nat} (w : Int) (g h : SF)
    (hF : H[idF]? = some ⟨sF, tF, 5, [I g.params, I g.slots, I g.first, B g.word, .ref id1 s1 0 g.code.length, I h.params, I h.slots, I h.first, B h.word, .ref id2 s2 0 h.code.length]⟩)
    (h1 : H[id1]? = some ⟨s1, t1, 4, (g.code.map siC).flatten⟩) (h2 : H[id2]? = some ⟨s2, t2, 4, (h.code.map siC).flatten⟩) :
    Frz 0 H nx (.agg [I w, .ref idF sF 0 2]) (spA ⟨w, [g, h]⟩) :=
  Frz.agg ⟨_, _, rfl, Frz.pure rfl, _, _, rfl, Frz.refT (Nat.zero_le _) hF rfl rfl
    (yss := [[I g.params, I g.slots, I g.first, B g.word, .ref id1 s1 0 g.code.length], [I h.params, I h.slots, I h.first, B h.word, .ref id2 s2 0 h.code.length]])
    (zss := [[I g.params, I g.slots, I g.first, B g.word, .imm 4 (g.code.map siA)], [I h.params, I h.slots, I h.first, B h.word, .imm 4 (h.code.map siA)]]) rfl (by simp) rfl
    ⟨_, _, rfl, ⟨_, _, rfl, Frz.pure rfl, _, _, rfl, Frz.pure rfl, _, _, rfl, Frz.pure rfl, _, _, rfl, Frz.pure rfl, _, _, rfl, frz_code g.code h1 rfl, rfl⟩,
     _, _, rfl, ⟨_, _, rfl, Frz.pure rfl, _, _, rfl, Frz.pure rfl, _, _, rfl, Frz.pure rfl, _, _, rfl, Frz.pure rfl, _, _, rfl, frz_code h.code h2 rfl, rfl⟩, rfl⟩, rfl⟩

theorem FitP.of {s : SP} (hw : WfP s) (hR : RightP s) (hc : ∀ f, (s.fn f).code.length ≤ 1000000) : FitP s :=
  ⟨hw, hR.w0, by have := hR.w1; omega, by have := hR.n1; omega, fun e => by have := hR.n0; rw [e] at this; simp at this, hc⟩
theorem srunN_c (s : SP) (inp : ByteArray) (fuel : Int) (hP : FitP s) (hR : RightP s) (hfu : fuel ≤ 60000) (hi : inp.size ≤ 1000000000) :
    ContractN Try.prog 12 [spA s, strv inp, I fuel] (fun r => r = resS (runS s inp (startS s) fuel.toNat)) :=
  (srun_c s inp fuel hP hfu hi fun k _ => runS_good hR inp k).vals fun r hr => .inr ⟨[_, _, _], hr⟩
theorem srightN_c (s : SP) (hs : InP s) (hi : Int64 s.words) (h64 : ∀ f, Int64 (s.fn f).slots ∧ Int64 (s.fn f).first) (hR : RightP s) : ContractN Try.prog 14 [spA s] (fun r => r = B true) :=
  Contract.vals (by have := sright_r s hs hi h64; rw [rightB_iff.2 hR] at this; exact this) fun r hr => .inl ⟨_, hr⟩

theorem ech_get (inp : ByteArray) (m : Int) (k st : Nat) (out : List UInt8) : runS echP inp ⟨[m], k, out, st, 0, ⟨0, 0, []⟩, []⟩ 1 =
    if k < inp.size then ⟨[m], k + 1, out, st + 1, 0, ⟨0, 1, [byteAt inp k]⟩, []⟩ else ⟨[m], k, out, st + 1, 0, ⟨0, 1, [256]⟩, []⟩ := by kernel_rfl
theorem ech_lt (inp : ByteArray) (m v : Int) (k st : Nat) (out : List UInt8) : runS echP inp ⟨[m], k, out, st, 0, ⟨0, 1, [v]⟩, []⟩ 4 =
    ⟨[v], k, out, st + 1 + 1 + 1 + 1, 0, ⟨0, 5, [if v < 256 then 1 else 0]⟩, []⟩ := by kernel_rfl
theorem ech_put (inp : ByteArray) (v : Int) (k st : Nat) (out : List UInt8) : runS echP inp ⟨[v], k, out, st, 0, ⟨0, 5, [1]⟩, []⟩ 4 =
    ⟨[v], k, out ++ [byteS v], st + 1 + 1 + 1 + 1, 0, ⟨0, 0, []⟩, []⟩ := by kernel_rfl
theorem ech_ret (inp : ByteArray) (v : Int) (k st : Nat) (out : List UInt8) : runS echP inp ⟨[v], k, out, st, 0, ⟨0, 5, [0]⟩, []⟩ 2 =
    ⟨[v], k, out, st + 1 + 1, 1, ⟨0, 10, []⟩, []⟩ := by kernel_rfl
theorem byteAt_lt (inp : ByteArray) (k : Nat) : byteAt inp k < 256 := by
  unfold byteAt
  have := (inp.data.toList.getD k 0).toNat_lt
  omega
theorem byteS_at (inp : ByteArray) (k : Nat) : byteS (byteAt inp k) = inp.data.toList.getD k 0 := by
  unfold byteS byteAt
  have h := (inp.data.toList.getD k 0).toNat_lt
  rw [IntKind.wrap_u8, show (((inp.data.toList.getD k 0).toNat : Nat) : Int) % 256 = (((inp.data.toList.getD k 0).toNat : Nat) : Int) by omega, Int.toNat_natCast]
  simp
theorem ech_loop (inp : ByteArray) : ∀ k, k ≤ inp.size → ∃ m, runS echP inp (startS echP) (9 * k) = ⟨[m], k, inp.data.toList.take k, 9 * k, 0, ⟨0, 0, []⟩, []⟩
  | 0, _ => ⟨0, by kernel_rfl⟩
  | k + 1, h => by
    obtain ⟨m, hm⟩ := ech_loop inp k (by omega)
    refine ⟨byteAt inp k, ?_⟩
    rw [show 9 * (k + 1) = 9 * k + 1 + 4 + 4 by omega, runS_add, runS_add, runS_add, hm, ech_get, if_pos (by omega), ech_lt, if_pos (byteAt_lt inp k), ech_put, byteS_at]
    have hs : k < inp.data.toList.length := by have : inp.data.toList.length = inp.size := Array.length_toList
                                               omega
    congr 1
    rw [List.take_add_one, List.getElem?_eq_getElem hs, List.getD, List.getElem?_eq_getElem hs]; rfl
theorem ech_run (inp : ByteArray) (h : inp.size ≤ 100) : ∃ m, runS echP inp (startS echP) 2000 = ⟨[m], inp.size, inp.data.toList, 9 * inp.size + 7, 1, ⟨0, 10, []⟩, []⟩ := by
  obtain ⟨m, hm⟩ := ech_loop inp inp.size (Nat.le_refl _)
  refine ⟨256, runS_end (k := 9 * inp.size + 1 + 4 + 2) ?_ (by simp) (by omega)⟩
  rw [runS_add, runS_add, runS_add, hm, ech_get, if_neg (by omega), ech_lt, if_neg (by omega), ech_ret]
  congr 1
  exact List.take_of_length_le (Nat.le_of_eq Array.length_toList)
end Go.Proofs.Ytdfdkoajphcjbaa
