/- What a generator writes for each instruction: contracts. No condition. What becomes of each instruction, as a map of functions: contracts. No condition. -/
import Derived.Test.YtaedcpipilnpcaaGreatQr1
import Derived.Test.YtaedcpipilnpcaaGreatUF
import Derived.Test.YtaedcpipilnpcaaGreatUY
import Derived.Test.YtaedcpipilnpcaaGreatUCode
import Derived.Test.YtaedcpipilnpcaaGreatUG
import Derived.SizedLaws
import Derived.Test.YtaedcpipilnpcaaGreatUH
import Derived.Test.YtaedcpipilnpcaaGreatUC
import Derived.KernelRfl
set_option linter.unusedVariables false
set_option linter.unusedSimpArgs false
namespace Go.Proofs.YtaedcpipilnpcaaGreat
set_option linter.unusedSimpArgs false
set_option linter.unusedVariables false
set_option maxRecDepth 10000
open Go.V
abbrev siL (x:SI):List AV:=[I x.op,I x.a,I x.b,U32 x.n]
section
variable {c:Ex} {P:PL} {d:Int} {q:GI} {H:List VObj} {l:List Sy} {en:List Int} {bl:List AV}
theorem mean1_v (h:GC c P d q H l en bl) (hk:ExOk P c) (hd:0≤d∧d≤100000) (hl:l.length≤500000) (nx:Nat) (x:SI) (ho:x.op=1) (hn:In32 x.n) (C:AV→List VObj→Nat→Prop)
 (hC:∀ r H' nx',GC c P d q H' (l++insE c d x) en bl→KeepT gT H H'→C r H' nx'):VCall Tryz.prog 53 [.ptr q.kG q.sG 0,siA x] H nx C:=by
 refine VCall.of_body hmix f_emit_meanings_1 (by simp) ?_
 have eI:insE c d x=numE 1 x.n++[stE c d 1 0]:=by unfold insE;simp[ho]
 rw[eI]at hC
 have hX:(H++[(⟨nx,71,1,siL x⟩:VObj)])[H.length]? = some ⟨nx,71,1,siL x⟩:=by simp
 have h0:=h.keep (KeepT.app [] H [⟨nx,71,1,siL x⟩])
 have k0:KeepT gT H (H++[(⟨nx,71,1,siL x⟩:VObj)]):=KeepT.app _ _ _
 have l9:(H.length<H.length+1)=True:=eq_true (by omega)
 obtain ⟨cv0,pv0,hw0,hc0,hp0⟩:=h0.w
 simp only[go_sem,c_emit_meanings_1,hX]
 refine number_v h0 (by omega) _ 1 hn _ fun r H1 nx1 h1 k1=>?_
 have hX1:=k1 _ _ hX (by simp)
 obtain ⟨cv1,pv1,hw1,hc1,hp1⟩:=h1.w
 simp only[go_sem]
 refine store_v h1 hk hd (by unfold numE;simp only[List.length_append,List.length_cons];split<;>simp<;>omega) _ 1 0 (by omega) _ fun r H2 nx2 h2 k2=>?_
 simp only[go_sem]
 exact hC _ _ _ (by simpa using h2) ((k0.trans k1).trans k2)
theorem mean2_v (h:GC c P d q H l en bl) (hk:ExOk P c) (hd:0≤d∧d≤100000) (hl:l.length≤500000) (nx:Nat) (x:SI) (ho:x.op=2) (C:AV→List VObj→Nat→Prop)
 (hC:∀ r H' nx',GC c P d q H' (l++insE c d x) en bl→KeepT gT H H'→C r H' nx'):VCall Tryz.prog 56 [.ptr q.kG q.sG 0,siA x] H nx C:=by
 refine VCall.of_body hmix f_emit_meanings_2 (by simp) ?_
 have eI:insE c d x=[pY 16 1 0 x.a,stE c d 1 0]:=by unfold insE;simp[ho]
 rw[eI]at hC
 have hX:(H++[(⟨nx,71,1,siL x⟩:VObj)])[H.length]? = some ⟨nx,71,1,siL x⟩:=by simp
 have h0:=h.keep (KeepT.app [] H [⟨nx,71,1,siL x⟩])
 have k0:KeepT gT H (H++[(⟨nx,71,1,siL x⟩:VObj)]):=KeepT.app _ _ _
 have l9:(H.length<H.length+1)=True:=eq_true (by omega)
 obtain ⟨cv0,pv0,hw0,hc0,hp0⟩:=h0.w
 simp only[go_sem,c_emit_meanings_2,hX]
 refine putG_v h0 (by omega) _ _ _ _ _ _ fun r H1 nx1 h1 k1=>?_
 have hX1:=k1 _ _ hX (by simp)
 obtain ⟨cv1,pv1,hw1,hc1,hp1⟩:=h1.w
 simp only[go_sem]
 refine store_v h1 hk hd (by simp;omega) _ 1 0 (by omega) _ fun r H2 nx2 h2 k2=>?_
 simp only[go_sem]
 exact hC _ _ _ (by simpa using h2) ((k0.trans k1).trans k2)
theorem mean3_v (h:GC c P d q H l en bl) (hk:ExOk P c) (hd:0≤d∧d≤100000) (hl:l.length≤500000) (nx:Nat) (x:SI) (ho:x.op=3) (C:AV→List VObj→Nat→Prop)
 (hC:∀ r H' nx',GC c P d q H' (l++insE c d x) en bl→KeepT gT H H'→C r H' nx'):VCall Tryz.prog 57 [.ptr q.kG q.sG 0,siA x] H nx C:=by
 refine VCall.of_body hmix f_emit_meanings_3 (by simp) ?_
 have eI:insE c d x=[ldE c d 1 1,pY 17 1 0 x.a]:=by unfold insE;simp[ho]
 rw[eI]at hC
 have hX:(H++[(⟨nx,71,1,siL x⟩:VObj)])[H.length]? = some ⟨nx,71,1,siL x⟩:=by simp
 have h0:=h.keep (KeepT.app [] H [⟨nx,71,1,siL x⟩])
 have k0:KeepT gT H (H++[(⟨nx,71,1,siL x⟩:VObj)]):=KeepT.app _ _ _
 have l9:(H.length<H.length+1)=True:=eq_true (by omega)
 obtain ⟨cv0,pv0,hw0,hc0,hp0⟩:=h0.w
 simp only[go_sem,c_emit_meanings_3]
 refine load_v h0 hk hd (by omega) _ 1 1 (by omega) _ fun r H1 nx1 h1 k1=>?_
 have hX1:=k1 _ _ hX (by simp)
 obtain ⟨cv1,pv1,hw1,hc1,hp1⟩:=h1.w
 simp only[go_sem,hX1]
 refine putG_v h1 (by simp;omega) _ _ _ _ _ _ fun r H2 nx2 h2 k2=>?_
 simp only[go_sem]
 exact hC _ _ _ (by simpa using h2) ((k0.trans k1).trans k2)
theorem mean4_v (h:GC c P d q H l en bl) (hk:ExOk P c) (hd:0≤d∧d≤100000) (hl:l.length≤500000) (nx:Nat) (x:SI) (ho:x.op=4) (C:AV→List VObj→Nat→Prop)
 (hC:∀ r H' nx',GC c P d q H' (l++insE c d x) en bl→KeepT gT H H'→C r H' nx'):VCall Tryz.prog 59 [.ptr q.kG q.sG 0,siA x] H nx C:=by
 refine VCall.of_body hmix f_emit_meanings_4 (by simp) ?_
 have eI:insE c d x=[ldE c d 1 1,pY 25 1 0 x.b,pY 16 1 1 x.a,stE c d 1 1]:=by unfold insE;simp[ho]
 rw[eI]at hC
 have hX:(H++[(⟨nx,71,1,siL x⟩:VObj)])[H.length]? = some ⟨nx,71,1,siL x⟩:=by simp
 have h0:=h.keep (KeepT.app [] H [⟨nx,71,1,siL x⟩])
 have k0:KeepT gT H (H++[(⟨nx,71,1,siL x⟩:VObj)]):=KeepT.app _ _ _
 have l9:(H.length<H.length+1)=True:=eq_true (by omega)
 obtain ⟨cv0,pv0,hw0,hc0,hp0⟩:=h0.w
 simp only[go_sem,c_emit_meanings_4]
 refine load_v h0 hk hd (by omega) _ 1 1 (by omega) _ fun r H1 nx1 h1 k1=>?_
 have hX1:=k1 _ _ hX (by simp)
 obtain ⟨cv1,pv1,hw1,hc1,hp1⟩:=h1.w
 simp only[go_sem,hX1]
 refine putG_v h1 (by simp;omega) _ _ _ _ _ _ fun r H2 nx2 h2 k2=>?_
 have hX2:=k2 _ _ hX1 (by simp)
 obtain ⟨cv2,pv2,hw2,hc2,hp2⟩:=h2.w
 simp only[go_sem,hX2]
 refine putG_v h2 (by simp;omega) _ _ _ _ _ _ fun r H3 nx3 h3 k3=>?_
 have hX3:=k3 _ _ hX2 (by simp)
 obtain ⟨cv3,pv3,hw3,hc3,hp3⟩:=h3.w
 simp only[go_sem]
 refine store_v h3 hk hd (by simp;omega) _ 1 1 (by omega) _ fun r H4 nx4 h4 k4=>?_
 simp only[go_sem]
 exact hC _ _ _ (by simpa using h4) ((((k0.trans k1).trans k2).trans k3).trans k4)
theorem mean5_v (h:GC c P d q H l en bl) (hk:ExOk P c) (hd:0≤d∧d≤100000) (hl:l.length≤500000) (nx:Nat) (x:SI) (ho:x.op=5) (C:AV→List VObj→Nat→Prop)
 (hC:∀ r H' nx',GC c P d q H' (l++insE c d x) en bl→KeepT gT H H'→C r H' nx'):VCall Tryz.prog 60 [.ptr q.kG q.sG 0,siA x] H nx C:=by
 refine VCall.of_body hmix f_emit_meanings_5 (by simp) ?_
 have eI:insE c d x=[ldE c d 1 2,pY 25 1 0 x.b,ldE c d 2 1,pY 17 2 1 x.a]:=by unfold insE;simp[ho]
 rw[eI]at hC
 have hX:(H++[(⟨nx,71,1,siL x⟩:VObj)])[H.length]? = some ⟨nx,71,1,siL x⟩:=by simp
 have h0:=h.keep (KeepT.app [] H [⟨nx,71,1,siL x⟩])
 have k0:KeepT gT H (H++[(⟨nx,71,1,siL x⟩:VObj)]):=KeepT.app _ _ _
 have l9:(H.length<H.length+1)=True:=eq_true (by omega)
 obtain ⟨cv0,pv0,hw0,hc0,hp0⟩:=h0.w
 simp only[go_sem,c_emit_meanings_5]
 refine load_v h0 hk hd (by omega) _ 1 2 (by omega) _ fun r H1 nx1 h1 k1=>?_
 have hX1:=k1 _ _ hX (by simp)
 obtain ⟨cv1,pv1,hw1,hc1,hp1⟩:=h1.w
 simp only[go_sem,hX1]
 refine putG_v h1 (by simp;omega) _ _ _ _ _ _ fun r H2 nx2 h2 k2=>?_
 have hX2:=k2 _ _ hX1 (by simp)
 obtain ⟨cv2,pv2,hw2,hc2,hp2⟩:=h2.w
 simp only[go_sem]
 refine load_v h2 hk hd (by simp;omega) _ 2 1 (by omega) _ fun r H3 nx3 h3 k3=>?_
 have hX3:=k3 _ _ hX2 (by simp)
 obtain ⟨cv3,pv3,hw3,hc3,hp3⟩:=h3.w
 simp only[go_sem,hX3]
 refine putG_v h3 (by simp;omega) _ _ _ _ _ _ fun r H4 nx4 h4 k4=>?_
 simp only[go_sem]
 exact hC _ _ _ (by simpa using h4) ((((k0.trans k1).trans k2).trans k3).trans k4)
theorem mean6_v (h:GC c P d q H l en bl) (hk:ExOk P c) (hd:0≤d∧d≤100000) (hl:l.length≤500000) (nx:Nat) (x:SI) (ho:x.op=6) (C:AV→List VObj→Nat→Prop)
 (hC:∀ r H' nx',GC c P d q H' (l++insE c d x) en bl→KeepT gT H H'→C r H' nx'):VCall Tryz.prog 61 [.ptr q.kG q.sG 0,siA x] H nx C:=by
 refine VCall.of_body hmix f_emit_meanings_6 (by simp) ?_
 have eI:insE c d x=[ldE c d 1 2,ldE c d 2 1,pY x.a 1 1 2,stE c d 1 2]:=by unfold insE;simp[ho]
 rw[eI]at hC
 have hX:(H++[(⟨nx,71,1,siL x⟩:VObj)])[H.length]? = some ⟨nx,71,1,siL x⟩:=by simp
 have h0:=h.keep (KeepT.app [] H [⟨nx,71,1,siL x⟩])
 have k0:KeepT gT H (H++[(⟨nx,71,1,siL x⟩:VObj)]):=KeepT.app _ _ _
 have l9:(H.length<H.length+1)=True:=eq_true (by omega)
 obtain ⟨cv0,pv0,hw0,hc0,hp0⟩:=h0.w
 simp only[go_sem,c_emit_meanings_6]
 refine load_v h0 hk hd (by omega) _ 1 2 (by omega) _ fun r H1 nx1 h1 k1=>?_
 have hX1:=k1 _ _ hX (by simp)
 obtain ⟨cv1,pv1,hw1,hc1,hp1⟩:=h1.w
 simp only[go_sem]
 refine load_v h1 hk hd (by simp;omega) _ 2 1 (by omega) _ fun r H2 nx2 h2 k2=>?_
 have hX2:=k2 _ _ hX1 (by simp)
 obtain ⟨cv2,pv2,hw2,hc2,hp2⟩:=h2.w
 simp only[go_sem,hX2]
 refine putG_v h2 (by simp;omega) _ _ _ _ _ _ fun r H3 nx3 h3 k3=>?_
 have hX3:=k3 _ _ hX2 (by simp)
 obtain ⟨cv3,pv3,hw3,hc3,hp3⟩:=h3.w
 simp only[go_sem]
 refine store_v h3 hk hd (by simp;omega) _ 1 2 (by omega) _ fun r H4 nx4 h4 k4=>?_
 simp only[go_sem]
 exact hC _ _ _ (by simpa using h4) ((((k0.trans k1).trans k2).trans k3).trans k4)
theorem mean7_v (h:GC c P d q H l en bl) (hk:ExOk P c) (hd:0≤d∧d≤100000) (hl:l.length≤500000) (nx:Nat) (x:SI) (ho:x.op=7) (C:AV→List VObj→Nat→Prop)
 (hC:∀ r H' nx',GC c P d q H' (l++insE c d x) en bl→KeepT gT H H'→C r H' nx'):VCall Tryz.prog 62 [.ptr q.kG q.sG 0,siA x] H nx C:=by
 refine VCall.of_body hmix f_emit_meanings_7 (by simp) ?_
 have eI:insE c d x=[ldE c d 1 1,pY 15 1 1 0,stE c d 1 1]:=by unfold insE;simp[ho]
 rw[eI]at hC
 have hX:(H++[(⟨nx,71,1,siL x⟩:VObj)])[H.length]? = some ⟨nx,71,1,siL x⟩:=by simp
 have h0:=h.keep (KeepT.app [] H [⟨nx,71,1,siL x⟩])
 have k0:KeepT gT H (H++[(⟨nx,71,1,siL x⟩:VObj)]):=KeepT.app _ _ _
 have l9:(H.length<H.length+1)=True:=eq_true (by omega)
 obtain ⟨cv0,pv0,hw0,hc0,hp0⟩:=h0.w
 simp only[go_sem,c_emit_meanings_7]
 refine load_v h0 hk hd (by omega) _ 1 1 (by omega) _ fun r H1 nx1 h1 k1=>?_
 have hX1:=k1 _ _ hX (by simp)
 obtain ⟨cv1,pv1,hw1,hc1,hp1⟩:=h1.w
 simp only[go_sem]
 refine putG_v h1 (by simp;omega) _ _ _ _ _ _ fun r H2 nx2 h2 k2=>?_
 have hX2:=k2 _ _ hX1 (by simp)
 obtain ⟨cv2,pv2,hw2,hc2,hp2⟩:=h2.w
 simp only[go_sem]
 refine store_v h2 hk hd (by simp;omega) _ 1 1 (by omega) _ fun r H3 nx3 h3 k3=>?_
 simp only[go_sem]
 exact hC _ _ _ (by simpa using h3) (((k0.trans k1).trans k2).trans k3)
theorem mean8_v (h:GC c P d q H l en bl) (hk:ExOk P c) (hd:0≤d∧d≤100000) (hl:l.length≤500000) (nx:Nat) (x:SI) (ho:x.op=8) (C:AV→List VObj→Nat→Prop)
 (hC:∀ r H' nx',GC c P d q H' (l++insE c d x) en bl→KeepT gT H H'→C r H' nx'):VCall Tryz.prog 63 [.ptr q.kG q.sG 0,siA x] H nx C:=by
 refine VCall.of_body hmix f_emit_meanings_8 (by simp) ?_
 have eI:insE c d x=[jY 18 0 c.fn x.a]:=by unfold insE;simp[ho]
 rw[eI]at hC
 have hX:(H++[(⟨nx,71,1,siL x⟩:VObj)])[H.length]? = some ⟨nx,71,1,siL x⟩:=by simp
 have h0:=h.keep (KeepT.app [] H [⟨nx,71,1,siL x⟩])
 have k0:KeepT gT H (H++[(⟨nx,71,1,siL x⟩:VObj)]):=KeepT.app _ _ _
 have l9:(H.length<H.length+1)=True:=eq_true (by omega)
 obtain ⟨cv0,pv0,hw0,hc0,hp0⟩:=h0.w
 simp only[go_sem,c_emit_meanings_8,hX,hw0]
 refine holeG_v h0 (by omega) _ _ _ _ _ _ fun r H1 nx1 h1 k1=>?_
 simp only[go_sem]
 exact hC _ _ _ (by simpa using h1) (k0.trans k1)
theorem mean9_v (h:GC c P d q H l en bl) (hk:ExOk P c) (hd:0≤d∧d≤100000) (hl:l.length≤500000) (nx:Nat) (x:SI) (ho:x.op=9) (C:AV→List VObj→Nat→Prop)
 (hC:∀ r H' nx',GC c P d q H' (l++insE c d x) en bl→KeepT gT H H'→C r H' nx'):VCall Tryz.prog 65 [.ptr q.kG q.sG 0,siA x] H nx C:=by
 refine VCall.of_body hmix f_emit_meanings_9 (by simp) ?_
 have eI:insE c d x=[ldE c d 1 1,jY 19 1 c.fn x.a]:=by unfold insE;simp[ho]
 rw[eI]at hC
 have hX:(H++[(⟨nx,71,1,siL x⟩:VObj)])[H.length]? = some ⟨nx,71,1,siL x⟩:=by simp
 have h0:=h.keep (KeepT.app [] H [⟨nx,71,1,siL x⟩])
 have k0:KeepT gT H (H++[(⟨nx,71,1,siL x⟩:VObj)]):=KeepT.app _ _ _
 have l9:(H.length<H.length+1)=True:=eq_true (by omega)
 obtain ⟨cv0,pv0,hw0,hc0,hp0⟩:=h0.w
 simp only[go_sem,c_emit_meanings_9]
 refine load_v h0 hk hd (by omega) _ 1 1 (by omega) _ fun r H1 nx1 h1 k1=>?_
 have hX1:=k1 _ _ hX (by simp)
 obtain ⟨cv1,pv1,hw1,hc1,hp1⟩:=h1.w
 simp only[go_sem,hX1,hw1]
 refine holeG_v h1 (by simp;omega) _ _ _ _ _ _ fun r H2 nx2 h2 k2=>?_
 simp only[go_sem]
 exact hC _ _ _ (by simpa using h2) ((k0.trans k1).trans k2)
theorem mean10_v (h:GC c P d q H l en bl) (hk:ExOk P c) (hd:0≤d∧d≤100000) (hl:l.length≤500000) (nx:Nat) (x:SI) (ho:x.op=10) (hx:0≤x.a∧x.a<c.s.funcs.length) (C:AV→List VObj→Nat→Prop)
 (hC:∀ r H' nx',GC c P d q H' (l++insE c d x) en bl→KeepT gT H H'→C r H' nx'):VCall Tryz.prog 66 [.ptr q.kG q.sG 0,siA x] H nx C:=by
 refine VCall.of_body hmix f_emit_meanings_10 (by simp) ?_
 have eI:insE c d x=callE c d x:=by unfold insE;simp[ho]
 rw[eI]at hC
 have hX:(H++[(⟨nx,71,1,siL x⟩:VObj)])[H.length]? = some ⟨nx,71,1,siL x⟩:=by simp
 have h0:=h.keep (KeepT.app [] H [⟨nx,71,1,siL x⟩])
 have k0:KeepT gT H (H++[(⟨nx,71,1,siL x⟩:VObj)]):=KeepT.app _ _ _
 have l9:(H.length<H.length+1)=True:=eq_true (by omega)
 obtain ⟨cv0,pv0,hw0,hc0,hp0⟩:=h0.w
 simp only[go_sem,c_emit_meanings_10,hX]
 refine call_v h0 hk hd (by omega) _ x hx _ fun r H1 nx1 h1 k1=>?_
 simp only[go_sem]
 exact hC _ _ _ (by simpa using h1) (k0.trans k1)
theorem mean11_v (h:GC c P d q H l en bl) (hk:ExOk P c) (hd:0≤d∧d≤100000) (hl:l.length≤500000) (nx:Nat) (x:SI) (ho:x.op=11) (C:AV→List VObj→Nat→Prop)
 (hC:∀ r H' nx',GC c P d q H' (l++insE c d x) en bl→KeepT gT H H'→C r H' nx'):VCall Tryz.prog 68 [.ptr q.kG q.sG 0,siA x] H nx C:=by
 refine VCall.of_body hmix f_emit_meanings_11 (by simp) ?_
 have eI:insE c d x=leaveE c d:=by unfold insE;simp[ho]
 rw[eI]at hC
 have hX:(H++[(⟨nx,71,1,siL x⟩:VObj)])[H.length]? = some ⟨nx,71,1,siL x⟩:=by simp
 have h0:=h.keep (KeepT.app [] H [⟨nx,71,1,siL x⟩])
 have k0:KeepT gT H (H++[(⟨nx,71,1,siL x⟩:VObj)]):=KeepT.app _ _ _
 have l9:(H.length<H.length+1)=True:=eq_true (by omega)
 obtain ⟨cv0,pv0,hw0,hc0,hp0⟩:=h0.w
 simp only[go_sem,c_emit_meanings_11]
 refine leave_v h0 hk hd (by omega) _ _ fun r H1 nx1 h1 k1=>?_
 simp only[go_sem]
 exact hC _ _ _ (by simpa using h1) (k0.trans k1)
theorem mean12_v (h:GC c P d q H l en bl) (hk:ExOk P c) (hd:0≤d∧d≤100000) (hl:l.length≤500000) (nx:Nat) (x:SI) (ho:x.op=12) (C:AV→List VObj→Nat→Prop)
 (hC:∀ r H' nx',GC c P d q H' (l++insE c d x) en bl→KeepT gT H H'→C r H' nx'):VCall Tryz.prog 70 [.ptr q.kG q.sG 0,siA x] H nx C:=by
 refine VCall.of_body hmix f_emit_meanings_12 (by simp) ?_
 have eI:insE c d x=[pY 23 1 0 0,stE c d 1 0]:=by unfold insE;simp[ho]
 rw[eI]at hC
 have hX:(H++[(⟨nx,71,1,siL x⟩:VObj)])[H.length]? = some ⟨nx,71,1,siL x⟩:=by simp
 have h0:=h.keep (KeepT.app [] H [⟨nx,71,1,siL x⟩])
 have k0:KeepT gT H (H++[(⟨nx,71,1,siL x⟩:VObj)]):=KeepT.app _ _ _
 have l9:(H.length<H.length+1)=True:=eq_true (by omega)
 obtain ⟨cv0,pv0,hw0,hc0,hp0⟩:=h0.w
 simp only[go_sem,c_emit_meanings_12]
 refine putG_v h0 (by omega) _ _ _ _ _ _ fun r H1 nx1 h1 k1=>?_
 have hX1:=k1 _ _ hX (by simp)
 obtain ⟨cv1,pv1,hw1,hc1,hp1⟩:=h1.w
 simp only[go_sem]
 refine store_v h1 hk hd (by simp;omega) _ 1 0 (by omega) _ fun r H2 nx2 h2 k2=>?_
 simp only[go_sem]
 exact hC _ _ _ (by simpa using h2) ((k0.trans k1).trans k2)
theorem mean13_v (h:GC c P d q H l en bl) (hk:ExOk P c) (hd:0≤d∧d≤100000) (hl:l.length≤500000) (nx:Nat) (x:SI) (ho:x.op=13) (C:AV→List VObj→Nat→Prop)
 (hC:∀ r H' nx',GC c P d q H' (l++insE c d x) en bl→KeepT gT H H'→C r H' nx'):VCall Tryz.prog 71 [.ptr q.kG q.sG 0,siA x] H nx C:=by
 refine VCall.of_body hmix f_emit_meanings_13 (by simp) ?_
 have eI:insE c d x=[ldE c d 1 1,pY 24 1 0 0]:=by unfold insE;simp[ho]
 rw[eI]at hC
 have hX:(H++[(⟨nx,71,1,siL x⟩:VObj)])[H.length]? = some ⟨nx,71,1,siL x⟩:=by simp
 have h0:=h.keep (KeepT.app [] H [⟨nx,71,1,siL x⟩])
 have k0:KeepT gT H (H++[(⟨nx,71,1,siL x⟩:VObj)]):=KeepT.app _ _ _
 have l9:(H.length<H.length+1)=True:=eq_true (by omega)
 obtain ⟨cv0,pv0,hw0,hc0,hp0⟩:=h0.w
 simp only[go_sem,c_emit_meanings_13]
 refine load_v h0 hk hd (by omega) _ 1 1 (by omega) _ fun r H1 nx1 h1 k1=>?_
 have hX1:=k1 _ _ hX (by simp)
 obtain ⟨cv1,pv1,hw1,hc1,hp1⟩:=h1.w
 simp only[go_sem]
 refine putG_v h1 (by simp;omega) _ _ _ _ _ _ fun r H2 nx2 h2 k2=>?_
 simp only[go_sem]
 exact hC _ _ _ (by simpa using h2) ((k0.trans k1).trans k2)
end
set_option maxRecDepth 10000
open Go.V
def meanC:List AV:=[.val (.int .i64 1),.fn 53 [],.val (.int .i64 2),.fn 56 [],.val (.int .i64 3),.fn 57 [],.val (.int .i64 4),.fn 59 [],.val (.int .i64 5),.fn 60 [],.val (.int .i64 6),.fn 61 [],.val (.int .i64 7),.fn 62 [],.val (.int .i64 8),.fn 63 [],.val (.int .i64 9),.fn 65 [],.val (.int .i64 10),.fn 66 [],.val (.int .i64 11),.fn 68 [],.val (.int .i64 12),.fn 70 [],.val (.int .i64 13),.fn 71 []]
def meanF (op:Int):Nat:=if op=1 then 53 else if op=2 then 56 else if op=3 then 57 else if op=4 then 59 else if op=5 then 60 else if op=6 then 61 else if op=7 then 62 else if op=8 then 63 else if op=9 then 65 else if op=10 then 66 else if op=11 then 68 else if op=12 then 70 else 71
theorem meanings_v (H:List VObj) (nx:Nat) (C:AV→List VObj→Nat→Prop) (hC:C (.mref H.length nx) (H++[⟨nx,0,0,meanC⟩]) (nx+1)) :
 VCall Tryz.prog 33 [] H nx C:=by
 refine VCall.of_body hmix f_emit_meanings (by simp) ?_
 have l9:(H.length<H.length+1)=True:=eq_true (by omega)
 have eg:∀ x:VObj,(H++[x])[H.length]? = some x:=fun x=>by simp
 have es:∀ x y:VObj,(H++[x]).set H.length y=H++[y]:=fun x y=>by simp
 simp only[go_sem,c_emit_meanings,eg,es]
 iterate 11 (refine ⟨mapOKb_ok rfl,?_⟩)
 exact hC
theorem look_mean {op:Int} (h1:1≤op) (h2:op≤13) {C:Option AV→Prop} (h:C (some (.fn (meanF op) []))):lookT (.int .i64 op) meanC C .mk:=by
 have hc:op=1∨op=2∨op=3∨op=4∨op=5∨op=6∨op=7∨op=8∨op=9∨op=10∨op=11∨op=12∨op=13:=by omega
 unfold meanC
 simp only[lookT_cons,lookT_nil]
 rcases hc with rfl | rfl | rfl | rfl | rfl | rfl | rfl | rfl | rfl | rfl | rfl | rfl | rfl<;>simpa [meanF] using h
section
variable {c:Ex} {P:PL} {d:Int} {q:GI} {H:List VObj} {l:List Sy} {en:List Int} {bl:List AV}
theorem mean_v (h:GC c P d q H l en bl) (hk:ExOk P c) (hd:0≤d∧d≤100000) (hl:l.length≤500000) (nx:Nat) (x:SI) (h1:1≤x.op) (h2:x.op≤13) (hn:In32 x.n) (hx:x.op=10→0≤x.a∧x.a<c.s.funcs.length) (C:AV→List VObj→Nat→Prop)
 (hC:∀ r H' nx',GC c P d q H' (l++insE c d x) en bl→KeepT gT H H'→C r H' nx'):VCall Tryz.prog (meanF x.op) [.ptr q.kG q.sG 0,siA x] H nx C:=by
 have hc:x.op=1∨x.op=2∨x.op=3∨x.op=4∨x.op=5∨x.op=6∨x.op=7∨x.op=8∨x.op=9∨x.op=10∨x.op=11∨x.op=12∨x.op=13:=by omega
 rcases hc with e | e | e | e | e | e | e | e | e | e | e | e | e
 ·rw[show meanF x.op=53 by rw[e];rfl];exact mean1_v h hk hd hl nx x e hn C hC
 ·rw[show meanF x.op=56 by rw[e];rfl];exact mean2_v h hk hd hl nx x e C hC
 ·rw[show meanF x.op=57 by rw[e];rfl];exact mean3_v h hk hd hl nx x e C hC
 ·rw[show meanF x.op=59 by rw[e];rfl];exact mean4_v h hk hd hl nx x e C hC
 ·rw[show meanF x.op=60 by rw[e];rfl];exact mean5_v h hk hd hl nx x e C hC
 ·rw[show meanF x.op=61 by rw[e];rfl];exact mean6_v h hk hd hl nx x e C hC
 ·rw[show meanF x.op=62 by rw[e];rfl];exact mean7_v h hk hd hl nx x e C hC
 ·rw[show meanF x.op=63 by rw[e];rfl];exact mean8_v h hk hd hl nx x e C hC
 ·rw[show meanF x.op=65 by rw[e];rfl];exact mean9_v h hk hd hl nx x e C hC
 ·rw[show meanF x.op=66 by rw[e];rfl];exact mean10_v h hk hd hl nx x e (hx e) C hC
 ·rw[show meanF x.op=68 by rw[e];rfl];exact mean11_v h hk hd hl nx x e C hC
 ·rw[show meanF x.op=70 by rw[e];rfl];exact mean12_v h hk hd hl nx x e C hC
 ·rw[show meanF x.op=71 by rw[e];rfl];exact mean13_v h hk hd hl nx x e C hC
end
set_option maxRecDepth 10000
open Go.V
def tailC:Nat→VC→VC
 | n+1,.seq _ y=>tailC n y
 | _,c=>c
structure FOk (c:Ex):Prop where
 dl:c.dl.length=c.g.code.length
 dv:∀ i<c.dl.length,-1≤c.dl.getD i (-1)∧c.dl.getD i (-1)≤100000
 ins:∀ i<c.g.code.length,FitsP c.s c.fn (c.g.code.getD i default)∧In32 (c.g.code.getD i default).n
 lt:c.g.code.length≤100000
 len:∀ k,(restE c 0 (c.g.code.take k)).length≤300000
structure LQD where
 j:Nat
 H:List VObj
 nx:Nat
 d:Int
theorem FitsP.op {s:SP} {f:Nat} {x:SI} (h:FitsP s f x):1≤x.op∧x.op≤13∧(x.op=10→0≤x.a∧x.a<(f:Int)):=by
 obtain ⟨_,_,h3⟩:=h
 omega
theorem GH.setD {s:SP} {P:PL} {f d f' d':Int} {q:GI} {H:List VObj} {code:List Ci} {sp:List Sp} {en:List Int} {bl:List AV} (h:GH s P f d q H code sp en bl) {cv hv:AV} (hw:H[q.kG]? = some ⟨q.sG,52,1,genL s P q cv hv f d⟩) :
 GH s P f' d' q (H.set q.kG ⟨q.sG,52,1,genL s P q cv hv f' d'⟩) code sp en bl:=by
 obtain ⟨cv',pv',hw',⟨k1,s1,e1,hc⟩,⟨k2,s2,e2,hp⟩⟩:=h.w
 rw[hw]at hw'
 simp only[Option.some.injEq,VObj.mk.injEq,List.cons.injEq,true_and,and_true]at hw'
 obtain ⟨rfl,rfl⟩:=hw'
 have t:∀ {i:Nat} {ob:VObj} {o:VObj},H[i]? = some ob→ob.ty≠52→(H.set q.kG o)[i]? = some ob:=fun {i ob o} h1 h2=>by
  rw[set_ne (fun e=>by subst e;rw[hw]at h1;cases h1;exact h2 rfl)];exact h1
 exact ⟨⟨cv,hv,set_get hw,⟨k1,s1,e1,t hc (by simp)⟩,⟨k2,s2,e2,t hp (by simp)⟩⟩,t h.e (by simp),t h.b (by simp)⟩
theorem GH.keepR {s:SP} {P:PL} {f d:Int} {q:GI} {H:List VObj} {code:List Ci} {sp:List Sp} {en:List Int} {bl:List AV} (h:GH s P f d q H code sp en bl) {k:Nat} {o:VObj} {s0:Nat} {cs:List AV} (ho:H[k]? = some ⟨s0,3,1,cs⟩) (hE:k≠q.kE):GH s P f d q (H.set k o) code sp en bl:=by
 obtain ⟨cv,pv,hw,hc,hp⟩:=h.w
 have t:∀ {i:Nat} {ob:VObj},H[i]? = some ob→ob.ty≠3→(H.set k o)[i]? = some ob:=fun {i ob} h1 h2=>by
  rw[set_ne (fun e=>by subst e;rw[ho]at h1;cases h1;exact h2 rfl)];exact h1
 have cvk:∀ {ty sz:Nat} {v:AV} {xs:List AV} {n:Nat},CV H ty sz v xs n→ty≠3→CV (H.set k o) ty sz v xs n:=fun {ty sz v xs n} h1 h2=>by
  obtain ⟨i,s,e1,e2⟩:=h1
  exact ⟨i,s,e1,t e2 h2⟩
 exact ⟨⟨cv,pv,t hw (by simp),cvk hc (by decide),cvk hp (by decide)⟩,by rw[set_ne hE];exact h.e,t h.b (by simp)⟩
set_option maxHeartbeats 1000000 in
theorem fun_E {c:Ex} {P:PL} {d0:Int} {q:GI} {H0:List VObj} {l0:List Sy} {en:List Int} {bl:List AV} (h:GC c P d0 q H0 l0 en bl) (hk:ExOk P c) (hf:FOk c) (hl:l0.length≤100000) {kr sr kF sF kM sM:Nat} (hbl:bl.getD c.fn .dead = .ref kr sr 0 c.g.code.length) (hbn:c.fn<bl.length)
 (hr:H0[kr]? = some ⟨sr,3,1,(rowE c l0.length 0).map I⟩) (hE:kr≠q.kE) (hF:H0[kF]? = some ⟨sF,74,1,sfL c.g⟩) (hM:H0[kM]? = some ⟨sM,0,0,meanC⟩) (nx0:Nat) (C:AV→List VObj→Nat→Prop)
 (hC:∀ r H' nx' d,GC c P d q H' (l0++restE c 0 c.g.code) en bl→H'[kr]? = some ⟨sr,3,1,(rowE c l0.length c.g.code.length).map I⟩→KeepR gT kr H0 H'→C r H' nx') :
 VWs Tryz.prog (tailC 5 c_emit_generator_function) (retQ Tryz.prog [] C) ⟨[(0,.ptr q.kG q.sG 0),(1,I c.fn),(2,.mref kM sM),(6,.ptr kF sF 0)],H0,nx0⟩:=by
 have hfl:=hk.fl
 obtain ⟨hdl,hdv,hins,hlt0,hlen⟩:=hf
 have hst:∀ j,j<c.g.code.length→restE c 0 (c.g.code.take (j+1))=restE c 0 (c.g.code.take j)++atE c j (c.g.code.getD j default):=fun j hj=>by
  have e:c.g.code.take (j+1)=c.g.code.take j++[c.g.code.getD j default]:=by rw[List.take_add_one];simp[List.getD,List.getElem?_eq_getElem hj]
  rw[e,restE_snoc];simp[Nat.min_eq_left (Nat.le_of_lt hj)]
 simp only[tailC,c_emit_generator_function,go_sem,VWs_seq,hF]
 refine ⟨_,Wk.refl _,?_⟩
 show VW Tryz.prog (.block 0 _) _ _
 simp only[go_sem]
 refine VW_loop (fun x:LQD=>⟨[(0,.ptr q.kG q.sG 0),(1,I c.fn),(2,.mref kM sM),(74,.imm 4 (c.g.code.map siA)),(75,I c.g.code.length),(76,I x.j)],x.H,x.nx⟩)
  (fun x=>x.j≤c.g.code.length∧GC c P x.d q x.H (l0++restE c 0 (c.g.code.take x.j)) en bl∧x.H[kr]? = some ⟨sr,3,1,(rowE c l0.length x.j).map I⟩∧KeepR gT kr H0 x.H) (fun x=>c.g.code.length-x.j) ⟨0,H0,nx0,d0⟩
  (Wk.mk (by simp[get_cons]) ⟨[],by simp⟩ (Nat.le_refl _)) ⟨Nat.zero_le _,by simpa [restE] using h,hr,KeepR.refl _ _ _⟩ ?_
 rintro ⟨j,H,nx,d⟩ ⟨hj,hw0,hrow,hkeep⟩
 simp only at hj hw0 hrow hkeep
 have hrk:kr<H.length:=(List.getElem?_eq_some_iff.1 hrow).1
 have hMr:kM≠kr:=fun e=>by rw[e,hr]at hM;simp at hM
 have hMH:=hkeep _ _ hM (by simp) hMr
 by_cases hlt:j<c.g.code.length
 ·obtain ⟨hfit,hn32⟩:=hins j hlt
  obtain ⟨ho1,ho2,ho10⟩:=hfit.op
  have hb1:=hlen j
  have hstj:=hst j hlt
  have hdj:=hdv j (by omega)
  have hdd:c.dl.getD j default=c.dl.getD j (-1):=by simp[List.getD,List.getElem?_eq_getElem (show j<c.dl.length by omega)]
  obtain ⟨cv,pv,hw,⟨k2,s2,rfl,hk2⟩,hp⟩:=hw0.w
  have ecl:((l0++restE c 0 (c.g.code.take j)).map (·.1)).length=l0.length+(restE c 0 (c.g.code.take j)).length:=by simp
  rw[ecl]at hw
  have hbb:=hw0.b
  have n1:=ne_len hw
  have n2:=ne_len hbb
  have n3:(H.length=kr)=False:=eq_false (by omega)
  have l1:=eq_true (show q.kG<H.length+1 by have:=(List.getElem?_eq_some_iff.1 hw).1;omega)
  have l2:=eq_true (show q.kB<H.length+1 by have:=(List.getElem?_eq_some_iff.1 hbb).1;omega)
  have l3:=eq_true (show kr<H.length+1 by omega)
  have n5:=ne_len hk2
  have n6:(kr=H.length)=False:=eq_false (by omega)
  have l4:=lt_of hk2
  have l5:(H.length<H.length+1)=True:=eq_true (by omega)
  have es:∀ x y:VObj,(H++[x]).set H.length y=H++[y]:=fun x y=>by simp
  have hset:((rowE c l0.length j).map I).set j (I ((l0.length+(restE c 0 (c.g.code.take j)).length:Nat):Int))=(rowE c l0.length (j+1)).map I:=by
   rw[← rowE_set c _ hlt,List.map_set]
  have o1:=ty_ne hrow hw (by simp)
  have o2:=ty_ne hrow hbb (by simp)
  have o3:=ty_ne hw hrow (by simp)
  have hcell:∀ {C:AV→Prop},cellT bl c.fn false 1 C .mk=C (.ref kr sr 0 c.g.code.length):=fun {C}=>cellT_at hbn rfl hbl
  have hdp:=hk.dp
  have hdl2:=hk.dpl
  have n7:(q.kG=H.length)=False:=eq_false (by have:=(List.getElem?_eq_some_iff.1 hw).1;omega)
  have m1:(kr=kM)=False:=eq_false (fun e=>hMr e.symm)
  have m2:=ty_ne hw hMH (by simp)
  have m3:=lt_of hMH
  have m4:(kM<H.length+1)=True:=eq_true (by have:=(List.getElem?_eq_some_iff.1 hMH).1;omega)
  have lB:=lt_of hbb
  have lW:=lt_of hw
  have lR:=eq_true hrk
  generalize hg:c.g.code.getD j default=g at *
  have eX:(H++[(⟨nx,71,1,siL g⟩:VObj)])[kr]? = some ⟨sr,3,1,(rowE c l0.length j).map I⟩:=ap_old hrow _
  have hG0:((H++[(⟨nx,71,1,siL g⟩:VObj)]).set kr ⟨sr,3,1,(rowE c l0.length (j+1)).map I⟩)[q.kG]? = some ⟨q.sG,52,1,genL c.s P q (.ref k2 s2 0 (l0.length+(restE c 0 (c.g.code.take j)).length)) pv c.fn d⟩:=by
   rw[set_ne (by have:=of_eq_false o1;omega)];exact ap_old hw _
  have hWX:GC c P (c.dl.getD j (-1)) q (((H++[(⟨nx,71,1,siL g⟩:VObj)]).set kr ⟨sr,3,1,(rowE c l0.length (j+1)).map I⟩).set q.kG ⟨q.sG,52,1,genL c.s P q (.ref k2 s2 0 (l0.length+(restE c 0 (c.g.code.take j)).length)) pv c.fn (c.dl.getD j (-1))⟩) (l0++restE c 0 (c.g.code.take j)) en bl :=
   ((hw0.keep (KeepT.app _ _ _)).keepR eX hE).setD hG0
  have hRX:(((H++[(⟨nx,71,1,siL g⟩:VObj)]).set kr ⟨sr,3,1,(rowE c l0.length (j+1)).map I⟩).set q.kG ⟨q.sG,52,1,genL c.s P q (.ref k2 s2 0 (l0.length+(restE c 0 (c.g.code.take j)).length)) pv c.fn (c.dl.getD j (-1))⟩)[kr]? = some ⟨sr,3,1,(rowE c l0.length (j+1)).map I⟩:=by
   rw[set_ne (by have:=of_eq_false o3;omega)];exact set_get eX
  have hKX:KeepR gT kr H (((H++[(⟨nx,71,1,siL g⟩:VObj)]).set kr ⟨sr,3,1,(rowE c l0.length (j+1)).map I⟩).set q.kG ⟨q.sG,52,1,genL c.s P q (.ref k2 s2 0 (l0.length+(restE c 0 (c.g.code.take j)).length)) pv c.fn (c.dl.getD j (-1))⟩) :=
   ((KeepR.of (KeepT.app _ _ _)).trans (KeepR.set _ _ _ _)).trans (KeepR.of (KeepT.set hG0 (by simp)))
  have hBX:(((H++[(⟨nx,71,1,siL g⟩:VObj)]).set kr ⟨sr,3,1,(rowE c l0.length (j+1)).map I⟩).set q.kG ⟨q.sG,52,1,genL c.s P q (.ref k2 s2 0 (l0.length+(restE c 0 (c.g.code.take j)).length)) pv c.fn (c.dl.getD j (-1))⟩)[H.length]? = some ⟨nx,71,1,siL g⟩:=by
   rw[set_ne (by have:=of_eq_false n7;omega),set_ne (by omega)];simp
  have wj:IntKind.i64.wrap ((j:Int)+1)=((j+1:Nat):Int):=by rw[i64_in (by omega) (by omega)];omega
  by_cases h0:0≤c.dl.getD j (-1)
  ·have eA:atE c j g=insE c (c.dl.getD j (-1)) g:=if_pos h0
   rw[eA]at hstj
   simp only[go_sem,eq_true (show (j:Int)<c.g.code.length by omega),hg,hw,hbb,hcell,hdp,hdd,hrow,hMH,lB,lW,lR,hk2,n6,n7,m1,m2,m3,l4,es,l1,o1,eq_true h0,List.getElem?_set,List.getElem?_append,List.length_set,List.length_append,Nat.lt_irrefl,Nat.sub_self]
   repeat ((with_reducible refine And.intro ?_ ?_);· first | omega | (rw[rowE_len];omega) | (simp;omega))
   refine look_mean ho1 ho2 ?_
   simp only[go_sem,es,hset,hBX]
   generalize (((H++[(⟨nx,71,1,siL g⟩:VObj)]).set kr ⟨sr,3,1,(rowE c l0.length (j+1)).map I⟩).set q.kG ⟨q.sG,52,1,genL c.s P q (.ref k2 s2 0 (l0.length+(restE c 0 (c.g.code.take j)).length)) pv c.fn (c.dl.getD j (-1))⟩)=HX at *
   refine mean_v hWX hk ⟨h0,hdj.2⟩ (by simp only[List.length_append];omega) _ g ho1 ho2 hn32 (fun e=>by have:=ho10 e;omega) _ fun r H2 nx2 h2 k2=>?_
   simp only[go_sem]
   rw[wj]
   exact ⟨⟨j+1,H2,nx2,c.dl.getD j (-1)⟩,⟨by simp only;omega,by simp only;rw[hstj,← List.append_assoc];exact h2,k2 _ _ hRX (by simp),(hkeep.trans hKX).trans (KeepR.of k2)⟩,by simp only;omega,Wk.mk (by simp[get_cons]) ⟨[],by simp⟩ (Nat.le_refl _)⟩
  ·have eA:atE c j g=[]:=if_neg h0
   rw[eA,List.append_nil]at hstj
   simp only[go_sem,eq_true (show (j:Int)<c.g.code.length by omega),hg,hw,hbb,hcell,hdp,hdd,hrow,lB,lW,lR,hk2,l4,es,l1,o1,eq_false h0,List.getElem?_set,List.getElem?_append,List.length_set,List.length_append,Nat.lt_irrefl,Nat.sub_self]
   repeat ((with_reducible refine And.intro ?_ ?_);· first | omega | (rw[rowE_len];omega) | (simp;omega))
   rw[hset]
   generalize (((H++[(⟨nx,71,1,siL g⟩:VObj)]).set kr ⟨sr,3,1,(rowE c l0.length (j+1)).map I⟩).set q.kG ⟨q.sG,52,1,genL c.s P q (.ref k2 s2 0 (l0.length+(restE c 0 (c.g.code.take j)).length)) pv c.fn (c.dl.getD j (-1))⟩)=HX at *
   rw[wj]
   exact ⟨⟨j+1,HX,nx+1,c.dl.getD j (-1)⟩,⟨by simp only;omega,by simp only;rw[hstj];exact hWX,hRX,hkeep.trans hKX⟩,by simp only;omega,Wk.mk (by simp[get_cons]) ⟨[],by simp⟩ (Nat.le_refl _)⟩
 ·obtain rfl:j=c.g.code.length:=by omega
  rw[List.take_of_length_le (Nat.le_refl _)]at hw0
  simp only[go_sem,eq_false (show ¬ (c.g.code.length:Int)<c.g.code.length by omega)]
  exact hC _ _ _ _ hw0 hrow hkeep
set_option maxRecDepth 10000
open Go.V
def KeepG (q:GI) (H H':List VObj):Prop:=∀ (i:Nat) (ob:VObj),H[i]? = some ob→ob.ty ∉ gT→i≠q.kE→i≠q.kB→H'[i]? = some ob
theorem KeepG.of {q:GI} {H H':List VObj} (h:KeepT gT H H'):KeepG q H H':=fun i ob h1 h2 _ _=>h i ob h1 h2
theorem KeepG.trans {q:GI} {A B C:List VObj} (h:KeepG q A B) (k:KeepG q B C):KeepG q A C:=fun i ob h1 h2 h3 h4=>k i ob (h i ob h1 h2 h3 h4) h2 h3 h4
theorem GH.setB {s:SP} {P:PL} {f d:Int} {q:GI} {H:List VObj} {code:List Ci} {sp:List Sp} {en:List Int} {bl:List AV} (h:GH s P f d q H code sp en bl) (bl':List AV):GH s P f d q (H.set q.kB ⟨q.sB,44,1,bl'⟩) code sp en bl':=by
 obtain ⟨cv,pv,hw,⟨k1,s1,e1,hc⟩,⟨k2,s2,e2,hp⟩⟩:=h.w
 have hb:=h.b
 have t:∀ {i:Nat} {ob:VObj},H[i]? = some ob→ob.ty≠44→(H.set q.kB ⟨q.sB,44,1,bl'⟩)[i]? = some ob:=fun {i ob} h1 h2=>by
  rw[set_ne (fun e=>by subst e;rw[hb]at h1;cases h1;exact h2 rfl)];exact h1
 exact ⟨⟨cv,pv,t hw (by simp),⟨k1,s1,e1,t hc (by simp)⟩,⟨k2,s2,e2,t hp (by simp)⟩⟩,t h.e (by simp),set_get hb⟩
theorem GH.setE {s:SP} {P:PL} {f d:Int} {q:GI} {H:List VObj} {code:List Ci} {sp:List Sp} {en:List Int} {bl:List AV} (h:GH s P f d q H code sp en bl) (en':List Int):GH s P f d q (H.set q.kE ⟨q.sE,3,1,en'.map I⟩) code sp en' bl:=by
 obtain ⟨cv,pv,hw,⟨k1,s1,e1,hc⟩,⟨k2,s2,e2,hp⟩⟩:=h.w
 have he:=h.e
 have t:∀ {i:Nat} {ob:VObj} {o:VObj},H[i]? = some ob→ob.ty≠3→(H.set q.kE o)[i]? = some ob:=fun {i ob o} h1 h2=>by
  rw[set_ne (fun e=>by subst e;rw[he]at h1;cases h1;exact h2 rfl)];exact h1
 exact ⟨⟨cv,pv,t hw (by simp),⟨k1,s1,e1,t hc (by simp)⟩,⟨k2,s2,e2,t hp (by simp)⟩⟩,set_get he,t h.b (by simp)⟩
section
variable {c:Ex} {P:PL} {d:Int} {q:GI} {H:List VObj} {l:List Sy} {en:List Int} {bl:List AV}
theorem fun_D (h:GC c P d q H l en bl) (hk:ExOk P c) (hf:FOk c) (hl:l.length≤100000) (hbl:bl.length=c.s.funcs.length) (hb1:∀ x ∈ bl,x.one=true)
 {kF sF kM sM:Nat} (hF:H[kF]? = some ⟨sF,74,1,sfL c.g⟩) (hM:H[kM]? = some ⟨sM,0,0,meanC⟩) (nx:Nat) (C:AV→List VObj→Nat→Prop)
 (hC:∀ r H' nx' kr sr d,GC c P d q H' (l++restE c 0 c.g.code) en (bl.set c.fn (.ref kr sr 0 c.g.code.length))→H'[kr]? = some ⟨sr,3,1,(rowE c l.length c.g.code.length).map I⟩→kr≠q.kE→KeepG q H H'→C r H' nx') :
 VWs Tryz.prog (tailC 4 c_emit_generator_function) (retQ Tryz.prog [] C) ⟨[(0,.ptr q.kG q.sG 0),(1,I c.fn),(2,.mref kM sM),(6,.ptr kF sF 0)],H,nx⟩:=by
 have hmx:(200000:Nat)≤maxLen:=by decide
 have hfl:=hk.fl
 have hlt:=hf.lt
 obtain ⟨cv,pv,hw,⟨k2,s2,rfl,hk2⟩,hp⟩:=h.w
 have hbb:=h.b
 have n1:=ne_len hw
 have n2:=ne_len hbb
 have n3:=ne_len hF
 have l1:=lt_of hw
 have l2:=lt_of hbb
 have l3:=lt_of hF
 simp only[tailC,c_emit_generator_function,go_sem,VWs_seq,hF,hw,hbb,l1,l2,l3,List.getElem?_append]
 repeat ((with_reducible refine And.intro ?_ ?_);· first | omega | (simp;omega) | exact ⟨by omega,by omega,rfl,rfl⟩)
 have eR:(List.replicate c.g.code.length [AV.val (.int .i64 0)]).flatten=(rowE c l.length 0).map I:=by rw[flat_rep,rowE_zero,List.map_replicate]
 rw[eR]
 have hfin:=fun_E (d0:=d) (kr:=H.length) (sr:=nx) (kF:=kF) (sF:=sF) (kM:=kM) (sM:=sM) (H0:=(H++[(⟨nx,3,1,(rowE c l.length 0).map I⟩:VObj)]).set q.kB ⟨q.sB,44,1,bl.set c.fn (.ref H.length nx 0 c.g.code.length)⟩) ((h.keep (KeepT.app _ _ _)).setB (bl.set c.fn (.ref H.length nx 0 c.g.code.length))) hk hf hl
  (by rw[List.getD,List.getElem?_set_self (by omega)];rfl) (by rw[List.length_set];omega) (by rw[set_ne (by have:=of_eq_true l2;omega)];simp) (by have:=(List.getElem?_eq_some_iff.1 h.e).1;omega)
  (by rw[set_ne (fun e=>by rw[e]at hbb;rw[hF]at hbb;cases hbb)];exact ap_old hF _) (by rw[set_ne (fun e=>by rw[e]at hbb;rw[hM]at hbb;cases hbb)];exact ap_old hM _) (nx+1) C (fun r H' nx' d' h1 h2 h3=>hC r H' nx' H.length nx d' h1 h2 (by have:=(List.getElem?_eq_some_iff.1 h.e).1;omega) fun i ob i1 i2 i3 i4=>h3 i ob (by rw[set_ne (fun e=>i4 e.symm)];exact ap_old i1 _) i2 (by have:=(List.getElem?_eq_some_iff.1 i1).1;omega))
 simp only[tailC,c_emit_generator_function]at hfin
 refine ⟨_,?_,hfin⟩
 exact Wk.mk (by simp[get_cons]) ⟨[],by simp⟩ (Nat.le_refl _)
theorem clearE_len (n0:Nat) (a b:Int):(clearE n0 a b).length≤6:=by
 unfold clearE
 split
 ·simp[zerosE];omega
 ·simp
theorem headE_len (c:Ex) (n0:Nat):(headE c n0).length≤7:=by
 have:=clearE_len (n0+1) (c.g.first+c.g.params) (c.g.first+c.g.slots)
 unfold headE
 split<;>simp<;>omega
theorem fun_B (h:GC c P d q H l en bl) (hk:ExOk P c) (hf:FOk c) (hl:l.length≤90000) (hbl:bl.length=c.s.funcs.length) (hb1:∀ x ∈ bl,x.one=true)
 {kF sF kM sM:Nat} (hF:H[kF]? = some ⟨sF,74,1,sfL c.g⟩) (hM:H[kM]? = some ⟨sM,0,0,meanC⟩) (nx:Nat) (C:AV→List VObj→Nat→Prop)
 (hC:∀ r H' nx' kr sr d,GC c P d q H' (l++funE c l.length) en (bl.set c.fn (.ref kr sr 0 c.g.code.length))→H'[kr]? = some ⟨sr,3,1,(rowE c (l.length+(headE c l.length).length) c.g.code.length).map I⟩→kr≠q.kE→KeepG q H H'→C r H' nx') :
 VWs Tryz.prog (tailC 3 c_emit_generator_function) (retQ Tryz.prog [] C) ⟨[(0,.ptr q.kG q.sG 0),(1,I c.fn),(2,.mref kM sM),(6,.ptr kF sF 0)],H,nx⟩:=by
 have h64:=hk.fs
 have hfl:=hk.fl
 have hbk:=hk.bk
 have hbkl:=hk.bkl
 have hw0:=hk.w0
 obtain ⟨hp0,hps,hf0,hsw,hfs⟩:=hk.fn c.fn hfl
 rw[show c.s.fn c.fn=c.g from rfl]at hp0 hps hf0 hsw hfs
 have w1:IntKind.i64.wrap ((c.s.funcs.length:Int)-1)=(c.s.funcs.length:Int)-1:=i64_in (by omega) (by omega)
 have w2:IntKind.i64.wrap (c.g.first+c.g.params)=c.g.first+c.g.params:=i64_in (by omega) (by omega)
 have w3:IntKind.i64.wrap (c.g.first+c.g.slots)=c.g.first+c.g.slots:=i64_in (by omega) (by omega)
 obtain ⟨cv,pv,hw,hcc,hp⟩:=h.w
 have hhl:=headE_len c l.length
 by_cases hlast:(c.fn:Int)=(c.s.funcs.length:Int)-1
 ·have eh:headE c l.length=[]:=by unfold headE;rw[if_pos hlast]
  simp only[tailC,c_emit_generator_function,go_sem,VWs_seq,hw,w1,show ((c.fn:Int) != (c.s.funcs.length:Int)-1)=false from by simp[hlast]]
  have hfin:=fun_D h hk hf (by omega) hbl hb1 hF hM nx C (fun r H' nx' kr sr d' h1 h2 h3 h4=>by
   refine hC r H' nx' kr sr d' (by unfold funE;rw[eh];exact h1) (by rw[eh];exact h2) h3 h4)
  simp only[tailC,c_emit_generator_function]at hfin
  refine ⟨_,?_,hfin⟩
  exact Wk.mk (by simp[get_cons]) ⟨[],by simp⟩ (Nat.le_refl _)
 ·have eh:headE c l.length=[pY 17 14 0 c.back]++clearE (l.length+1) (c.g.first+c.g.params) (c.g.first+c.g.slots):=by unfold headE;rw[if_neg hlast]
  simp only[tailC,c_emit_generator_function,go_sem,VWs_seq,hw,w1,hbk,eq_false hlast]
  repeat ((with_reducible refine And.intro ?_ ?_);· first | omega | (simp;omega))
  refine putG_v h (by omega) _ _ _ _ _ _ fun r H2 nx2 h2 k2=>?_
  have hF2:=k2 _ _ hF (by simp)
  have hM2:=k2 _ _ hM (by simp)
  simp only[go_sem,hF2,w2,w3]
  refine clear_v h2 (by simp;omega) _ _ _ (by omega) (by omega) _ fun r H3 nx3 h3 k3=>?_
  have el:(l++[pY 17 14 0 c.back]).length=l.length+1:=by simp
  rw[el,List.append_assoc,← eh]at h3
  simp only[go_sem]
  have hfin:=fun_D h3 hk hf (by rw[List.length_append];omega) hbl hb1 (k3 _ _ hF2 (by simp)) (k3 _ _ hM2 (by simp)) nx3 C (fun r H' nx' kr sr d' h1 h2 h3 h4=>by
   refine hC r H' nx' kr sr d' (by unfold funE;rw[← List.append_assoc];exact h1) (by rw[← List.length_append];exact h2) h3 ((KeepG.of (k2.trans k3)).trans h4))
  simp only[tailC,c_emit_generator_function]at hfin
  refine ⟨_,?_,hfin⟩
  exact Wk.mk (by simp[get_cons]) ⟨[],by simp⟩ (Nat.le_refl _)
end
theorem function_v {f0 d0:Int} {c:Ex} {P:PL} {q:GI} {H:List VObj} {l:List Sy} {en:List Int} {bl:List AV} (h:GH c.s P f0 d0 q H (l.map (·.1)) (spotL 0 l) en bl) (hk:ExOk P c) (hf:FOk c) (hl:l.length≤90000)
 (hen:en.length=c.s.funcs.length) (hbl:bl.length=c.s.funcs.length) (hb1:∀ x ∈ bl,x.one=true) {kM sM:Nat} (hM:H[kM]? = some ⟨sM,0,0,meanC⟩) (nx:Nat) (C:AV→List VObj→Nat→Prop)
 (hC:∀ r H' nx' kr sr d,GC c P d q H' (l++funE c l.length) (en.set c.fn (l.length:Nat)) (bl.set c.fn (.ref kr sr 0 c.g.code.length))→H'[kr]? = some ⟨sr,3,1,(rowE c (l.length+(headE c l.length).length) c.g.code.length).map I⟩→kr≠q.kE→KeepG q H H'→C r H' nx') :
 VCall Tryz.prog 35 [.ptr q.kG q.sG 0,I c.fn,.mref kM sM] H nx C:=by
 have hq:=f_emit_generator_function
 unfold compF compFp at hq
 refine VCall.of_bodyS (pt:=false) (pf:=false) hmix hq (by simp) ?_
 have hfl:=hk.fl
 have hfe:c.s.funcs.getD c.fn default=c.g:=rfl
 obtain ⟨cv,pv,hw,hcc,hp⟩:=h.w
 have n1:=ne_len hw
 have n2:=ne_len' hw
 have l1:=lt_of hw
 simp only[c_emit_generator_function,go_sem,VWs_seq,hw,hfe,List.getElem?_append,Nat.lt_irrefl,Nat.sub_self]
 refine ⟨hfl,?_⟩
 have hF:(H++[(⟨nx,74,1,sfL c.g⟩:VObj)])[H.length]? = some ⟨nx,74,1,sfL c.g⟩:=by simp
 have hK:KeepT [] H (H++[(⟨nx,74,1,sfL c.g⟩:VObj)]):=KeepT.app _ _ _
 have hW1:=h.keep hK
 have hw1:=hK _ _ hw (by simp)
 have hM1:=hK _ _ hM (by simp)
 generalize hH1:(H++[(⟨nx,74,1,sfL c.g⟩:VObj)])=H1 at *
 refine ⟨⟨[(0,.ptr q.kG q.sG 0),(1,I c.fn),(2,.mref kM sM),(6,.ptr H.length nx 0)],H1,nx+1⟩,Wk.mk (by simp[get_cons]) ⟨[],by simp[← hH1]⟩ (Nat.le_refl _),?_⟩
 generalize H.length=kF at *
 have l2:=lt_of hw1
 simp only[go_sem,VWs_seq,hw1]
 have hW2:GC c P d0 q (H1.set q.kG ⟨q.sG,52,1,genL c.s P q cv pv c.fn d0⟩) l en bl:=hW1.setD hw1
 have hF2:(H1.set q.kG ⟨q.sG,52,1,genL c.s P q cv pv c.fn d0⟩)[kF]? = some ⟨nx,74,1,sfL c.g⟩:=by
  rw[set_ne (fun e=>by rw[e]at hw1;rw[hF]at hw1;simp at hw1)];exact hF
 have hM2:(H1.set q.kG ⟨q.sG,52,1,genL c.s P q cv pv c.fn d0⟩)[kM]? = some ⟨sM,0,0,meanC⟩:=by
  rw[set_ne (fun e=>by rw[e]at hw1;rw[hM1]at hw1;simp at hw1)];exact hM1
 have hK2:KeepT gT H (H1.set q.kG ⟨q.sG,52,1,genL c.s P q cv pv c.fn d0⟩):=(hK.mono (by simp)).trans (KeepT.set hw1 (by simp))
 refine ⟨⟨[(0,.ptr q.kG q.sG 0),(1,I c.fn),(2,.mref kM sM),(6,.ptr kF nx 0)],H1.set q.kG ⟨q.sG,52,1,genL c.s P q cv pv c.fn d0⟩,nx+1⟩,Wk.mk (by simp[get_cons]) ⟨[],by simp⟩ (Nat.le_refl _),?_⟩
 generalize H1.set q.kG ⟨q.sG,52,1,genL c.s P q cv pv c.fn d0⟩=H2 at *
 obtain ⟨cw,pw,hw2,⟨k2,s2,rfl,hk2⟩,hp2⟩:=hW2.w
 have he2:=hW2.e
 have l3:=lt_of he2
 have l4:=lt_of hw2
 simp only[go_sem,VWs_seq,he2,hw2,hk2]
 repeat ((with_reducible refine And.intro ?_ ?_);· first | omega | (simp;omega) | exact ⟨by omega,by omega,rfl,rfl⟩)
 rw[← List.map_set]
 have hfin:=fun_B (kF:=kF) (sF:=nx) (H:=H2.set q.kE ⟨q.sE,3,1,(en.set c.fn (l.length:Nat)).map I⟩) (hW2.setE (en.set c.fn (l.length:Nat))) hk hf hl hbl hb1 (by rw[set_ne (fun e=>by rw[e]at he2;rw[hF2]at he2;simp at he2)];exact hF2) (by rw[set_ne (fun e=>by rw[e]at he2;rw[hM2]at he2;simp at he2)];exact hM2) (nx+1) C (fun r H' nx' kr sr d' h1 h2 h3 h4=>hC r H' nx' kr sr d' h1 h2 h3 fun i ob i1 i2 i3 i4=>h4 i ob (by rw[set_ne (fun e=>i3 e.symm)];exact hK2 _ _ i1 i2) i2 i3 i4)
 simp only[tailC,c_emit_generator_function]at hfin
 refine ⟨_,?_,hfin⟩
 exact Wk.mk (by simp[get_cons]) ⟨[],by simp⟩ (Nat.le_refl _)
set_option maxRecDepth 10000
open Go.V
noncomputable def dlsS (s:SP) (f:Nat):List (List Int):=(List.range f).map (depS s)
noncomputable def bksS (s:SP) (f:Nat):List Int:=(List.range f).map (datE s)
noncomputable def bssS (s:SP) (f:Nat):List Int:=(List.range f).map (baseE s)
noncomputable def planS (s:SP) (f:Nat):PL:=⟨dlsS s f,bksS s f,bssS s f,datE s f⟩
structure PG (s:SP) (kd kb ks:Nat) (H:List VObj) (w:List AV) (sd:Nat) (cd:List AV) (sb:Nat) (cb:List AV) (ss:Nat) (cs:List AV):Prop where
 h0:H[0]? = some ⟨0,24,1,[I s.words,fnsA s.funcs]⟩
 h1:H[1]? = some ⟨1,46,1,[nilv,nilv,nilv,I 0]⟩
 h2:H[2]? = some ⟨2,46,1,w⟩
 d:H[kd]? = some ⟨sd,44,1,cd⟩
 b:H[kb]? = some ⟨sb,3,1,cb⟩
 s:H[ks]? = some ⟨ss,3,1,cs⟩
 bs:kb≠ks
section
variable {s:SP} {kd kb ks sd sb ss:Nat} {H:List VObj} {w cd cb cs:List AV}
theorem PG.set2 (h:PG s kd kb ks H w sd cd sb cb ss cs) (w':List AV):PG s kd kb ks (H.set 2 ⟨2,46,1,w'⟩) w' sd cd sb cb ss cs:=by
 obtain ⟨h0,h1,h2,d,b,s',bs⟩:=h
 have t:∀ {i:Nat} {ob:VObj},H[i]? = some ob→ob.ty≠46→(H.set 2 ⟨2,46,1,w'⟩)[i]? = some ob:=fun {i ob} g1 g2=>by
  rw[set_ne (fun e=>by subst e;rw[h2]at g1;cases g1;exact g2 rfl)];exact g1
 exact ⟨t h0 (by simp),by rw[set_ne (by decide)];exact h1,set_get h2,t d (by simp),t b (by simp),t s' (by simp),bs⟩
theorem PG.appD (h:PG s kd kb ks H w sd cd sb cb ss cs) (x:VObj) (sd':Nat) (cd':List AV):PG s kd kb ks ((H++[x]).set kd ⟨sd',44,1,cd'⟩) w sd' cd' sb cb ss cs:=by
 obtain ⟨h0,h1,h2,d,b,s',bs⟩:=h
 have t:∀ {i:Nat} {ob:VObj},H[i]? = some ob→ob.ty≠44→((H++[x]).set kd ⟨sd',44,1,cd'⟩)[i]? = some ob:=fun {i ob} g1 g2=>by
  rw[set_ne (fun e=>by subst e;rw[d]at g1;cases g1;exact g2 rfl)];exact ap_old g1 _
 exact ⟨t h0 (by simp),t h1 (by simp),t h2 (by simp),set_get (ap_old d _),t b (by simp),t s' (by simp),bs⟩
theorem PG.appB (h:PG s kd kb ks H w sd cd sb cb ss cs) (x:VObj) (sb':Nat) (cb':List AV):PG s kd kb ks ((H++[x]).set kb ⟨sb',3,1,cb'⟩) w sd cd sb' cb' ss cs:=by
 obtain ⟨h0,h1,h2,d,b,s',bs⟩:=h
 have t:∀ {i:Nat} {ob:VObj},H[i]? = some ob→ob.ty≠3→((H++[x]).set kb ⟨sb',3,1,cb'⟩)[i]? = some ob:=fun {i ob} g1 g2=>by
  rw[set_ne (fun e=>by subst e;rw[b]at g1;cases g1;exact g2 rfl)];exact ap_old g1 _
 exact ⟨t h0 (by simp),t h1 (by simp),t h2 (by simp),t d (by simp),set_get (ap_old b _),by rw[set_ne bs];exact ap_old s' _,bs⟩
theorem PG.appS (h:PG s kd kb ks H w sd cd sb cb ss cs) (x:VObj) (ss':Nat) (cs':List AV):PG s kd kb ks ((H++[x]).set ks ⟨ss',3,1,cs'⟩) w sd cd sb cb ss' cs':=by
 obtain ⟨h0,h1,h2,d,b,s',bs⟩:=h
 have t:∀ {i:Nat} {ob:VObj},H[i]? = some ob→ob.ty≠3→((H++[x]).set ks ⟨ss',3,1,cs'⟩)[i]? = some ob:=fun {i ob} g1 g2=>by
  rw[set_ne (fun e=>by subst e;rw[s']at g1;cases g1;exact g2 rfl)];exact ap_old g1 _
 exact ⟨t h0 (by simp),t h1 (by simp),t h2 (by simp),t d (by simp),by rw[set_ne (fun e=>bs e.symm)];exact ap_old b _,set_get (ap_old s' _),bs⟩
end
def PH (s:SP) (f:Nat) (dat:Int) (H:List VObj):Prop:=∃ kd sd kb sb ks ss,PG s kd kb ks H [.ref kd sd 0 f,.ref kb sb 0 f,.ref ks ss 0 f,I dat] sd ((dlsS s f).map ints) sb ((bksS s f).map I) ss ((bssS s f).map I)
theorem fold_max (l:List Int) (k:Nat) (hk:k<l.length):dpE (l.take (k+1))=if dpE (l.take k)<l.getD k default then l.getD k default else dpE (l.take k):=by
 unfold dpE
 rw[List.take_add_one,List.foldl_append]
 simp only[List.getD,List.getElem?_eq_getElem hk,Option.toList_some,List.foldl_cons,List.foldl_nil,Option.getD_some]
 split<;>omega
theorem fold_bd (l:List Int) (N:Int) (hN:0≤N) (h:∀ x ∈ l,x≤N):0≤dpE l∧dpE l≤N:=by
 unfold dpE
 have:∀ (l:List Int) (a:Int),0≤a∧a≤N→(∀ x ∈ l,x≤N)→0≤l.foldl max a∧l.foldl max a≤N:=fun l=>by
  induction l with
  | nil=>intro a ha _;exact ha
  | cons x l ih=>intro a ha hx;exact ih (max a x) ⟨by omega,by have:=hx x (by simp);omega⟩ fun y hy=>hx y (by simp[hy])
 exact this l 0 ⟨Int.le_refl _,hN⟩ h
structure PQ where
 f:Nat
 H:List VObj
 nx:Nat
theorem plan_c (s:SP) (hs:InP s) (hR:RightP s) (hB:∀ f≤s.funcs.length,0≤datE s f∧datE s f≤100000) (hD:∀ f<s.funcs.length,(depS s f).length≤100000∧∀ x ∈ depS s f,x≤100000):Contract Tryz.prog 16 [spA s] (fun r=>r=planA (planS s s.funcs.length)):=by
 refine Contract.of_call (VCall.of_body hmix f_emit_planOf (by simp) ?_)
 have hmx:(200000:Nat)≤maxLen:=by decide
 have h64:=hR.n1
 have h1n:=hR.n0
 have w1:IntKind.i64.wrap ((s.funcs.length:Int)-1)=(s.funcs.length:Int)-1:=i64_in (by omega) (by omega)
 simp only[go_sem,c_emit_planOf,w1]
 have v1:=virt_at (env:=[(1,.ptr 0 0 0),(2,.ptr 1 1 0),(3,.ptr 2 2 0),(4,I ((s.funcs.length:Int)-1)),(20,I s.funcs.length),(21,I 0)]) (H:=[⟨0,24,1,[I s.words,fnsA s.funcs]⟩,⟨1,46,1,[nilv,nilv,nilv,I 0]⟩,⟨2,46,1,[nilv,nilv,nilv,I s.words]⟩]) (nx:=3) (i:=2)
  (cs':=[.ref 3 3 0 0,nilv,nilv,I s.words]) 44 1 (by decide) (by simp[get_cons]) rfl (by simp) rfl (fun j x y hx hy=>by
   match j with
   | 0=>simp at hx hy;subst hx;subst hy;exact .inr ⟨rfl,by simp⟩
   | 1=>simp at hx hy;subst hx;subst hy;exact .inl rfl
   | 2=>simp at hx hy;subst hx;subst hy;exact .inl rfl
   | 3=>simp at hx hy;subst hx;subst hy;exact .inl rfl
   | j+4=>simp at hx)
 have v2:=virt_at (env:=[(1,.ptr 0 0 0),(2,.ptr 1 1 0),(3,.ptr 2 2 0),(4,I ((s.funcs.length:Int)-1)),(20,I s.funcs.length),(21,I 0)]) (H:=[⟨0,24,1,[I s.words,fnsA s.funcs]⟩,⟨1,46,1,[nilv,nilv,nilv,I 0]⟩,⟨2,46,1,[.ref 3 3 0 0,nilv,nilv,I s.words]⟩,⟨3,44,1,[]⟩]) (nx:=4) (i:=2)
  (cs':=[.ref 3 3 0 0,.ref 4 4 0 0,nilv,I s.words]) 3 1 (by decide) (by simp[get_cons]) rfl (by simp) rfl (fun j x y hx hy=>by
   match j with
   | 0=>simp at hx hy;subst hx;subst hy;exact .inl rfl
   | 1=>simp at hx hy;subst hx;subst hy;exact .inr ⟨rfl,by simp⟩
   | 2=>simp at hx hy;subst hx;subst hy;exact .inl rfl
   | 3=>simp at hx hy;subst hx;subst hy;exact .inl rfl
   | j+4=>simp at hx)
 have v3:=virt_at (env:=[(1,.ptr 0 0 0),(2,.ptr 1 1 0),(3,.ptr 2 2 0),(4,I ((s.funcs.length:Int)-1)),(20,I s.funcs.length),(21,I 0)]) (H:=[⟨0,24,1,[I s.words,fnsA s.funcs]⟩,⟨1,46,1,[nilv,nilv,nilv,I 0]⟩,⟨2,46,1,[.ref 3 3 0 0,.ref 4 4 0 0,nilv,I s.words]⟩,⟨3,44,1,[]⟩,⟨4,3,1,[]⟩]) (nx:=5) (i:=2)
  (cs':=[.ref 3 3 0 0,.ref 4 4 0 0,.ref 5 5 0 0,I s.words]) 3 1 (by decide) (by simp[get_cons]) rfl (by simp) rfl (fun j x y hx hy=>by
   match j with
   | 0=>simp at hx hy;subst hx;subst hy;exact .inl rfl
   | 1=>simp at hx hy;subst hx;subst hy;exact .inl rfl
   | 2=>simp at hx hy;subst hx;subst hy;exact .inr ⟨rfl,by simp⟩
   | 3=>simp at hx hy;subst hx;subst hy;exact .inl rfl
   | j+4=>simp at hx)
 refine VW_loop (fun x:PQ=>⟨[(1,.ptr 0 0 0),(2,.ptr 1 1 0),(3,.ptr 2 2 0),(4,I ((s.funcs.length:Int)-1)),(20,I s.funcs.length),(21,I x.f)],x.H,x.nx⟩)
  (fun x=>x.f≤s.funcs.length∧PH s x.f (datE s x.f) x.H) (fun x=>s.funcs.length-x.f) ⟨0,[⟨0,24,1,[I s.words,fnsA s.funcs]⟩,⟨1,46,1,[nilv,nilv,nilv,I 0]⟩,⟨2,46,1,[.ref 3 3 0 0,.ref 4 4 0 0,.ref 5 5 0 0,I s.words]⟩,⟨3,44,1,[]⟩,⟨4,3,1,[]⟩,⟨5,3,1,[]⟩],6⟩
  (Wk.trans (b:=⟨[(1,.ptr 0 0 0),(2,.ptr 1 1 0),(3,.ptr 2 2 0),(4,I ((s.funcs.length:Int)-1)),(20,I s.funcs.length),(21,I 0)],[⟨0,24,1,[I s.words,fnsA s.funcs]⟩,⟨1,46,1,[nilv,nilv,nilv,I 0]⟩,⟨2,46,1,[nilv,nilv,nilv,I s.words]⟩],3⟩) (Wk.mk (by simp[get_cons]) ⟨[],rfl⟩ (Nat.le_refl _)) (v1.trans (v2.trans v3))) ⟨Nat.zero_le _,⟨3,3,4,4,5,5,rfl,rfl,rfl,rfl,rfl,rfl,by decide⟩⟩ ?_
 rintro ⟨f,H,nx⟩ ⟨hf,kd,sd,kb,sb,ks,ss,hg⟩
 simp only at hf hg
 have h0:=hg.h0
 have h1:=hg.h1
 have h2:=hg.h2
 have hd:=hg.d
 have hb:=hg.b
 have hs2:=hg.s
 by_cases hlt:f<s.funcs.length
 ·have hBf:=hB f (by omega)
  obtain ⟨hdl,hdx⟩:=hD f hlt
  simp only[go_sem,eq_true (show (f:Int)<s.funcs.length by omega),h0]
  refine VCall.of_contract (sdepths_c s hs f hlt) (SleL.pure rfl) fun r hr=>?_
  obtain ⟨dl,ok,rfl,hok⟩:=hr
  obtain ⟨out,hout⟩:=(hR.fn f hlt).sol
  obtain rfl:ok=true:=(hok.2 out hout).1
  obtain rfl:=depS_eq hok
  have hfl:f≤64:=by omega
  have es:∀ (K:List VObj) (x y:VObj),(K++[x]).set K.length y=K++[y]:=fun K x y=>by simp
  have eg:∀ (K:List VObj) (x:VObj),(K++[x])[K.length]? = some x:=fun K x=>by simp
  have eo:∀ {K:List VObj} {k:Nat} {o:VObj},K[k]? = some o→∀ x:VObj,(K++[x])[k]? = some o:=fun h x=>ap_old h _
  have td:List.take f ((dlsS s f).map ints)++[ints (depS s f)]=(dlsS s (f+1)).map ints:=by rw[List.take_of_length_le (by simp[dlsS])];simp[dlsS,List.range_succ]
  have tb:List.take f ((bksS s f).map I)++[I (datE s f)]=(bksS s (f+1)).map I:=by rw[List.take_of_length_le (by simp[bksS])];simp[bksS,List.range_succ]
  have tS:List.take f ((bssS s f).map I)++[I (baseE s f)]=(bssS s (f+1)).map I:=by rw[List.take_of_length_le (by simp[bssS])];simp[bssS,List.range_succ]
  have gA:PG s kd kb ks ((H++[(⟨nx,44,1,[ints (depS s f)]⟩:VObj)]).set kd ⟨nx+1,44,1,(dlsS s (f+1)).map ints⟩) _ _ _ _ _ _ _:=hg.appD ⟨nx,44,1,[ints (depS s f)]⟩ (nx+1) ((dlsS s (f+1)).map ints)
  have gB:PG s kd kb ks (((H++[(⟨nx,44,1,[ints (depS s f)]⟩:VObj)]).set kd ⟨nx+1,44,1,(dlsS s (f+1)).map ints⟩).set 2 ⟨2,46,1,[.ref kd (nx+1) 0 (f+1),.ref kb sb 0 f,.ref ks ss 0 f,I (datE s f)]⟩) _ _ _ _ _ _ _:=gA.set2 [.ref kd (nx+1) 0 (f+1),.ref kb sb 0 f,.ref ks ss 0 f,I (datE s f)]
  have gC:PG s kd kb ks (((((H++[(⟨nx,44,1,[ints (depS s f)]⟩:VObj)]).set kd ⟨nx+1,44,1,(dlsS s (f+1)).map ints⟩).set 2 ⟨2,46,1,[.ref kd (nx+1) 0 (f+1),.ref kb sb 0 f,.ref ks ss 0 f,I (datE s f)]⟩)++[(⟨nx+1+1,3,1,[I (datE s f)]⟩:VObj)]).set kb ⟨nx+1+1+1,3,1,(bksS s (f+1)).map I⟩) _ _ _ _ _ _ _:=gB.appB ⟨nx+1+1,3,1,[I (datE s f)]⟩ (nx+1+1+1) ((bksS s (f+1)).map I)
  have gD:PG s kd kb ks ((((((H++[(⟨nx,44,1,[ints (depS s f)]⟩:VObj)]).set kd ⟨nx+1,44,1,(dlsS s (f+1)).map ints⟩).set 2 ⟨2,46,1,[.ref kd (nx+1) 0 (f+1),.ref kb sb 0 f,.ref ks ss 0 f,I (datE s f)]⟩)++[(⟨nx+1+1,3,1,[I (datE s f)]⟩:VObj)]).set kb ⟨nx+1+1+1,3,1,(bksS s (f+1)).map I⟩).set 2 ⟨2,46,1,[.ref kd (nx+1) 0 (f+1),.ref kb (nx+1+1+1) 0 (f+1),.ref ks ss 0 f,I (datE s f)]⟩) _ _ _ _ _ _ _:=gC.set2 [.ref kd (nx+1) 0 (f+1),.ref kb (nx+1+1+1) 0 (f+1),.ref ks ss 0 f,I (datE s f)]
  by_cases hl:(f:Int)=(s.funcs.length:Int)-1
  ·have eb:baseE s f=datE s f:=by unfold baseE;rw[if_pos (by omega)];omega
   rw[eb]at tS
   have en:((f:Int) != (s.funcs.length:Int)-1)=false:=by simp[hl]
   have gF:PG s kd kb ks ((((((((H++[(⟨nx,44,1,[ints (depS s f)]⟩:VObj)]).set kd ⟨nx+1,44,1,(dlsS s (f+1)).map ints⟩).set 2 ⟨2,46,1,[.ref kd (nx+1) 0 (f+1),.ref kb sb 0 f,.ref ks ss 0 f,I (datE s f)]⟩)++[(⟨nx+1+1,3,1,[I (datE s f)]⟩:VObj)]).set kb ⟨nx+1+1+1,3,1,(bksS s (f+1)).map I⟩).set 2 ⟨2,46,1,[.ref kd (nx+1) 0 (f+1),.ref kb (nx+1+1+1) 0 (f+1),.ref ks ss 0 f,I (datE s f)]⟩)++[(⟨nx+1+1+1+1,3,1,[I (datE s f)]⟩:VObj)]).set ks ⟨nx+1+1+1+1+1,3,1,(bssS s (f+1)).map I⟩) _ _ _ _ _ _ _:=gD.appS ⟨nx+1+1+1+1,3,1,[I (datE s f)]⟩ (nx+1+1+1+1+1) ((bssS s (f+1)).map I)
   have gG:PG s kd kb ks (((((((((H++[(⟨nx,44,1,[ints (depS s f)]⟩:VObj)]).set kd ⟨nx+1,44,1,(dlsS s (f+1)).map ints⟩).set 2 ⟨2,46,1,[.ref kd (nx+1) 0 (f+1),.ref kb sb 0 f,.ref ks ss 0 f,I (datE s f)]⟩)++[(⟨nx+1+1,3,1,[I (datE s f)]⟩:VObj)]).set kb ⟨nx+1+1+1,3,1,(bksS s (f+1)).map I⟩).set 2 ⟨2,46,1,[.ref kd (nx+1) 0 (f+1),.ref kb (nx+1+1+1) 0 (f+1),.ref ks ss 0 f,I (datE s f)]⟩)++[(⟨nx+1+1+1+1,3,1,[I (datE s f)]⟩:VObj)]).set ks ⟨nx+1+1+1+1+1,3,1,(bssS s (f+1)).map I⟩).set 2 ⟨2,46,1,[.ref kd (nx+1) 0 (f+1),.ref kb (nx+1+1+1) 0 (f+1),.ref ks (nx+1+1+1+1+1) 0 (f+1),I (datE s f)]⟩) _ _ _ _ _ _ _:=gF.set2 [.ref kd (nx+1) 0 (f+1),.ref kb (nx+1+1+1) 0 (f+1),.ref ks (nx+1+1+1+1+1) 0 (f+1),I (datE s f)]
   simp only[go_sem,eg,List.all_cons,List.all_nil,td,tb,tS,h2,eo hd,gA.h2,gB.h2,eo gB.b,gC.h2,gD.h2,eo gD.s,gF.h2,en]
   refine ⟨by omega,by omega,by omega,by omega,by omega,by omega,?_⟩
   have gK:∃ K,K=(((((((((H++[(⟨nx,44,1,[ints (depS s f)]⟩:VObj)]).set kd ⟨nx+1,44,1,(dlsS s (f+1)).map ints⟩).set 2 ⟨2,46,1,[.ref kd (nx+1) 0 (f+1),.ref kb sb 0 f,.ref ks ss 0 f,I (datE s f)]⟩)++[(⟨nx+1+1,3,1,[I (datE s f)]⟩:VObj)]).set kb ⟨nx+1+1+1,3,1,(bksS s (f+1)).map I⟩).set 2 ⟨2,46,1,[.ref kd (nx+1) 0 (f+1),.ref kb (nx+1+1+1) 0 (f+1),.ref ks ss 0 f,I (datE s f)]⟩)++[(⟨nx+1+1+1+1,3,1,[I (datE s f)]⟩:VObj)]).set ks ⟨nx+1+1+1+1+1,3,1,(bssS s (f+1)).map I⟩).set 2 ⟨2,46,1,[.ref kd (nx+1) 0 (f+1),.ref kb (nx+1+1+1) 0 (f+1),.ref ks (nx+1+1+1+1+1) 0 (f+1),I (datE s f)]⟩):=⟨_,rfl⟩
   obtain ⟨K,hK⟩:=gK
   rw[← hK]at gG
   have k2:=gG.h2
   have fb:=fun k=>fold_bd ((depS s f).take k) 100000 (by omega) fun x hx=>hdx x (List.mem_of_mem_take hx)
   refine VW_loop (fun j:Nat=>⟨[(1,.ptr 0 0 0),(2,.ptr 1 1 0),(3,.ptr 2 2 0),(4,I ((s.funcs.length:Int)-1)),(20,I s.funcs.length),(21,I f),(8,I (dpE ((depS s f).take j))),(57,ints (depS s f)),(58,I (depS s f).length),(59,I j)],K,nx+1+1+1+1+1+1⟩)
    (fun j=>j≤(depS s f).length) (fun j=>(depS s f).length-j) 0 (Wk.mk (by simp[get_cons,dpE]) ⟨[],by rw[List.append_nil];exact hK.symm⟩ (Nat.le_refl _)) (Nat.zero_le _) ?_
   intro j hj
   have fj:=fb j
   by_cases hjl:(j:Int)<((depS s f).length:Int)
   ·have e1:IntKind.i64.wrap ((j:Int)+1)=((j+1:Nat):Int):=by rw[i64_in (by omega) (by omega)];omega
    have e2:=fold_max (depS s f) j (by omega)
    simp only[go_sem,eq_true hjl,e1]
    repeat ((with_reducible refine And.intro ?_ ?_);· first | omega | (simp;omega))
    refine ⟨j+1,by omega,by omega,Wk.mk (by simp[get_cons,e2]) ⟨[],by simp⟩ (Nat.le_refl _)⟩
   ·obtain rfl:j=(depS s f).length:=by omega
    rw[List.take_of_length_le (Nat.le_refl _)]at fj
    have e3:datE s (f+1)=(datE s f)+dpE (depS s f):=by rw[← eb];rfl
    have bd:=hB (f+1) (by omega)
    have e4:IntKind.i64.wrap ((datE s f)+dpE (depS s f))=datE s (f+1):=by rw[← e3];exact i64_in (by omega) (by omega)
    have e5:IntKind.i64.wrap ((f:Int)+1)=((f+1:Nat):Int):=by rw[i64_in (by omega) (by omega)];omega
    have gH:=gG.set2 [.ref kd (nx+1) 0 (f+1),.ref kb (nx+1+1+1) 0 (f+1),.ref ks (nx+1+1+1+1+1) 0 (f+1),I (datE s (f+1))]
    have k3:=gH.h2
    simp only[go_sem,eq_false hjl,List.take_length,k2,e4,e5]
    exact ⟨⟨f+1,_,_⟩,⟨by simp only;omega,⟨_,_,_,_,_,_,gH⟩⟩,by simp only;omega,Wk.mk (by simp[get_cons]) ⟨[],by rw[List.append_nil]⟩ (Nat.le_refl _)⟩
  ·have eb:baseE s f=datE s f+1:=by unfold baseE;rw[if_neg (by omega)]
   have en:((f:Int) != (s.funcs.length:Int)-1)=true:=by simp[hl]
   have w2:IntKind.i64.wrap (datE s f+1)=baseE s f:=by rw[eb];exact i64_in (by omega) (by omega)
   have gE:PG s kd kb ks (((((((H++[(⟨nx,44,1,[ints (depS s f)]⟩:VObj)]).set kd ⟨nx+1,44,1,(dlsS s (f+1)).map ints⟩).set 2 ⟨2,46,1,[.ref kd (nx+1) 0 (f+1),.ref kb sb 0 f,.ref ks ss 0 f,I (datE s f)]⟩)++[(⟨nx+1+1,3,1,[I (datE s f)]⟩:VObj)]).set kb ⟨nx+1+1+1,3,1,(bksS s (f+1)).map I⟩).set 2 ⟨2,46,1,[.ref kd (nx+1) 0 (f+1),.ref kb (nx+1+1+1) 0 (f+1),.ref ks ss 0 f,I (datE s f)]⟩).set 2 ⟨2,46,1,[.ref kd (nx+1) 0 (f+1),.ref kb (nx+1+1+1) 0 (f+1),.ref ks ss 0 f,I (baseE s f)]⟩) _ _ _ _ _ _ _:=gD.set2 [.ref kd (nx+1) 0 (f+1),.ref kb (nx+1+1+1) 0 (f+1),.ref ks ss 0 f,I (baseE s f)]
   have gF:PG s kd kb ks (((((((((H++[(⟨nx,44,1,[ints (depS s f)]⟩:VObj)]).set kd ⟨nx+1,44,1,(dlsS s (f+1)).map ints⟩).set 2 ⟨2,46,1,[.ref kd (nx+1) 0 (f+1),.ref kb sb 0 f,.ref ks ss 0 f,I (datE s f)]⟩)++[(⟨nx+1+1,3,1,[I (datE s f)]⟩:VObj)]).set kb ⟨nx+1+1+1,3,1,(bksS s (f+1)).map I⟩).set 2 ⟨2,46,1,[.ref kd (nx+1) 0 (f+1),.ref kb (nx+1+1+1) 0 (f+1),.ref ks ss 0 f,I (datE s f)]⟩).set 2 ⟨2,46,1,[.ref kd (nx+1) 0 (f+1),.ref kb (nx+1+1+1) 0 (f+1),.ref ks ss 0 f,I (baseE s f)]⟩)++[(⟨nx+1+1+1+1,3,1,[I (baseE s f)]⟩:VObj)]).set ks ⟨nx+1+1+1+1+1,3,1,(bssS s (f+1)).map I⟩) _ _ _ _ _ _ _:=gE.appS ⟨nx+1+1+1+1,3,1,[I (baseE s f)]⟩ (nx+1+1+1+1+1) ((bssS s (f+1)).map I)
   have gG:PG s kd kb ks ((((((((((H++[(⟨nx,44,1,[ints (depS s f)]⟩:VObj)]).set kd ⟨nx+1,44,1,(dlsS s (f+1)).map ints⟩).set 2 ⟨2,46,1,[.ref kd (nx+1) 0 (f+1),.ref kb sb 0 f,.ref ks ss 0 f,I (datE s f)]⟩)++[(⟨nx+1+1,3,1,[I (datE s f)]⟩:VObj)]).set kb ⟨nx+1+1+1,3,1,(bksS s (f+1)).map I⟩).set 2 ⟨2,46,1,[.ref kd (nx+1) 0 (f+1),.ref kb (nx+1+1+1) 0 (f+1),.ref ks ss 0 f,I (datE s f)]⟩).set 2 ⟨2,46,1,[.ref kd (nx+1) 0 (f+1),.ref kb (nx+1+1+1) 0 (f+1),.ref ks ss 0 f,I (baseE s f)]⟩)++[(⟨nx+1+1+1+1,3,1,[I (baseE s f)]⟩:VObj)]).set ks ⟨nx+1+1+1+1+1,3,1,(bssS s (f+1)).map I⟩).set 2 ⟨2,46,1,[.ref kd (nx+1) 0 (f+1),.ref kb (nx+1+1+1) 0 (f+1),.ref ks (nx+1+1+1+1+1) 0 (f+1),I (baseE s f)]⟩) _ _ _ _ _ _ _:=gF.set2 [.ref kd (nx+1) 0 (f+1),.ref kb (nx+1+1+1) 0 (f+1),.ref ks (nx+1+1+1+1+1) 0 (f+1),I (baseE s f)]
   simp only[go_sem,eg,List.all_cons,List.all_nil,td,tb,tS,h2,eo hd,gA.h2,gB.h2,eo gB.b,gC.h2,gD.h2,gE.h2,eo gE.s,gF.h2,en,w2]
   refine ⟨by omega,by omega,by omega,by omega,by omega,by omega,?_⟩
   have gK:∃ K,K=((((((((((H++[(⟨nx,44,1,[ints (depS s f)]⟩:VObj)]).set kd ⟨nx+1,44,1,(dlsS s (f+1)).map ints⟩).set 2 ⟨2,46,1,[.ref kd (nx+1) 0 (f+1),.ref kb sb 0 f,.ref ks ss 0 f,I (datE s f)]⟩)++[(⟨nx+1+1,3,1,[I (datE s f)]⟩:VObj)]).set kb ⟨nx+1+1+1,3,1,(bksS s (f+1)).map I⟩).set 2 ⟨2,46,1,[.ref kd (nx+1) 0 (f+1),.ref kb (nx+1+1+1) 0 (f+1),.ref ks ss 0 f,I (datE s f)]⟩).set 2 ⟨2,46,1,[.ref kd (nx+1) 0 (f+1),.ref kb (nx+1+1+1) 0 (f+1),.ref ks ss 0 f,I (baseE s f)]⟩)++[(⟨nx+1+1+1+1,3,1,[I (baseE s f)]⟩:VObj)]).set ks ⟨nx+1+1+1+1+1,3,1,(bssS s (f+1)).map I⟩).set 2 ⟨2,46,1,[.ref kd (nx+1) 0 (f+1),.ref kb (nx+1+1+1) 0 (f+1),.ref ks (nx+1+1+1+1+1) 0 (f+1),I (baseE s f)]⟩):=⟨_,rfl⟩
   obtain ⟨K,hK⟩:=gK
   rw[← hK]at gG
   have k2:=gG.h2
   have fb:=fun k=>fold_bd ((depS s f).take k) 100000 (by omega) fun x hx=>hdx x (List.mem_of_mem_take hx)
   refine VW_loop (fun j:Nat=>⟨[(1,.ptr 0 0 0),(2,.ptr 1 1 0),(3,.ptr 2 2 0),(4,I ((s.funcs.length:Int)-1)),(20,I s.funcs.length),(21,I f),(8,I (dpE ((depS s f).take j))),(57,ints (depS s f)),(58,I (depS s f).length),(59,I j)],K,nx+1+1+1+1+1+1⟩)
    (fun j=>j≤(depS s f).length) (fun j=>(depS s f).length-j) 0 (Wk.mk (by simp[get_cons,dpE]) ⟨[],by rw[List.append_nil];exact hK.symm⟩ (Nat.le_refl _)) (Nat.zero_le _) ?_
   intro j hj
   have fj:=fb j
   by_cases hjl:(j:Int)<((depS s f).length:Int)
   ·have e1:IntKind.i64.wrap ((j:Int)+1)=((j+1:Nat):Int):=by rw[i64_in (by omega) (by omega)];omega
    have e2:=fold_max (depS s f) j (by omega)
    simp only[go_sem,eq_true hjl,e1]
    repeat ((with_reducible refine And.intro ?_ ?_);· first | omega | (simp;omega))
    refine ⟨j+1,by omega,by omega,Wk.mk (by simp[get_cons,e2]) ⟨[],by simp⟩ (Nat.le_refl _)⟩
   ·obtain rfl:j=(depS s f).length:=by omega
    rw[List.take_of_length_le (Nat.le_refl _)]at fj
    have e3:datE s (f+1)=(baseE s f)+dpE (depS s f):=rfl
    have bd:=hB (f+1) (by omega)
    have e4:IntKind.i64.wrap ((baseE s f)+dpE (depS s f))=datE s (f+1):=by rw[← e3];exact i64_in (by omega) (by omega)
    have e5:IntKind.i64.wrap ((f:Int)+1)=((f+1:Nat):Int):=by rw[i64_in (by omega) (by omega)];omega
    have gH:=gG.set2 [.ref kd (nx+1) 0 (f+1),.ref kb (nx+1+1+1) 0 (f+1),.ref ks (nx+1+1+1+1+1) 0 (f+1),I (datE s (f+1))]
    have k3:=gH.h2
    simp only[go_sem,eq_false hjl,List.take_length,k2,e4,e5]
    exact ⟨⟨f+1,_,_⟩,⟨by simp only;omega,⟨_,_,_,_,_,_,gH⟩⟩,by simp only;omega,Wk.mk (by simp[get_cons]) ⟨[],by rw[List.append_nil]⟩ (Nat.le_refl _)⟩
 ·obtain rfl:f=s.funcs.length:=by omega
  simp only[go_sem,eq_false (show ¬ (s.funcs.length:Int)<s.funcs.length by omega),h2,h1,set_get h1,List.drop]
  have t:∀ {i:Nat} {ob:VObj} (w:VObj),H[i]? = some ob→ob.ty≠46→(H.set 1 w)[i]? = some ob:=fun {i ob} w g1 g2=>by
   rw[set_ne (fun e=>by subst e;rw[h1]at g1;cases g1;exact g2 rfl)];exact g1
  exact ⟨_,Frz.agg ⟨_,_,rfl,frz_map (f:=ints) (g:=ints) (l:=dlsS s s.funcs.length) (Nat.zero_le _) (t _ hd (by simp)) (by simp[dlsS]) (fun _=>rfl) (fun a _=>Frz.pure rfl),_,_,rfl,frz_ints (l:=bksS s s.funcs.length) (Nat.zero_le _) (t _ hb (by simp)) (by simp[bksS]),_,_,rfl,frz_ints (l:=bssS s s.funcs.length) (Nat.zero_le _) (t _ hs2 (by simp)) (by simp[bssS]),_,_,rfl,Frz.pure rfl,rfl⟩,rfl⟩
set_option maxRecDepth 10000
open Go.V
structure RunP (s:SP) (S:S3) (o:List Nat):Prop where
 en:S.en.length=s.funcs.length
 rows:S.rows.length=s.funcs.length
 len:S.l.length≤80000
structure OfE (s:SP):Prop where
 r:RightP s
 i:InP s
 dat:∀ f≤s.funcs.length,0≤datE s f∧datE s f≤100000
 dep:∀ f<s.funcs.length,(depS s f).length≤100000∧∀ x ∈ depS s f,x≤100000
 ex:∀ f<s.funcs.length,ExOk (planS s s.funcs.length) (exE s f)∧FOk (exE s f)
 run:∀ j≤s.funcs.length-1,RunP s (runE s (ordJ s.funcs.length j)) (ordJ s.funcs.length j)
 jok:JOk (endE s).en (endE s).rows (endE s).l
 rwl:∀ i<s.funcs.length,((endE s).rows.getD i []).length=(s.fn i).code.length
structure GO (s:SP) (q:GI) (kM sM:Nat) (H:List VObj) (bl:List AV) (o:List Nat):Prop where
 w:∃ f d,GH s (planS s s.funcs.length) f d q H ((runE s o).l.map (·.1)) (spotL 0 (runE s o).l) (runE s o).en bl
 bln:bl.length=s.funcs.length
 one:∀ x ∈ bl,x.one=true
 rows:∀ i ∈ o,∃ kr sr,bl.getD i .dead = .ref kr sr 0 ((runE s o).rows.getD i []).length∧H[kr]? = some ⟨sr,3,1,((runE s o).rows.getD i []).map I⟩∧kr≠q.kE
 m:H[kM]? = some ⟨sM,0,0,meanC⟩
section
variable {s:SP} {q:GI} {kM sM:Nat}
theorem GO.step (h:OfE s) {H:List VObj} {bl:List AV} {o:List Nat} (hO:GO s q kM sM H bl o) (hMB:kM≠q.kB) (hME:kM≠q.kE) {i:Nat} (hi:i<s.funcs.length) (hol:(runE s o).l.length≤90000) (hoe:(runE s o).en.length=s.funcs.length) (hor:(runE s o).rows.length=s.funcs.length) (nx:Nat) (C:AV→List VObj→Nat→Prop)
 (hC:∀ r H' nx' bl',GO s q kM sM H' bl' (o++[i])→KeepG q H H'→C r H' nx') :
 VCall Tryz.prog 35 [.ptr q.kG q.sG 0,I (i:Nat),.mref kM sM] H nx C:=by
 obtain ⟨fn,d,hw⟩:=hO.w
 obtain ⟨hex,hfo⟩:=h.ex i hi
 refine function_v (c:=exE s i) hw hex hfo hol hoe hO.bln hO.one hO.m nx C fun r H' nx' kr sr d' w1 w2 w3 w4=>?_
 have hg:(exE s i).g=s.fn i:=rfl
 rw[hg]at w1 w2
 have hrowlen:(rowE (exE s i) ((runE s o).l.length+(headE (exE s i) (runE s o).l.length).length) (s.fn i).code.length).length=(s.fn i).code.length:=rowE_len _ _ _
 refine hC r H' nx' _ ⟨⟨_,_,by rw[runE_snoc];exact w1⟩,by rw[List.length_set];exact hO.bln,fun x hx=>?_,fun j hj=>?_,w4 _ _ hO.m (by simp) hME hMB⟩ w4
 ·rcases List.mem_or_eq_of_mem_set hx with hx | rfl
  ·exact hO.one x hx
  ·rfl
 ·rw[runE_snoc]
  simp only[stepE]
  by_cases e:i=j
  ·subst e
   refine ⟨kr,sr,?_,?_,w3⟩
   ·have eb:(bl.set (exE s i).fn (AV.ref kr sr 0 (s.fn i).code.length)).getD i .dead = .ref kr sr 0 (s.fn i).code.length:=by
     show ((bl.set i _)[i]?).getD _=_
     rw[List.getElem?_set_self (by rw[hO.bln];exact hi)];rfl
    rw[eb,List.getD,List.getElem?_set_self (by rw[hor];exact hi),Option.getD_some,hrowlen]
   ·rw[List.getD,List.getElem?_set_self (by rw[hor];exact hi),Option.getD_some];exact w2
  ·have hj':j ∈ o:=by
    rcases List.mem_append.1 hj with hj | hj
    ·exact hj
    ·exact absurd (List.mem_singleton.1 hj).symm e
   obtain ⟨kr',sr',e1,e2,e3⟩:=hO.rows j hj'
   refine ⟨kr',sr',?_,?_,e3⟩
   ·have eb:(bl.set (exE s i).fn (AV.ref kr sr 0 (s.fn i).code.length)).getD j .dead=bl.getD j .dead:=by
     show ((bl.set i _)[j]?).getD _=_
     rw[List.getElem?_set_ne e];rfl
    rw[eb,e1,List.getD,List.getD,List.getElem?_set_ne e]
   ·rw[List.getD,List.getElem?_set_ne e]
    exact w4 _ _ e2 (by simp) e3 (fun eb=>by
     obtain ⟨_,_,hww⟩:=hO.w
     have hb:=hww.b
     rw[← eb,e2]at hb;simp at hb)
theorem cp_all {F Z:List AV} {n:Nat} (hF:F.length=n*4) (hZ:Z.length=n*4):List.take (min n n*4) (List.take (n*4) F)++List.drop (min n n*4) Z=F:=by
 rw[Nat.min_self,List.take_of_length_le (by simp[hF]),List.take_of_length_le (by omega),List.drop_eq_nil_of_le (by omega),List.append_nil]
structure WQ where
 j:Nat
 H:List VObj
 nx:Nat
 bl:List AV
structure PQ2 where
 k:Nat
 code:List Ci
 H:List VObj
 nx:Nat
theorem ordJ_mem {n i:Nat} (hi:i<n):i ∈ ordJ n (n-1):=by
 unfold ordJ
 by_cases e:i=n-1
 ·subst e;exact List.mem_cons_self
 ·exact List.mem_cons_of_mem _ (List.mem_range.2 (by omega))
set_option maxHeartbeats 1000000 in
theorem whole_v (h:OfE s) {H0:List VObj} {bl0:List AV} (hw0:GH s (planS s s.funcs.length) 0 0 q H0 [] [] (List.replicate s.funcs.length 0) bl0) (hbn:bl0.length=s.funcs.length) (hb1:∀ x ∈ bl0,x.one=true) (nx0:Nat) (C:AV→List VObj→Nat→Prop)
 (hC:∀ H' nx' k s',H'[k]? = some ⟨s',55,4,((fixY (endE s).en (endE s).rows (endE s).l).map ciL).flatten⟩→KeepG q H0 H'→C (.ref k s' 0 (endE s).l.length) H' nx') :
 VCall Tryz.prog 17 [.ptr q.kG q.sG 0] H0 nx0 C:=by
 refine VCall.of_body hmix f_emit_generator_whole (by simp) ?_
 have h64:=h.r.n1
 have hn0:=h.r.n0
 have w1:IntKind.i64.wrap ((s.funcs.length:Int)-1)=((s.funcs.length-1:Nat):Int):=by rw[i64_in (by omega) (by omega)];omega
 simp only[go_sem,c_emit_generator_whole]
 refine meanings_v H0 nx0 _ ?_
 have hw1:=hw0.keep (KeepT.app [] H0 [⟨nx0,0,0,meanC⟩])
 have hM:(H0++[(⟨nx0,0,0,meanC⟩:VObj)])[H0.length]? = some ⟨nx0,0,0,meanC⟩:=by simp
 have hk0:KeepG q H0 (H0++[(⟨nx0,0,0,meanC⟩:VObj)]):=KeepG.of (KeepT.app _ _ _)
 have hME:H0.length≠q.kE:=by have:=(List.getElem?_eq_some_iff.1 hw0.e).1;omega
 have hMB:H0.length≠q.kB:=by have:=(List.getElem?_eq_some_iff.1 hw0.b).1;omega
 generalize H0++[(⟨nx0,0,0,meanC⟩:VObj)]=H1 at *
 generalize H0.length=kM at *
 obtain ⟨cv,pv,hg1,hc1,hp1⟩:=hw1.w
 simp only[go_sem,hg1,w1]
 refine put_v hw1 _ 1 15 0 1 (by simp) _ fun r H2 nx2 h2 k2=>?_
 have hk2:KeepG q H0 H2:=hk0.trans (KeepG.of k2)
 have hO0:GO s q kM nx0 H2 bl0 []:=⟨⟨0,0,h2⟩,hbn,hb1,fun i hi=>(by cases hi),k2 _ _ hM (by simp)⟩
 simp only[go_sem,w1]
 refine hO0.step h hMB hME (i:=s.funcs.length-1) (by omega) (by simp[runE]) (by simp[runE]) (by simp[runE]) _ _ fun r H3 nx3 bl3 hO3 k3=>?_
 simp only[go_sem,w1]
 refine VW_loop (fun x:WQ=>⟨[(0,.ptr q.kG q.sG 0),(3,.mref kM nx0),(23,I ((s.funcs.length-1:Nat):Int)),(24,I x.j)],x.H,x.nx⟩)
  (fun x=>x.j≤s.funcs.length-1∧GO s q kM nx0 x.H x.bl (ordJ s.funcs.length x.j)∧KeepG q H0 x.H) (fun x=>s.funcs.length-1-x.j) ⟨0,H3,nx3,bl3⟩
  (Wk.mk (by simp[get_cons]) ⟨[],by simp⟩ (Nat.le_refl _)) ⟨Nat.zero_le _,hO3,hk2.trans k3⟩ ?_
 rintro ⟨j,H,nx,bl⟩ ⟨hj,hO,hkj⟩
 simp only at hj hO hkj
 have hR:=h.run j hj
 by_cases hlt:j<s.funcs.length-1
 ·simp only[go_sem,eq_true (show (j:Int)<((s.funcs.length-1:Nat):Int) by omega)]
  refine hO.step h hMB hME (by omega) (by have:=hR.len;omega) hR.en hR.rows _ _ fun r H' nx' bl' hO' k'=>?_
  have e5:IntKind.i64.wrap ((j:Int)+1)=((j+1:Nat):Int):=by rw[i64_in (by omega) (by omega)];omega
  rw[← ordJ_succ]at hO'
  simp only[go_sem,e5]
  exact ⟨⟨j+1,H',nx',bl'⟩,⟨by simp only;omega,hO',hkj.trans k'⟩,by simp only;omega,Wk.mk (by simp[get_cons]) ⟨[],by simp⟩ (Nat.le_refl _)⟩
 ·obtain rfl:j=s.funcs.length-1:=by omega
  obtain ⟨f,d,hw⟩:=hO.w
  have hrl:=hR.len
  have hsl:=spotL_len (endE s).l 0
  have hmx:(200000000:Nat)≤maxLen:=by decide
  obtain ⟨cv,pv,hgX,⟨kC,sC,rfl,hkC⟩,⟨kP,sP,rfl,hkP⟩⟩:=hw.w
  rw[show runE s (ordJ s.funcs.length (s.funcs.length-1))=endE s from rfl]at *
  rw[List.length_map]at hgX
  have n1:=ne_len hgX
  have n2:=ne_len hkC
  have n3:=ne_len hkP
  have l1:=lt_of hgX
  have l2:=lt_of hkC
  have l3:=lt_of hkP
  have es:∀ (K:List VObj) (x y:VObj),(K++[x]).set K.length y=K++[y]:=fun K x y=>by simp
  have eg:∀ (K:List VObj) (x:VObj),(K++[x])[K.length]? = some x:=fun K x=>by simp
  have eo:∀ {K:List VObj} {k:Nat} {o:VObj},K[k]? = some o→∀ x:VObj,(K++[x])[k]? = some o:=fun h x=>ap_old h _
  simp only[go_sem,eq_false (show ¬ ((s.funcs.length-1:Nat):Int)<((s.funcs.length-1:Nat):Int) by omega),hgX,hkC,eo hgX,eo hkC,eo hkP,es,eg]
  have hall:((((endE s).l.map (·.1)).map ciL).flatten).all AV.one=true:=by
   rw[List.all_eq_true];intro x hx
   obtain ⟨y,hy,hx⟩:=List.mem_flatten.1 hx
   obtain ⟨i,_,rfl⟩:=List.mem_map.1 hy
   simp only[ciL,List.mem_cons,List.not_mem_nil,or_false]at hx
   rcases hx with rfl | rfl | rfl | rfl<;>rfl
  refine ⟨by omega,by omega,by omega,hall,?_⟩
  have hcl:(((endE s).l.map (·.1)).map ciL).flatten.length=(endE s).l.length*4:=by rw[sz_flat ciL 4 (fun _=>rfl)];simp
  have hHN:∃ HN,HN=H++[(⟨nx,55,4,(((endE s).l.map (·.1)).map ciL).flatten⟩:VObj)]:=⟨_,rfl⟩
  obtain ⟨HN,eHN⟩:=hHN
  have hN:HN[H.length]? = some ⟨nx,55,4,(((endE s).l.map (·.1)).map ciL).flatten⟩:=by rw[eHN];simp
  have up:∀ {i:Nat} {ob:VObj},H[i]? = some ob→HN[i]? = some ob:=fun h=>by rw[eHN];exact ap_old h _
  have hE:=up hw.e
  have hB:=up hw.b
  have hG:=up hgX
  have hP:=up hkP
  refine VW_loop (fun x:PQ2=>⟨[(0,.ptr q.kG q.sG 0),(6,.ref H.length nx 0 (endE s).l.length),(47,.ref kP sP 0 (spotL 0 (endE s).l).length),(48,I (spotL 0 (endE s).l).length),(49,I x.k)],x.H,x.nx⟩)
   (fun x=>x.k≤(spotL 0 (endE s).l).length∧x.H[H.length]? = some ⟨nx,55,4,(x.code.map ciL).flatten⟩∧patch (endE s).en (endE s).rows x.code ((spotL 0 (endE s).l).drop x.k)=fixY (endE s).en (endE s).rows (endE s).l∧x.code.length=(endE s).l.length∧KeepR [] H.length HN x.H) (fun x=>(spotL 0 (endE s).l).length-x.k) ⟨0,(endE s).l.map (·.1),HN,nx+1⟩
   (Wk.mk (by simp[get_cons]) ⟨[],by rw[List.append_nil];simp only;rw[cp_all hcl (by simp[])];exact eHN.symm⟩ (Nat.le_refl _)) ⟨Nat.zero_le _,hN,by simpa using patch_spot (endE s).en (endE s).rows (endE s).l [],by simp,KeepR.refl _ _ _⟩ ?_
  rintro ⟨k,code,H5,nx5⟩ ⟨hk,hc5,hpa,hcl5,hkp⟩
  simp only at hk hc5 hpa hcl5 hkp
  have hP5:=hkp _ _ hP (by simp) (by have:=(List.getElem?_eq_some_iff.1 hkP).1;omega)
  by_cases hlt:k<(spotL 0 (endE s).l).length
  ·have hsm:(spotL 0 (endE s).l).getD k default ∈ spotL 0 (endE s).l:=mem_getD hlt
   obtain ⟨a1,a2,i0,a3⟩:=spotL_mem (endE s).l 0 _ hsm
   have hdrop:(spotL 0 (endE s).l).drop k=(spotL 0 (endE s).l).getD k default::(spotL 0 (endE s).l).drop (k+1):=by
    rw[List.drop_eq_getElem_cons hlt];simp[List.getD,List.getElem?_eq_getElem hlt]
   rw[hdrop,patch]at hpa
   obtain ⟨b1,b2,b3,b4⟩:=h.jok _ _ a3
   have hcF:∀ {C:AV→Prop},cellT ((spotL 0 (endE s).l).map spL).flatten (k*3) true 3 C .mk=C (.agg (spL ((spotL 0 (endE s).l).getD k default))):=fun {C}=>cellT_flat (f:=spL) (n:=3) (fun _=>rfl) hlt
   generalize hs:(spotL 0 (endE s).l).getD k default=sx at *
   obtain ⟨at',fn',to'⟩:=sx
   simp only at a1 a2 b1 b2 b3 b4
   have hG5:=hkp _ _ hG (by simp) (by have:=(List.getElem?_eq_some_iff.1 hgX).1;omega)
   have hE5:=hkp _ _ hE (by simp) (by have:=(List.getElem?_eq_some_iff.1 hw.e).1;omega)
   have hB5:=hkp _ _ hB (by simp) (by have:=(List.getElem?_eq_some_iff.1 hw.b).1;omega)
   have hrl2:(endE s).rows.length=s.funcs.length:=hR.rows
   have hel2:(endE s).en.length=s.funcs.length:=hR.en
   obtain ⟨kr,sr,hrow1,hrow0,_⟩:=hO.rows fn'.toNat (ordJ_mem (by omega))
   rw[show runE s (ordJ s.funcs.length (s.funcs.length-1))=endE s from rfl]at hrow0 hrow1
   have hrow2:=hkp _ _ (up hrow0) (by simp) (by have:=(List.getElem?_eq_some_iff.1 hrow0).1;omega)
   have hcell:∀ {C:AV→Prop},cellT bl fn'.toNat false 1 C .mk=C (.ref kr sr 0 ((endE s).rows.getD fn'.toNat []).length):=fun {C}=>cellT_at (by have:=hO.bln;omega) rfl hrow1
   have hci:∀ x:Int,((code.map ciL).flatten).set (at'.toNat*4+3) (I x)=((code.set at'.toNat { code.getD at'.toNat default with c:=x }).map ciL).flatten:=fun x=>ci_set code _ x (by omega)
   have hla:(code.map ciL).flatten.length=code.length*4:=sz_flat ciL 4 (fun _=>rfl) code
   have hX:(H5++[(⟨nx5,94,1,[I at',I fn',I to']⟩:VObj)])[H5.length]? = some ⟨nx5,94,1,[I at',I fn',I to']⟩:=by simp
   have n5:=ne_len hc5
   have l5:=lt_of hc5
   have e5:IntKind.i64.wrap ((k:Int)+1)=((k+1:Nat):Int):=by rw[i64_in (by omega) (by omega)];omega
   have yX:∀ c',((H5++[(⟨nx5,94,1,[I at',I fn',I to']⟩:VObj)]).set H.length ⟨nx,55,4,c'⟩)[H5.length]? = some ⟨nx5,94,1,[I at',I fn',I to']⟩:=fun c'=>by rw[set_ne (by have:=of_eq_true l5;omega)];simp
   have yN:∀ c',((H5++[(⟨nx5,94,1,[I at',I fn',I to']⟩:VObj)]).set H.length ⟨nx,55,4,c'⟩)[H.length]? = some ⟨nx,55,4,c'⟩:=fun c'=>set_get (eo hc5 _)
   have yo:∀ {i:Nat} {ob:VObj},H5[i]? = some ob→i≠H.length→∀ c',((H5++[(⟨nx5,94,1,[I at',I fn',I to']⟩:VObj)]).set H.length ⟨nx,55,4,c'⟩)[i]? = some ob:=fun h1 h2 c'=>by rw[set_ne (fun e=>h2 e.symm)];exact eo h1 _
   have yG:=yo hG5 (by have:=(List.getElem?_eq_some_iff.1 hgX).1;omega)
   have yB:=yo hB5 (by have:=(List.getElem?_eq_some_iff.1 hw.b).1;omega)
   have yR:=yo hrow2 (by have:=(List.getElem?_eq_some_iff.1 hrow0).1;omega)
   have keepY:∀ c',KeepR [] H.length HN ((H5++[(⟨nx5,94,1,[I at',I fn',I to']⟩:VObj)]).set H.length ⟨nx,55,4,c'⟩):=fun c'=>(hkp.trans (KeepR.of (KeepT.app _ _ _))).trans (KeepR.set _ _ _ _)
   have hl4:at'.toNat*4+3+1≤(code.map ciL).flatten.length:=by rw[hla];omega
   by_cases h0:0≤to'
   ·have htg:tgt (endE s).en (endE s).rows (fn',to')=((endE s).rows.getD fn'.toNat []).getD to'.toNat default:=if_pos h0
    simp only[go_sem,eq_true (show (k:Int)<(spotL 0 (endE s).l).length by omega),hP5,hcF,es,eg,eo hG5,eo hE5,eo hc5,hcell,yX,yN,yG,yB,yR,List.set_set,eq_true h0,e5]
    repeat ((with_reducible refine And.intro ?_ ?_);· first | omega | exact hl4 | (rw[List.length_set];exact hl4) | (simp;omega))
    rw[hci (((endE s).rows.getD fn'.toNat []).getD to'.toNat default),← htg]
    exact ⟨⟨k+1,code.set at'.toNat { code.getD at'.toNat default with c:=tgt (endE s).en (endE s).rows (fn',to') },_,nx5+1⟩,⟨by simp only;omega,yN _,hpa,by simp[hcl5],keepY _⟩,by simp only;omega,Wk.mk (by simp[get_cons]) ⟨[],by rw[List.append_nil]⟩ (Nat.le_refl _)⟩
   ·have htg:tgt (endE s).en (endE s).rows (fn',to')=(endE s).en.getD fn'.toNat default:=if_neg h0
    simp only[go_sem,eq_true (show (k:Int)<(spotL 0 (endE s).l).length by omega),hP5,hcF,es,eg,eo hG5,eo hE5,eo hc5,yX,eq_false h0,e5]
    repeat ((with_reducible refine And.intro ?_ ?_);· first | omega | exact hl4 | (rw[List.length_set];exact hl4) | (simp;omega))
    rw[hci ((endE s).en.getD fn'.toNat default),← htg]
    exact ⟨⟨k+1,code.set at'.toNat { code.getD at'.toNat default with c:=tgt (endE s).en (endE s).rows (fn',to') },_,nx5+1⟩,⟨by simp only;omega,yN _,hpa,by simp[hcl5],keepY _⟩,by simp only;omega,Wk.mk (by simp[get_cons]) ⟨[],by rw[List.append_nil]⟩ (Nat.le_refl _)⟩
  ·obtain rfl:k=(spotL 0 (endE s).l).length:=by omega
   rw[List.drop_length,patch]at hpa
   subst hpa
   simp only[go_sem,eq_false (show ¬ ((spotL 0 (endE s).l).length:Int)<(spotL 0 (endE s).l).length by omega)]
   refine hC _ _ _ _ hc5 fun i ob i1 i2 i3 i4=>?_
   have g1:=hkj i ob i1 i2 i3 i4
   exact hkp _ _ (up g1) (by simp) (by have:=(List.getElem?_eq_some_iff.1 g1).1;omega)
end
set_option maxRecDepth 10000
open Go.V
abbrev imgC (code:List Int) (data:Int):AV:=.agg [.imm 1 (code.map U32),I data]
noncomputable abbrev fixE (s:SP):List Ci:=fixY (endE s).en (endE s).rows (endE s).l
noncomputable def codeE (s:SP):List Int:=(fixE s).map encW
noncomputable abbrev ofA (s:SP):AV:=.tup [imgC (codeE s) (dataE s),I 0]
structure OfH (s:SP):Prop where
 e:OfE s
 ok:∀ i ∈ fixE s,okI i.op i.a i.b i.c=true
 len:(endE s).l.length≤16384
 dat:dataE s≤32768
section
variable {s:SP}
set_option maxHeartbeats 1000000 in
theorem of_B (h:OfH s) {q:GI} {H0:List VObj} {bl0:List AV} (hw0:GH s (planS s s.funcs.length) 0 0 q H0 [] [] (List.replicate s.funcs.length 0) bl0) (hbn:bl0.length=s.funcs.length) (hb1:∀ x ∈ bl0,x.one=true)
 (h1:H0[1]? = some ⟨1,29,1,[nilv,I 0]⟩) (h2:H0[2]? = some ⟨2,46,1,[dlsA (dlsS s s.funcs.length),ints (bksS s s.funcs.length),ints (bssS s s.funcs.length),I (dataE s)]⟩) (h1E:1≠q.kE) (h1B:1≠q.kB) (h2E:2≠q.kE) (h2B:2≠q.kB) (nx0:Nat) :
 VWs Tryz.prog (tailC 4 c_emit_Of) (retQ Tryz.prog [.cell 2 true 2,.tmp 3] fun r H nx=>∃ y,FrzN H nx r y∧y=ofA s) ⟨[(2,.ptr 1 1 0),(4,.ptr 2 2 0),(5,.ptr q.kG q.sG 0)],H0,nx0⟩:=by
 have hmx:(200000000:Nat)≤maxLen:=by decide
 have hlen:=h.len
 have hfl:(fixE s).length=(endE s).l.length:=by simp[fixE,fixY]
 have hok:=h.ok
 simp only[tailC,c_emit_Of,go_sem,VWs_seq]
 refine whole_v h.e hw0 hbn hb1 nx0 _ fun H nx k s' hk kp=>?_
 have g1:=kp _ _ h1 (by simp) h1E h1B
 have g2:=kp _ _ h2 (by simp) h2E h2B
 simp only[go_sem]
 refine ⟨_,Wk.refl _,?_⟩
 simp only[go_sem,VWs_seq,hk,eq_false (show ¬ (16384:Int)<((endE s).l.length:Int) by omega)]
 refine ⟨_,Wk.refl _,?_⟩
 simp only[go_sem,VWs_seq,hk]
 refine ⟨by omega,by omega,by omega,?_⟩
 refine ⟨_,Wk.refl _,?_⟩
 simp only[go_sem,VWs_seq,ap_old hk]
 rw[flat_rep,show List.replicate (endE s).l.length (AV.val (.int .u32 0))=(wlJ (fixE s) 0).map U32 by rw[wlJ_zero,hfl,List.map_replicate]]
 have hrow0:(H++[(⟨nx,56,1,(wlJ (fixE s) 0).map U32⟩:VObj)])[H.length]? = some ⟨nx,56,1,(wlJ (fixE s) 0).map U32⟩:=by simp
 refine VW_loop (fun x:LQ=>⟨[(2,.ptr 1 1 0),(4,.ptr 2 2 0),(7,.ref H.length nx 0 (endE s).l.length),(39,.ref k s' 0 (endE s).l.length),(40,I (endE s).l.length),(41,I x.j)],x.H,x.nx⟩)
  (fun x=>x.j≤(endE s).l.length∧x.H[H.length]? = some ⟨nx,56,1,(wlJ (fixE s) x.j).map U32⟩∧KeepR [] H.length H x.H) (fun x=>(endE s).l.length-x.j) ⟨0,H++[⟨nx,56,1,(wlJ (fixE s) 0).map U32⟩],nx+1⟩
  (Wk.mk (by simp[get_cons]) ⟨[],by simp⟩ (Nat.le_refl _)) ⟨Nat.zero_le _,hrow0,KeepR.of (KeepT.app _ _ _)⟩ ?_
 rintro ⟨i,H5,nx5⟩ ⟨hi,hr5,hk5⟩
 simp only at hi hr5 hk5
 have hkl:=(List.getElem?_eq_some_iff.1 hk).1
 have hc5:=hk5 _ _ hk (by simp) (by omega)
 by_cases hil:i<(endE s).l.length
 ·have hm1:=hok _ (mem_getD (show i<(fixE s).length by omega))
  have hcF:∀ {C:AV→Prop},cellT ((fixE s).map ciL).flatten (i*4) true 4 C .mk=C (.agg (ciL ((fixE s).getD i default))):=fun {C}=>cellT_flat (f:=ciL) (n:=4) (fun _=>rfl) (by omega)
  have hsw:=wlJ_set (fixE s) (show i<(fixE s).length by omega)
  generalize hs:(fixE s).getD i default=t at *
  have l7:=lt_of hr5
  have es:∀ (K:List VObj) (x y:VObj),(K++[x]).set K.length y=K++[y]:=fun K x y=>by simp
  have eg:∀ (K:List VObj) (x:VObj),(K++[x])[K.length]? = some x:=fun K x=>by simp
  have eo:∀ {K:List VObj} {k:Nat} {o:VObj},K[k]? = some o→∀ x:VObj,(K++[x])[k]? = some o:=fun h x=>ap_old h _
  have e5:IntKind.i64.wrap ((i:Int)+1)=((i+1:Nat):Int):=by rw[i64_in (by omega) (by omega)];omega
  simp only[go_sem,eq_true (show (i:Int)<(endE s).l.length by omega),hc5,hcF,es,eg]
  repeat ((with_reducible refine And.intro ?_ ?_);· first | omega | (simp;omega))
  refine VCall.of_contract (encI_c t.op t.a t.b t.c hm1) (SleL.pure rfl) fun x hx=>?_
  subst hx
  simp only[go_sem,eo hr5,bne_self_eq_false,e5]
  refine ⟨hil,by rw[wlJ_len];omega,?_⟩
  rw[show ((wlJ (fixE s) i).map U32).set i (U32 (encI t.op t.a t.b t.c))=(wlJ (fixE s) (i+1)).map U32 by rw[← hsw,List.map_set]]
  exact ⟨⟨i+1,_,nx5+1⟩,⟨by simp only;omega,set_get (eo hr5 _),(hk5.trans (KeepR.of (KeepT.app _ _ _))).trans (KeepR.set _ _ _ _)⟩,by simp only;omega,Wk.mk (by simp[get_cons]) ⟨[],by rw[List.append_nil]⟩ (Nat.le_refl _)⟩
 ·obtain rfl:i=(endE s).l.length:=by omega
  have q1:=hk5 _ _ g1 (by simp) (by have:=(List.getElem?_eq_some_iff.1 g1).1;omega)
  have q2:=hk5 _ _ g2 (by simp) (by have:=(List.getElem?_eq_some_iff.1 g2).1;omega)
  rw[wlJ_all (fixE s) (by omega)]at hr5
  have hr6:∀ w,(H5.set 1 w)[H.length]? = some ⟨nx,56,1,(codeE s).map U32⟩:=fun w=>by
   rw[set_ne (by have:=(List.getElem?_eq_some_iff.1 g1).1;omega)];exact hr5
  simp only[go_sem,eq_false (show ¬ ((endE s).l.length:Int)<(endE s).l.length by omega)]
  refine ⟨_,Wk.refl _,?_⟩
  simp only[go_sem,VWs_seq,q1,q2]
  refine ⟨_,Wk.refl _,?_⟩
  simp only[go_sem,VWs_ret,set_get q1]
  exact ⟨_,FrzN.tup ⟨_,_,rfl,FrzN.agg ⟨_,_,rfl,frzN_words (hr6 _) (by simp[codeE,hfl]),_,_,rfl,FrzN.val,rfl⟩,_,_,rfl,FrzN.val,rfl⟩,rfl⟩
end
set_option maxRecDepth 10000
open Go.V
section
variable {s:SP}
theorem gen_virt1 (s:SP) (P:PL) (q:GI) (r:AV):∀ (j:Nat) x y,(genL s P q nilv nilv 0 0)[j]? = some x→(genL s P q r nilv 0 0)[j]? = some y→x=y∨(x = .val (.slice none 0 0)∧y=r):=fun j x y hx hy=>by
 rcases j with _ | _ | _ | _ | _ | _ | _ | j<;>simp only[List.getElem?_cons_succ,List.getElem?_cons_zero,Option.some.injEq]at hx hy
 iterate 6 (· left;rw[← hx,← hy])
 ·right;exact ⟨hx.symm,hy.symm⟩
 ·left;rw[hx]at hy;exact Option.some.inj hy
theorem gen_virt2 (s:SP) (P:PL) (q:GI) (r t:AV):∀ (j:Nat) x y,(genL s P q r nilv 0 0)[j]? = some x→(genL s P q r t 0 0)[j]? = some y→x=y∨(x = .val (.slice none 0 0)∧y=t):=fun j x y hx hy=>by
 rcases j with _ | _ | _ | _ | _ | _ | _ | _ | _ | _ | j<;>simp only[List.getElem?_cons_succ,List.getElem?_cons_zero,Option.some.injEq]at hx hy
 iterate 9 (· left;rw[← hx,← hy])
 ·right;exact ⟨hx.symm,hy.symm⟩
 ·left;rw[hx]at hy;exact Option.some.inj hy
theorem of_A (h:OfH s) {env:List (Nat × AV)} {H:List VObj} {kG kE kB:Nat} (g2:get env 2 = .ptr 1 1 0) (g4:get env 4 = .ptr 2 2 0) (g5:get env 5 = .ptr kG kG 0)
 (h1:H[1]? = some ⟨1,29,1,[nilv,I 0]⟩) (h2:H[2]? = some ⟨2,46,1,[dlsA (dlsS s s.funcs.length),ints (bksS s s.funcs.length),ints (bssS s s.funcs.length),I (dataE s)]⟩) (hl:H.length=6)
 (hG:H[kG]? = some ⟨kG,52,1,genL s (planS s s.funcs.length) ⟨kG,kG,kE,kE,kB,kB⟩ nilv nilv 0 0⟩)
 (hE:H[kE]? = some ⟨kE,3,1,List.replicate s.funcs.length (I 0)⟩) (hB:H[kB]? = some ⟨kB,44,1,List.replicate s.funcs.length nilv⟩)
 (h1E:1≠kE) (h1B:1≠kB) (h2E:2≠kE) (h2B:2≠kB) :
 ∃ st'',Wk ⟨env,H,6⟩ st''∧VWs Tryz.prog (tailC 4 c_emit_Of) (retQ Tryz.prog [.cell 2 true 2,.tmp 3] fun r H nx=>∃ y,FrzN H nx r y∧y=ofA s) st'':=by
 have hkG:kG<H.length:=(List.getElem?_eq_some_iff.1 hG).1
 have v1:=virt_at (env:=[(2,.ptr 1 1 0),(4,.ptr 2 2 0),(5,.ptr kG kG 0)]) (H:=H) (nx:=6) (i:=kG) (cs':=genL s (planS s s.funcs.length) ⟨kG,kG,kE,kE,kB,kB⟩ (.ref H.length 6 0 0) nilv 0 0) 55 4 (by decide) (by simp[get_cons]) hG (by simp) rfl (gen_virt1 s _ _ _)
 have hG1:(H.set kG ⟨kG,52,1,genL s (planS s s.funcs.length) ⟨kG,kG,kE,kE,kB,kB⟩ (.ref H.length 6 0 0) nilv 0 0⟩++[(⟨6,55,4,[]⟩:VObj)])[kG]? = some ⟨kG,52,1,genL s (planS s s.funcs.length) ⟨kG,kG,kE,kE,kB,kB⟩ (.ref H.length 6 0 0) nilv 0 0⟩:=ap_old (set_get hG) _
 have hI1:(H.set kG ⟨kG,52,1,genL s (planS s s.funcs.length) ⟨kG,kG,kE,kE,kB,kB⟩ (.ref H.length 6 0 0) nilv 0 0⟩++[(⟨6,55,4,[]⟩:VObj)])[H.length]? = some ⟨6,55,4,[]⟩:=by
  rw[List.getElem?_append_right (by simp)];simp
 have t1:∀ {i:Nat} {ob:VObj},H[i]? = some ob→i≠kG→(H.set kG ⟨kG,52,1,genL s (planS s s.funcs.length) ⟨kG,kG,kE,kE,kB,kB⟩ (.ref H.length 6 0 0) nilv 0 0⟩++[(⟨6,55,4,[]⟩:VObj)])[i]? = some ob:=fun {i ob} a1 a2=>ap_old (by rw[set_ne (fun e=>a2 e.symm)];exact a1) _
 generalize (H.set kG ⟨kG,52,1,genL s (planS s s.funcs.length) ⟨kG,kG,kE,kE,kB,kB⟩ (.ref H.length 6 0 0) nilv 0 0⟩++[(⟨6,55,4,[]⟩:VObj)])=H1 at *
 have v2:=virt_at (env:=[(2,.ptr 1 1 0),(4,.ptr 2 2 0),(5,.ptr kG kG 0)]) (H:=H1) (nx:=7) (i:=kG) (cs':=genL s (planS s s.funcs.length) ⟨kG,kG,kE,kE,kB,kB⟩ (.ref H.length 6 0 0) (.ref H1.length 7 0 0) 0 0) 94 3 (by decide) (by simp[get_cons]) hG1 (by simp) rfl (gen_virt2 s _ _ _ _)
 have t2:∀ {i:Nat} {ob:VObj},H1[i]? = some ob→i≠kG→(H1.set kG ⟨kG,52,1,genL s (planS s s.funcs.length) ⟨kG,kG,kE,kE,kB,kB⟩ (.ref H.length 6 0 0) (.ref H1.length 7 0 0) 0 0⟩++[(⟨7,94,3,[]⟩:VObj)])[i]? = some ob:=fun {i ob} a1 a2=>ap_old (by rw[set_ne (fun e=>a2 e.symm)];exact a1) _
 have hG2:(H1.set kG ⟨kG,52,1,genL s (planS s s.funcs.length) ⟨kG,kG,kE,kE,kB,kB⟩ (.ref H.length 6 0 0) (.ref H1.length 7 0 0) 0 0⟩++[(⟨7,94,3,[]⟩:VObj)])[kG]? = some ⟨kG,52,1,genL s (planS s s.funcs.length) ⟨kG,kG,kE,kE,kB,kB⟩ (.ref H.length 6 0 0) (.ref H1.length 7 0 0) 0 0⟩:=ap_old (set_get hG1) _
 have hI2:(H1.set kG ⟨kG,52,1,genL s (planS s s.funcs.length) ⟨kG,kG,kE,kE,kB,kB⟩ (.ref H.length 6 0 0) (.ref H1.length 7 0 0) 0 0⟩++[(⟨7,94,3,[]⟩:VObj)])[H1.length]? = some ⟨7,94,3,[]⟩:=by
  rw[List.getElem?_append_right (by simp)];simp
 generalize (H1.set kG ⟨kG,52,1,genL s (planS s s.funcs.length) ⟨kG,kG,kE,kE,kB,kB⟩ (.ref H.length 6 0 0) (.ref H1.length 7 0 0) 0 0⟩++[(⟨7,94,3,[]⟩:VObj)])=H2 at *
 have ne:∀ {i:Nat} {ob:VObj},H[i]? = some ob→ob.ty≠52→i≠kG:=fun {i ob} a1 a2 e=>by subst e;rw[hG]at a1;cases a1;exact a2 rfl
 have tt:∀ {i:Nat} {ob:VObj},H[i]? = some ob→ob.ty≠52→H2[i]? = some ob:=fun a1 a2=>t2 (t1 a1 (ne a1 a2)) (ne a1 a2)
 have er:List.replicate s.funcs.length (I 0)=(List.replicate s.funcs.length (0:Int)).map I:=by rw[List.map_replicate]
 rw[er]at hE
 have hGH:GH s (planS s s.funcs.length) 0 0 ⟨kG,kG,kE,kE,kB,kB⟩ H2 [] [] (List.replicate s.funcs.length 0) (List.replicate s.funcs.length nilv) :=
  ⟨⟨_,_,hG2,⟨H.length,6,rfl,t2 hI1 (by omega)⟩,⟨H1.length,7,rfl,hI2⟩⟩,tt hE (by simp),tt hB (by simp)⟩
 have v0:Wk ⟨env,H,6⟩ ⟨[(2,.ptr 1 1 0),(4,.ptr 2 2 0),(5,.ptr kG kG 0)],H,6⟩:=by
  refine Wk.mk (fun p hp=>?_) ⟨[],by simp⟩ (Nat.le_refl _)
  simp only[List.mem_cons,List.not_mem_nil,or_false]at hp
  rcases hp with rfl | rfl | rfl
  ·exact g2
  ·exact g4
  ·exact g5
 exact ⟨_,v0.trans (v1.trans v2),of_B h hGH (by simp) (fun x hx=>by rw[(List.mem_replicate.1 hx).2];rfl) (tt h1 (by simp)) (tt h2 (by simp)) h1E h1B h2E h2B _⟩
set_option maxHeartbeats 4000000 in
theorem of22N_c (h:OfH s):ContractN Tryz.prog 6 [spA s] (fun r=>r=ofA s):=by
 have hq:=f_emit_Of
 unfold compF compFp at hq
 refine ContractN.of_call (VCall.of_bodyS (pt:=false) (pf:=false) hmix hq (by simp) ?_)
 have h64:=h.e.r.n1
 have hmx:(200000:Nat)≤maxLen:=by decide
 have hdat:=h.dat
 have key:=fun env H kG kE kB=>of_A h (env:=env) (H:=H) (kG:=kG) (kE:=kE) (kB:=kB)
 simp only[tailC,c_emit_Of]at key
 simp only[c_emit_Of,go_sem,VWs_seq]
 refine ⟨⟨[(1,.ptr 0 0 0),(2,.ptr 1 1 0)],[⟨0,24,1,[I s.words,fnsA s.funcs]⟩,⟨1,29,1,[nilv,I 0]⟩],2⟩,Wk.mk (by simp[get_cons]) ⟨[],by simp⟩ (Nat.le_refl _),?_⟩
 simp only[go_sem,VWs_seq]
 refine VCall.of_contract (plan_c s h.e.i h.e.r h.e.dat h.e.dep) (SleL.pure rfl) fun x hx=>?_
 subst hx
 simp only[go_sem]
 have hd2:¬ (32768:Int)<datE s s.funcs.length:=by have:=h.dat;unfold dataE at this;omega
 refine ⟨⟨[(1,.ptr 0 0 0),(2,.ptr 1 1 0),(4,.ptr 2 2 0)],[⟨0,24,1,[I s.words,fnsA s.funcs]⟩,⟨1,29,1,[nilv,I 0]⟩,⟨2,46,1,[dlsA (dlsS s s.funcs.length),ints (bksS s s.funcs.length),ints (bssS s s.funcs.length),I (datE s s.funcs.length)]⟩],3⟩,Wk.mk (by simp[get_cons]) ⟨[],by simp[planS]⟩ (Nat.le_refl _),?_⟩
 simp only[go_sem,VWs_seq,eq_false hd2]
 refine ⟨⟨[(1,.ptr 0 0 0),(2,.ptr 1 1 0),(4,.ptr 2 2 0)],[⟨0,24,1,[I s.words,fnsA s.funcs]⟩,⟨1,29,1,[nilv,I 0]⟩,⟨2,46,1,[dlsA (dlsS s s.funcs.length),ints (bksS s s.funcs.length),ints (bssS s s.funcs.length),I (datE s s.funcs.length)]⟩],3⟩,Wk.mk (by simp[get_cons]) ⟨[],by simp⟩ (Nat.le_refl _),?_⟩
 simp only[go_sem,VWs_seq,flat_rep]
 repeat' (with_reducible apply And.intro)
 all_goals try omega
 ·exact key _ _ 5 3 4 rfl rfl rfl rfl rfl rfl rfl rfl rfl (by decide) (by decide) (by decide) (by decide)
 ·exact key _ _ 5 4 3 rfl rfl rfl rfl rfl rfl rfl rfl rfl (by decide) (by decide) (by decide) (by decide)
theorem of22_c (h:OfH s):Contract Tryz.prog 6 [spA s] (fun r=>r=ofA s):=(of22N_c h).old
end
def filD (L:Nat) (d:List Int) (P:Nat→Bool):List Int:=(List.range L).map fun i=>if P i then d.getD i (-1) else -1
theorem fil_len (L:Nat) (d:List Int) (P:Nat→Bool):(filD L d P).length=L:=by simp[filD]
theorem fil_at {L:Nat} {d:List Int} {P:Nat→Bool} {i:Nat} (h:i<L):(filD L d P).getD i (-1)=if P i then d.getD i (-1) else -1:=by simp[filD,List.getD,h]
theorem fil_out {L:Nat} {d:List Int} {P:Nat→Bool} {i:Nat} (h:L≤i):(filD L d P).getD i (-1) = -1:=by
 rw[List.getD,List.getElem?_eq_none (by rw[fil_len];exact h)];rfl
theorem neg_out {d:List Int} {i:Nat} (h:0≤d.getD i (-1)):i<d.length:=Classical.byContradiction fun hn=>by
 rw[List.getD,List.getElem?_eq_none (by omega)]at h;exact absurd h (by decide)
section
variable {s:SP} {f:Nat}
theorem fil_sol {d:List Int} (hd:Sol s f d) (P:Nat→Bool) (h0:P 0=true)
 (hs:∀ i,P i=true→0≤d.getD i (-1)→∀ v,effD s f ((s.fn f).code.getD i default) (d.getD i (-1))=some v→∀ k ∈ nextL ((s.fn f).code.getD i default) i,d.getD k.toNat (-1)=v→P k.toNat=true) :
 Sol s f (filD (s.fn f).code.length d P):=by
 have hl:0<(s.fn f).code.length:=List.length_pos_iff.2 hd.ne
 refine ⟨hd.ne,fil_len _ _ _,by rw[fil_at hl,h0];exact hd.zero,fun i hi hp=>?_⟩
 rw[fil_len]at hi
 rw[fil_at hi]at hp
 by_cases hP:P i=true
 ·rw[if_pos hP]at hp
  obtain ⟨v,h1,h2⟩:=hd.cl i (by rw[hd.len];exact hi) hp
  refine ⟨v,by rw[fil_at hi,if_pos hP];exact h1,fun k hk=>?_⟩
  obtain ⟨k1,k2,k3⟩:=h2 k hk
  exact ⟨k1,k2,by rw[fil_at (by omega),if_pos (hs i hP hp v h1 k hk k3)];exact k3⟩
 ·rw[if_neg hP]at hp;exact absurd hp (by decide)
theorem negs_cmp:∀ (l m:List Int),l.length=m.length→(∀ i,l.getD i (-1)<0→m.getD i (-1)<0)→negs l≤negs m∧((∃ i,0≤l.getD i (-1)∧m.getD i (-1)<0)→negs l<negs m)
 | [],[],_,_=>⟨Nat.le_refl _,fun ⟨i,h,_⟩=>absurd (neg_out h) (Nat.not_lt_zero _)⟩
 | [],_::_,h,_=>by simp at h
 | _::_,[],h,_=>by simp at h
 | a::l,b::m,hl,h=>by
  obtain ⟨i1,i2⟩:=negs_cmp l m (by simpa using hl) fun i hi=>by have:=h (i+1);simp only[List.getD_cons_succ]at this;exact this hi
  have h0:=h 0
  simp only[List.getD_cons_zero]at h0
  unfold negs at *
  simp only[List.countP_cons,decide_eq_true_eq]
  by_cases ha:a<0
  ·rw[if_pos ha,if_pos (h0 ha)]
   refine ⟨by omega,fun ⟨i,g1,g2⟩=>?_⟩
   cases i with
   | zero=>simp only[List.getD_cons_zero]at g1;omega
   | succ i=>simp only[List.getD_cons_succ]at g1 g2;have:=i2 ⟨i,g1,g2⟩;omega
  ·rw[if_neg ha]
   refine ⟨by split<;>omega,fun ⟨i,g1,g2⟩=>?_⟩
   cases i with
   | zero=>simp only[List.getD_cons_zero]at g2;rw[if_pos g2];omega
   | succ i=>simp only[List.getD_cons_succ]at g1 g2;have:=i2 ⟨i,g1,g2⟩;split<;>omega
theorem sol_max:∀ (n:Nat) (d:List Int),Sol s f d→(s.fn f).code.length-negs d≤n→∃ d,Sol s f d∧∀ e,Sol s f e→negs e≤negs d
 | 0,d,hd,hn=>⟨d,hd,fun e he=>by have:=negs_le (dl:=e);have:=he.len;omega⟩
 | n+1,d,hd,hn=>by
  by_cases h:∃ e,Sol s f e∧negs d<negs e
  ·obtain ⟨e,he,hlt⟩:=h
   have:=negs_le (dl:=e);have:=he.len
   exact sol_max n e he (by omega)
  ·exact ⟨d,hd,fun e he=>Classical.byContradiction fun hn=>h ⟨e,he,by omega⟩⟩
theorem fil_negs {d:List Int} {P:Nat→Bool} (hd:d.length=(s.fn f).code.length):negs d≤negs (filD (s.fn f).code.length d P)∧((∃ i,0≤d.getD i (-1)∧P i=false)→negs d<negs (filD (s.fn f).code.length d P)):=by
 obtain ⟨h1,h2⟩:=negs_cmp d (filD (s.fn f).code.length d P) (by rw[fil_len,hd]) fun i hi=>by
  by_cases hl:i<(s.fn f).code.length
  ·rw[fil_at hl];split
   ·exact hi
   ·decide
  ·rw[fil_out (by omega)];decide
 refine ⟨h1,fun ⟨i,g1,g2⟩=>h2 ⟨i,g1,?_⟩⟩
 rw[fil_at (by rw[← hd];exact neg_out g1),g2,if_neg (by decide)];decide
theorem cnt_step (v:Int) (hv:0≤v):∀ (l:List Int) (i:Nat),l[i]? = some v→l.countP (fun x=>decide (0≤x∧x<v))+1≤l.countP (fun x=>decide (0≤x∧x<v+1))
 | [],i,h=>by simp at h
 | a::l,i,h=>by
  have hm:l.countP (fun x=>decide (0≤x∧x<v))≤l.countP (fun x=>decide (0≤x∧x<v+1)):=List.countP_mono_left fun x _ hx=>by simp only[decide_eq_true_eq]at hx ⊢;omega
  simp only[List.countP_cons,decide_eq_true_eq]
  cases i with
  | zero =>
   simp only[List.getElem?_cons_zero,Option.some.injEq]at h;subst h
   rw[if_neg (by omega),if_pos (by omega)];omega
  | succ i =>
   have:=cnt_step v hv l i (by simpa using h)
   by_cases g:0≤a∧a<v
   ·rw[if_pos g,if_pos (by omega)];omega
   ·rw[if_neg g];split<;>omega
theorem depR_ex (h:∃ d,Sol s f d):∃ d,DepthsR s f d true:=by
 obtain ⟨d0,h0⟩:=h
 obtain ⟨d1,h1,m1⟩:=sol_max _ d0 h0 (Nat.le_refl _)
 obtain ⟨d,hd⟩:∃ d,d=filD (s.fn f).code.length d1 (fun i=>decide (0≤d1.getD i (-1))):=⟨_,rfl⟩
 have hs:Sol s f d:=by
  rw[hd]
  exact fil_sol h1 _ (by rw[h1.zero];rfl) fun i hi hp v hv k hk e=>by
   have:=effD_bound hv
   rw[decide_eq_true_eq];omega
 have hm:∀ e,Sol s f e→negs e≤negs d:=fun e he=>Nat.le_trans (m1 e he) (by rw[hd];exact (fil_negs h1.len).1)
 have hge:∀ i,-1≤d.getD i (-1):=fun i=>by
  rw[hd]
  by_cases hl:i<(s.fn f).code.length
  ·rw[fil_at hl];split
   ·rename_i h;rw[decide_eq_true_eq]at h;omega
   ·decide
  ·rw[fil_out (by omega)];decide
 clear hd
 have none:∀ P:Nat→Bool,Sol s f (filD (s.fn f).code.length d P)→∀ i,0≤d.getD i (-1)→P i=true:=fun P hP i hi=>Classical.byContradiction fun hn=>by
  have:=(fil_negs (P:=P) hs.len).2 ⟨i,hi,by simpa using hn⟩
  have:=hm _ hP
  omega
 have hpos:0<d.length:=by rw[hs.len];exact List.length_pos_iff.2 hs.ne
 have hval:∀ v:Nat,(∃ i,(v:Int)≤d.getD i (-1))→∃ i,d[i]? = some (v:Int):=fun v ⟨i,hi⟩=>by
  refine Classical.byContradiction fun hn=>?_
  have hne:∀ k,d.getD k (-1)≠(v:Int):=fun k e=>hn ⟨k,by
   have:=neg_out (d:=d) (i:=k) (by omega)
   rw[List.getD,List.getElem?_eq_getElem this]at e
   rw[List.getElem?_eq_getElem this,← e];rfl⟩
  have hv0:v≠0:=fun e=>by subst e;exact hne 0 hs.zero
  have:=none (fun i=>decide (d.getD i (-1)<(v:Int))) (fil_sol hs _ (by rw[decide_eq_true_eq,hs.zero];omega) fun i hi hp w hw k hk e=>by
   rw[decide_eq_true_eq]at hi ⊢
   have:=effD_bound hw
   have:=hne k.toNat
   omega) i (by omega)
  rw[decide_eq_true_eq]at this
  omega
 have hcnt:∀ v:Nat,(∃ i,(v:Int)≤d.getD i (-1))→v≤d.countP (fun x=>decide (0≤x∧x<(v:Int))):=fun v=>by
  induction v with
  | zero=>exact fun _=>Nat.zero_le _
  | succ v ih =>
   intro ⟨i,hi⟩
   have h1:=ih ⟨i,by omega⟩
   obtain ⟨j,hj⟩:=hval v ⟨i,by omega⟩
   have:=cnt_step (v:Int) (by omega) d j hj
   rw[show ((v+1:Nat):Int)=(v:Int)+1 by omega];omega
 refine ⟨d,fun _=>⟨hs,fun i=>?_,hge⟩,fun out ho=>⟨rfl,fun i hi=>?_⟩⟩
 ·by_cases hi:0≤d.getD i (-1)
  ·have:=hcnt (d.getD i (-1)).toNat ⟨i,by omega⟩
   have:=List.countP_le_length (l:=d) (p:=fun x=>decide (0≤x∧x<((d.getD i (-1)).toNat:Int)))
   omega
  ·omega
 ·have:=none (fun i=>decide (out.getD i (-1)=d.getD i (-1))) (fil_sol hs _ (by rw[decide_eq_true_eq,hs.zero,ho.zero]) fun i hi hp v hv k hk e=>by
   rw[decide_eq_true_eq]at hi ⊢
   have hlt:=neg_out (d:=out) (i:=i) (by omega)
   obtain ⟨w,k1,k2⟩:=ho.cl i hlt (by omega)
   rw[hi,hv]at k1
   cases k1
   rw[(k2 k hk).2.2,e]) i hi
  rw[decide_eq_true_eq]at this
  exact this
end
theorem foldmax_ge:∀ (l:List Int) (a:Int),a≤l.foldl max a∧∀ x ∈ l,x≤l.foldl max a
 | [],a=>⟨Int.le_refl _,fun x hx=>by cases hx⟩
 | y::l,a=>by
  obtain ⟨h1,h2⟩:=foldmax_ge l (max a y)
  simp only[List.foldl_cons]
  refine ⟨by omega,fun x hx=>?_⟩
  rcases List.mem_cons.1 hx with rfl | hx
  ·omega
  ·exact h2 x hx
theorem foldmax_le {n:Int}:∀ (l:List Int) (a:Int),a≤n→(∀ x ∈ l,x≤n)→l.foldl max a≤n
 | [],a,h,_=>h
 | y::l,a,h,k=>foldmax_le l (max a y) (by have:=k y List.mem_cons_self;omega) fun x hx=>k x (List.mem_cons_of_mem _ hx)
theorem dpE_nn (l:List Int):0≤dpE l:=(foldmax_ge l 0).1
theorem dpE_at {l:List Int} {k:Nat} {d:Nat} (h:l.getD k (-1)=(d:Int)):(d:Int)≤dpE l:=by
 rw[List.getD]at h
 cases hk:l[k]? with
 | none=>rw[hk]at h;simp at h;try omega
 | some x=>rw[hk]at h;exact (foldmax_ge l 0).2 _ (by rw[← h];exact List.mem_of_getElem? hk)
section
variable {s:SP}
theorem datE_next (f:Nat):datE s (f+1)=baseE s f+dpE (depS s f):=rfl
theorem base_ge (f:Nat):datE s f≤baseE s f:=by unfold baseE;split<;>omega
theorem base_le (f:Nat):baseE s f≤datE s f+1:=by unfold baseE;split<;>omega
theorem base_back {f:Nat} (h:f+1<s.funcs.length):baseE s f=datE s f+1:=by unfold baseE;rw[if_neg (by omega)]
theorem datE_mono {f g:Nat} (h:f≤g):datE s f≤datE s g:=by
 induction h with
 | refl=>exact Int.le_refl _
 | @step m h ih=>have:=base_ge (s:=s) m;have:=dpE_nn (depS s m);rw[Nat.succ_eq_add_one,datE_next];omega
theorem words_le (f:Nat):s.words≤datE s f:=datE_mono (Nat.zero_le f)
theorem datE_le {f:Nat} (h:f≤s.funcs.length):datE s f≤dataE s:=datE_mono h
theorem depS_R (h:RightP s) {f:Nat} (hf:f<s.funcs.length):DepthsR s f (depS s f) true:=by
 obtain ⟨d,hd⟩:=depR_ex (h.fn f hf).sol
 rw[depS_eq hd];exact hd
theorem depS_sol (h:RightP s) {f:Nat} (hf:f<s.funcs.length):Sol s f (depS s f):=((depS_R h hf).1 rfl).1
theorem depS_mem (h:RightP s) {f:Nat} (hf:f<s.funcs.length) {x:Int} (hx:x ∈ depS s f):x≤(s.fn f).code.length:=by
 obtain ⟨h1,h2,_⟩:=(depS_R h hf).1 rfl
 obtain ⟨i,hi,rfl⟩:=List.getElem_of_mem hx
 have:=h2 i
 rw[List.getD,List.getElem?_eq_getElem hi,h1.len]at this
 exact this
theorem dpS_le (h:RightP s) {f:Nat} (hf:f<s.funcs.length):dpE (depS s f)≤(s.fn f).code.length:=foldmax_le _ _ (by omega) fun x hx=>depS_mem h hf hx
def hndI (s:SP) (x:SI):Nat:=if x.op=10 then (s.fn x.a.toNat).params.toNat else 0
def hndL (s:SP) (l:List SI):Nat:=(l.map (hndI s)).sum
def totS (w:SF→Nat) (l:List SF):Nat:=(l.map w).sum
theorem totS_step (w:SF→Nat) (l:List SF) {k:Nat} (h:k<l.length):totS w (l.take (k+1))=totS w (l.take k)+w (l.getD k default):=by
 unfold totS
 have e:l.take (k+1)=l.take k++[l.getD k default]:=by rw[List.take_add_one];simp[List.getD,List.getElem?_eq_getElem h]
 rw[e];simp
theorem totS_take (w:SF→Nat) (l:List SF) (k:Nat):totS w (l.take k)≤totS w l:=by
 conv=>rhs;rw[← List.take_append_drop k l]
 unfold totS
 rw[List.map_append,List.sum_append];omega
theorem totS_mem {w:SF→Nat}:∀ {l:List SF} {x:SF},x ∈ l→w x≤totS w l
 | a::l,x,h=>by
  simp only[totS,List.map_cons,List.sum_cons]
  rcases List.mem_cons.1 h with rfl | h
  ·omega
  ·have:=totS_mem (w:=w) h;unfold totS at this;omega
def lenF (g:SF):Nat:=g.code.length
def sizeN (s:SP):Nat:=totS lenF s.funcs
def hndN (s:SP):Nat:=totS (fun g=>hndL s g.code) s.funcs
theorem fn_mem {f:Nat} (hf:f<s.funcs.length):s.fn f ∈ s.funcs:=by
 unfold SP.fn;rw[List.getD,List.getElem?_eq_getElem hf];exact List.getElem_mem hf
theorem datE_bd (h:RightP s):∀ f≤s.funcs.length,datE s f≤s.words+f+totS lenF (s.funcs.take f)
 | 0,_=>by show s.words≤_;omega
 | f+1,hf=>by
  have h1:=datE_bd h f (by omega)
  have h2:=base_le (s:=s) f
  have h3:=dpS_le h (f:=f) (by omega)
  rw[datE_next,totS_step lenF s.funcs (by omega)]
  show _≤s.words+((f+1:Nat):Int)+((totS lenF (s.funcs.take f)+(s.fn f).code.length:Nat):Int)
  omega
end
set_option maxRecDepth 10000
open Go.V
section
variable {α:Type}
theorem pg2 (T:List α) (x y z:α):(T++[x]++[y]++[z])[T.length+1+1]? = some z:=by
 rw[List.getElem?_append_right (by simp)];simp
theorem pg02 (T:List α) (x y z:α):(T++[x]++[y]++[z])[T.length]? = some x:=by simp
theorem pg12 (T:List α) (x y z:α):(T++[x]++[y]++[z])[T.length+1]? = some y:=by simp
theorem ps01 (T:List α) (x y z:α):(T++[x]++[y]).set T.length z=T++[z]++[y]:=by
 rw[List.append_assoc,List.set_append_right _ _ (by simp)];simp
end
theorem frC_len (l:List Fm):(l.flatMap frC).length=2*l.length:=by
 induction l with
 | nil=>rfl
 | cons c l ih=>simp only[List.flatMap_cons,List.length_append,ih,List.length_cons];simp[frC];omega
section
variable (c0 c1 c2 vs vc c5 c6 c7:AV) (o0 o1 o2 o4:VObj) (T:List VObj) (sm nx:Nat)
theorem fpush_v (l:List Fm) (c:Fm) (hl:l.length≤1000000) (h:PF T vc l) (C:AV→List VObj→Nat→Prop)
 (hC:∀ r T' vc' nx',PF T' vc' (c::l)→Kp 69 T T'→C r (o0::o1::o2::mcO sm [c0,c1,c2,vs,vc',c5,c6,c7]::o4::T') nx') :
 VCall Tryz.prog 21 [.ptr 3 sm 4,.agg (frC c)] (o0::o1::o2::mcO sm [c0,c1,c2,vs,vc,c5,c6,c7]::o4::T) nx C:=by
 refine VCall.of_body hmix f_stack_pile_stack_frame_push (by simp) ?_
 have hmx:(2000000:Nat)≤maxLen:=by decide
 rcases h with ⟨rfl,rfl⟩ | ⟨k,s,rest,rfl,hT⟩
 ·simp only[go_sem,c_stack_pile_stack_frame_push,↓plen,ponx,pg0,pg1,frC]
  repeat (refine And.intro (by first | omega | rfl) ?_)
  refine hC _ _ _ _ (.inr ⟨T.length+1+1,nx+1+1,[],rfl,?_⟩) ?_
  ·rw[pg2];simp[frC]
  ·rw[List.append_assoc,List.append_assoc];exact Kp.add _
 ·have hT2:∀ x y:VObj,(T++[x]++[y])[k]? = some ⟨s,69,2,l.reverse.flatMap frC++rest⟩:=fun x y=>by
   rw[List.append_assoc,List.getElem?_append_left (List.getElem?_eq_some_iff.1 hT).1];exact hT
  have hT1:∀ x:VObj,(T++[x])[k]? = some ⟨s,69,2,l.reverse.flatMap frC++rest⟩:=fun x=>by
   rw[List.getElem?_append_left (List.getElem?_eq_some_iff.1 hT).1];exact hT
  have hk:=(List.getElem?_eq_some_iff.1 hT).1
  have hfl:(l.reverse.flatMap frC).length=l.length*2:=by rw[frC_len,List.length_reverse];omega
  simp only[go_sem,c_stack_pile_stack_frame_push,↓plen,ponx,pg0,pg1,frC,hT2]
  repeat (refine And.intro (by first | omega | rfl) ?_)
  refine hC _ _ _ _ (.inr ⟨k,nx+1+1,[],rfl,?_⟩) ?_
  ·rw[List.getElem?_set,if_pos rfl,if_pos (by simp;omega),List.take_append_of_le_length (by omega),List.take_of_length_le (by omega)]
   simp[frC]
  ·refine Kp.trans ?_ (Kp.put (hT2 _ _) rfl)
   rw[List.append_assoc];exact Kp.add _
theorem fsize_v (l:List Fm) (h:PF T vc l) (C:AV→List VObj→Nat→Prop)
 (hC:C (I l.length) (o0::o1::o2::mcO sm [c0,c1,c2,vs,vc,c5,c6,c7]::o4::T) nx) :
 VCall Tryz.prog 22 [.ptr 3 sm 4] (o0::o1::o2::mcO sm [c0,c1,c2,vs,vc,c5,c6,c7]::o4::T) nx C:=by
 refine VCall.of_body hmix f_stack_pile_stack_frame_size (by simp) ?_
 rcases h with ⟨rfl,rfl⟩ | ⟨k,s,rest,rfl,hT⟩
 ·simp only[go_sem,c_stack_pile_stack_frame_size,↓plen]
  exact hC
 ·simp only[go_sem,c_stack_pile_stack_frame_size,↓plen,hT]
  repeat (refine And.intro (by first | omega | rfl) ?_)
  exact hC
theorem fpop_v (l:List Fm) (c:Fm) (hl:l.length≤1000000) (h:PF T vc (c::l)) (C:AV→List VObj→Nat→Prop)
 (hC:∀ R vc' nx',PF (T++R) vc' l→C (.agg (frC c)) (o0::o1::o2::mcO sm [c0,c1,c2,vs,vc',c5,c6,c7]::o4::(T++R)) nx') :
 VCall Tryz.prog 23 [.ptr 3 sm 4] (o0::o1::o2::mcO sm [c0,c1,c2,vs,vc,c5,c6,c7]::o4::T) nx C:=by
 refine VCall.of_body hmix f_stack_pile_stack_frame_pop (by simp) ?_
 rcases h with ⟨_,h⟩ | ⟨k,s,rest,rfl,hT⟩
 ·cases h
 have e1':IntKind.i64.wrap ((l.length:Int)+1-1)=(l.length:Int):=by rw[i64_in (by omega) (by omega)];omega
 have e2:(c::l).reverse.flatMap frC++rest=l.reverse.flatMap frC++I c.f::I c.at_::rest:=by simp[frC]
 rw[e2]at hT
 have hfl:(l.reverse.flatMap frC).length=l.length*2:=by rw[frC_len,List.length_reverse];omega
 have hcell:∀ C:AV→Prop,cellT (l.reverse.flatMap frC++I c.f::I c.at_::rest) (l.length*2) true 2 C .mk=C (.agg [I c.f,I c.at_]):=fun C=>by
  simp only[cellT,cellW,partOK,partA,if_true]
  rw[← hfl,List.drop_left]
  simp
 have hT1:∀ x:VObj,(T++[x])[k]? = some ⟨s,69,2,l.reverse.flatMap frC++I c.f::I c.at_::rest⟩:=fun x=>by
  rw[List.getElem?_append_left (List.getElem?_eq_some_iff.1 hT).1];exact hT
 have hT2:∀ x y:VObj,(T++[x]++[y])[k]? = some ⟨s,69,2,l.reverse.flatMap frC++I c.f::I c.at_::rest⟩:=fun x y=>by
  rw[List.append_assoc,List.getElem?_append_left (List.getElem?_eq_some_iff.1 hT).1];exact hT
 simp only[go_sem,c_stack_pile_stack_frame_pop,↓plen,ponx,pg01,pg1,ps1,ps01,hT1,hT2,Int.natCast_add,Int.cast_ofNat_Int,e1',hcell]
 repeat (refine And.intro (by first | omega | rfl) ?_)
 have:=hC [⟨nx,69,1,[I c.f,I c.at_]⟩,⟨nx+1,69,1,[I c.f,I c.at_]⟩] (.ref (k+5) s 0 l.length) (nx+1+1)
  (.inr ⟨k,s,I c.f::I c.at_::rest,rfl,by rw[List.getElem?_append_left (List.getElem?_eq_some_iff.1 hT).1];exact hT⟩)
 simpa [frC] using this
end
set_option maxRecDepth 10000
open Go.V
theorem stab3 {o0 o1 o2 o3 o3' o4:VObj} {T:List VObj} (h:o3'.s=o3.s) (hz:o3'.sz=o3.sz):Stab (fun _=>True) 1 (o0::o1::o2::o3::o4::T) (o0::o1::o2::o3'::o4::T) :=
 Stab.put (H:=o0::o1::o2::o3::o4::T) (k:=3) (ob:=o3) (ob':=o3') rfl h hz
theorem own_eq {α:Type} (m:List α) (f s p:Nat) (z:α) (xs:List α) (ha:xs.length=p) (hp:p≤s) (hs:f+s≤m.length) :
 (m.take f++List.replicate s z++m.drop (f+s)).take f++xs.take (min s p)++(m.take f++List.replicate s z++m.drop (f+s)).drop (f+min s p)=m.take f++(xs++List.replicate (s-p) z)++m.drop (f+s):=by
 have hf:(m.take f).length=f:=by simp;omega
 rw[Nat.min_eq_right hp,List.take_of_length_le (by omega:xs.length≤p)]
 have e1:(m.take f++List.replicate s z++m.drop (f+s)).take f=m.take f:=by
  rw[List.append_assoc,List.take_append_of_le_length (by omega),List.take_of_length_le (by omega)]
 have e2:(m.take f++List.replicate s z++m.drop (f+s)).drop (f+p)=List.replicate (s-p) z++m.drop (f+s):=by
  rw[List.append_assoc,List.drop_append,List.drop_eq_nil_of_le (by omega),hf,Nat.add_sub_cancel_left,List.nil_append,List.drop_append_of_le_length (by simp;omega),List.drop_replicate]
 rw[e1,e2];simp
theorem args_eq (l:List Int) (rest:List AV) (p:Nat) (hp:p≤l.length):((l.reverse.map U32++rest).drop (l.length-p)).take p=((l.take p).reverse).map U32:=by
 have e:l.reverse=(l.drop p).reverse++(l.take p).reverse:=by rw[← List.reverse_append,List.take_append_drop]
 rw[e,List.map_append,List.append_assoc,List.drop_append,List.drop_eq_nil_of_le (by simp),List.nil_append]
 simp only[List.length_map,List.length_reverse,List.length_drop,Nat.sub_self,List.drop_zero]
 rw[List.take_append_of_le_length (by simp;omega),List.take_of_length_le (by simp;omega)]
section
variable (c0 c1 vs vc vo:AV) (inp:ByteArray) (o0 o1 o4:VObj) (T:List VObj) (s2 sm nx:Nat) (mem:List Int) (rd:Nat)
abbrev wdO (s2:Nat) (mem:List Int):VObj:=⟨s2,56,1,mem.map U32⟩
theorem not_v (v:Int) (H:List VObj) (C:AV→List VObj→Nat→Prop) (hC:C (U32 (if v=0 then 1 else 0)) H nx):VCall Tryz.prog 40 [U32 v] H nx C:=by
 refine VCall.of_body hmix f_stack_not (by simp) ?_
 by_cases h:v=0
 ·simp only[go_sem,c_stack_not,eq_true h];rw[if_pos h]at hC;exact hC
 ·simp only[go_sem,c_stack_not,eq_false h];rw[if_neg h]at hC;exact hC
theorem sget_v (hi:inp.size≤1000000000) (hr:rd≤1000000000) (C:AV→List VObj→Nat→Prop)
 (hC:C (U32 (if rd<inp.size then byteAt inp rd else 256)) (o0::o1::wdO s2 mem::mcO sm [c0,c1,.ref 2 s2 0 mem.length,vs,vc,strv inp,I ((if rd<inp.size then rd+1 else rd:Nat):Int),vo]::o4::T) nx) :
 VCall Tryz.prog 41 [.ptr 3 sm 0] (o0::o1::wdO s2 mem::mcO sm [c0,c1,.ref 2 s2 0 mem.length,vs,vc,strv inp,I rd,vo]::o4::T) nx C:=by
 refine VCall.of_body hmix f_stack_machine_get (by simp) ?_
 by_cases h:rd<inp.size
 ·have h1:¬ (inp.size:Int)≤(rd:Int):=by omega
  have h2:(rd:Int)<(inp.size:Int):=by omega
  have e1:IntKind.i64.wrap ((rd:Int)+1)=((rd+1:Nat):Int):=by rw[i64_in (by omega) (by omega)];omega
  rw[if_pos h,if_pos h]at hC
  have hb:IntKind.u32.wrap (byteAt inp rd)=byteAt inp rd:=by
   refine w32_in ⟨?_,?_⟩<;>unfold byteAt
   ·omega
   ·have:=(inp.data.toList.getD rd 0).toNat_lt;omega
  simp only[go_sem,c_stack_machine_get,↓plen,eq_false h1,e1,hb]
  exact ⟨h,hC⟩
 ·have h1:(inp.size:Int)≤(rd:Int):=by omega
  rw[if_neg h,if_neg h]at hC
  simp only[go_sem,c_stack_machine_get,↓plen,eq_true h1]
  exact hC
theorem enter_v (g:SF) (l:List Int) (hg:CallOK g mem.length l.length) (hm:mem.length≤1000000) (hl:l.length≤1000000) (h:PW T vs l) (C:AV→List VObj→Nat→Prop)
 (hC:∀ r R vs' nx',PW (T++R) vs' (l.drop g.params.toNat)→C r (o0::o1::wdO s2 (putR mem g.first.toNat (ownW g l))::mcO sm [c0,c1,.ref 2 s2 0 mem.length,vs',vc,strv inp,I rd,vo]::o4::(T++R)) nx') :
 VCall Tryz.prog 20 [.ptr 3 sm 0,sfA g] (o0::o1::wdO s2 mem::mcO sm [c0,c1,.ref 2 s2 0 mem.length,vs,vc,strv inp,I rd,vo]::o4::T) nx C:=by
 refine VCall.of_body hmix f_stack_machine_enter (by simp) ?_
 obtain ⟨g1,g2,g3,g4,g5⟩:=hg
 have e1:IntKind.i64.wrap (g.first+g.slots)=g.first+g.slots:=i64_in (by omega) (by omega)
 simp only[go_sem,c_stack_machine_enter,↓plen,ponx,pg0,e1]
 repeat (refine And.intro (by first | omega | rfl) ?_)
 refine take_v c0 c1 _ vs vc _ _ vo o0 o1 _ o4 _ sm _ l g.params ⟨g1,g5⟩ hl (by
  rcases h with h | ⟨k,s,rest,q1,q2,q3⟩
  ·exact .inl h
  ·exact .inr ⟨k,s,rest,q1,by rw[List.getElem?_append_left (List.getElem?_eq_some_iff.1 q2).1];exact q2,q3⟩) _ fun vs' r h1 h2=>?_
 refine ⟨stab3 rfl rfl,?_⟩
 have e2:(g.first+g.slots).toNat-g.first.toNat=g.slots.toNat:=by omega
 have e3:g.first.toNat+g.slots.toNat=g.first.toNat+(ownW g l).length:=by rw[ownW_length ⟨g1,g2,g3,g4,g5⟩ rfl]
 have key:∀ xs:List AV,xs=((l.take g.params.toNat).reverse).map U32 →
  (((mem.map U32).take g.first.toNat++List.replicate g.slots.toNat (AV.val (.int .u32 0))++(mem.map U32).drop (g.first.toNat+g.slots.toNat)).take g.first.toNat++xs.take (min g.slots.toNat g.params.toNat) ++
    ((mem.map U32).take g.first.toNat++List.replicate g.slots.toNat (AV.val (.int .u32 0))++(mem.map U32).drop (g.first.toNat+g.slots.toNat)).drop (g.first.toNat+min g.slots.toNat g.params.toNat)) =
  (putR mem g.first.toNat (ownW g l)).map U32:=fun xs hx=>by
  rw[own_eq (mem.map U32) g.first.toNat g.slots.toNat g.params.toNat (AV.val (.int .u32 0)) xs (by rw[hx];simp;omega) (by omega) (by simp;omega),hx,e3]
  simp[putR,ownW]
 rcases h2 with ⟨rfl,h0⟩ | ⟨k,s,rest,rfl,hT,hr1⟩
 ·have h00:g.params.toNat=0:=by omega
  have k1:=key [] (by rw[h00];simp)
  rw[h00,Nat.min_zero]at k1
  simp only[go_sem,e2,Nat.min_zero]
  simp only[List.take_zero,List.append_nil,Nat.add_zero]at k1
  rw[k1]
  exact hC _ _ _ _ h1
 ·have k1:=key _ (args_eq l rest g.params.toNat (by omega))
  have hall:(l.reverse.map U32++rest).all AV.one=true:=by rw[List.all_append,hr1,Bool.and_true];exact one_map (fun _=>rfl) _
  simp only[go_sem,e2,hT,hall]
  rw[k1]
  exact hC _ _ _ _ h1
end
set_option maxRecDepth 10000
open Go.V
theorem PW.add {T:List VObj} {v:AV} {l:List Int} (h:PW T v l) (R:List VObj):PW (T++R) v l:=h.kp (ty:=1000000) (Kp.add R) (by decide)
theorem PF.add {T:List VObj} {v:AV} {l:List Fm} (h:PF T v l) (R:List VObj):PF (T++R) v l:=h.kp (ty:=1000000) (Kp.add R) (by decide)
theorem PO.add {T:List VObj} {v:AV} {l:List UInt8} (h:PO T v l) (R:List VObj):PO (T++R) v l:=h.kp (ty:=1000000) (Kp.add R) (by decide)
theorem byteS_eq (r:Int):((byteS r).toNat:Int)=IntKind.u8.wrap r:=by
 unfold byteS
 rw[IntKind.wrap_u8]
 simp only[UInt8.toNat_ofNat']
 omega
abbrev hpS (o0 o1 o4:VObj) (s2 sm:Nat) (c0 c1 vs vc vo:AV) (inp:ByteArray) (n:Nat) (mem:List Int) (rd:Nat) (T:List VObj):List VObj :=
 o0::o1::wdO s2 mem::mcO sm [c0,c1,.ref 2 s2 0 n,vs,vc,strv inp,I rd,vo]::o4::T
theorem do_v (s:SP) (inp:ByteArray) (σ:SM) (more:List Int) (fs:List Fm) (x:SI) (hx:In32 x.n) (hop:OkI s σ x) (hne:x.op≠8∧x.op≠9∧x.op≠10∧x.op≠11) (hw:WfS σ) (h0:σ.fin=0)
 (hi:inp.size≤1000000000) (hr:σ.rd≤1000000000) (n:Nat) (hn:n=σ.mem.length) (hm:n≤1000000) (hl:(σ.top.L++more).length≤900000) (ho:σ.out.length<65536)
 (o0 o1 o4:VObj) (s2 sm nx:Nat) (c0 c1 vs vc vo:AV) (T:List VObj) (hp:PW T vs (σ.top.L++more)) (hf:PF T vc fs) (hu:PO T vo σ.out) (C:AV→List VObj→Nat→Prop)
 (hC:∀ T' vs' vo' nx',((stepI s inp x σ).fin=0→PW T' vs' ((stepI s inp x σ).top.L++more))→PF T' vc fs→PO T' vo' (stepI s inp x σ).out →
   C (I (stepI s inp x σ).fin) (hpS o0 o1 o4 s2 sm c0 c1 vs' vc vo' inp n (stepI s inp x σ).mem (stepI s inp x σ).rd T') nx') :
 VCall Tryz.prog 24 [.ptr 3 sm 0,siA x] (hpS o0 o1 o4 s2 sm c0 c1 vs vc vo inp n σ.mem σ.rd T) nx C:=by
 refine VCall.of_body hmix f_stack_machine_do (by simp) ?_
 obtain ⟨op,a,b,q⟩:=x
 obtain ⟨mem,rd,out,steps,fin,⟨f,k,L⟩,below⟩:=σ
 obtain ⟨wm,wt,wb⟩:=hw
 simp only at hx hne h0 hr hn hl ho hp hu wm wt wb
 subst h0
 have hlen:n≤mem.length:=by omega
 have hmx:(2000000:Nat)≤maxLen:=by decide
 unfold OkI at hop
 simp only at hop
 rcases hop with e | ⟨e,ha,hb⟩ | ⟨e,ha,hb,h1⟩ | ⟨e,ha,hb,hab,h1⟩ | ⟨e,ha,hb,hab,h1⟩ | ⟨e,h1⟩ | ⟨e,h1⟩ | ⟨e,_⟩ | ⟨e,_⟩ | ⟨e,_⟩ | ⟨e,_⟩ | e | ⟨e,h1⟩
 all_goals subst e
 ·
  simp only[go_sem,c_stack_machine_do,pg0,Int.reduceBEq]
  refine push_v c0 c1 _ vs vc _ _ vo o0 o1 _ o4 _ sm _ (L++more) q (by simpa using Nat.le_trans hl (by decide)) (hp.add _) _ fun r T' vs' nx' g1 g2=>?_
  simp only[go_sem]
  exact hC _ _ _ _ (fun _=>g1) ((hf.add _).kp g2 (by decide)) ((hu.add _).kp g2 (by decide))
 ·
  simp only[go_sem,c_stack_machine_do,↓plen,pg0,cellT_U32,Int.reduceBEq]
  repeat (refine And.intro (by omega) ?_)
  refine push_v c0 c1 _ vs vc _ _ vo o0 o1 _ o4 _ sm _ (L++more) _ (by simpa using Nat.le_trans hl (by decide)) (hp.add _) _ fun r T' vs' nx' g1 g2=>?_
  simp only[go_sem]
  exact hC _ _ _ _ (fun _=>g1) ((hf.add _).kp g2 (by decide)) ((hu.add _).kp g2 (by decide))
 ·
  obtain ⟨v,L,rfl⟩:∃ v L',L=v::L':=by cases L with | nil=>simp at h1 | cons v L=>exact ⟨v,L,rfl⟩
  have hl1:(L++more).length≤1000000:=by simp at hl ⊢;omega
  have hv:In32 v:=wt v (by simp)
  have hset:(mem.map U32).set a.toNat (U32 v)=(mem.set a.toNat v).map U32:=set_map U32 _ _ _
  simp only[go_sem,c_stack_machine_do,↓plen,ponx,pg0,Int.reduceBEq]
  refine ⟨⟨?_,?_⟩,⟨?_,?_⟩,?_⟩
  all_goals
   refine pop_v c0 c1 _ vs vc _ _ vo o0 o1 _ o4 _ sm _ (L++more) v hl1 (hp.add _) _ fun vs2 g=>?_
   refine ⟨stab3 rfl rfl,?_⟩
   simp only[go_sem,↓plen,ponx,pg0,hset]
   repeat (refine And.intro (by first | omega | simp;omega) ?_)
   exact hC _ _ _ _ (fun _=>g) (hf.add _) (hu.add _)
 ·
  obtain ⟨v,L,rfl⟩:∃ v L',L=v::L':=by cases L with | nil=>simp at h1 | cons v L=>exact ⟨v,L,rfl⟩
  have hl1:(L++more).length≤1000000:=by simp at hl ⊢;omega
  have hv:In32 v:=wt v (by simp)
  have hv1:=hv.1
  have hv2:=hv.2
  have e1:IntKind.u64.wrap v=v:=by rw[IntKind.wrap_u64];omega
  have e2:IntKind.u64.wrap b=b:=by rw[IntKind.wrap_u64];omega
  simp only[go_sem,c_stack_machine_do,pg0,Int.reduceBEq]
  refine pop_v c0 c1 _ vs vc _ _ vo o0 o1 _ o4 _ sm _ (L++more) v hl1 (hp.add _) _ fun vs2 g=>?_
  by_cases h:v<b
  ·have hs:stepI s inp ⟨4,a,b,q⟩ ⟨mem,rd,out,steps,0,⟨f,k,v::L⟩,below⟩=⟨mem,rd,out,steps,0,⟨f,k,mem.getD (a+v).toNat default::L⟩,below⟩:=by
    show (if v<b then _ else _)=_
    rw[if_pos h];rfl
   rw[hs]at hC
   have e3:IntKind.i64.wrap v=v:=i64_in (by omega) (by omega)
   have e4:IntKind.i64.wrap (a+v)=a+v:=i64_in (by omega) (by omega)
   simp only[go_sem,↓plen,pg0,cellT_U32,e1,e2,e3,e4,eq_false (show ¬ b≤v by omega)]
   repeat (refine And.intro (by omega) ?_)
   refine push_v c0 c1 _ vs2 vc _ _ vo o0 o1 _ o4 _ sm _ (L++more) _ hl1 g _ fun r T' vs3 nx' k1 k2=>?_
   simp only[go_sem]
   exact hC _ _ _ _ (fun _=>k1) ((hf.add _).kp k2 (by decide)) ((hu.add _).kp k2 (by decide))
  ·have hs:stepI s inp ⟨4,a,b,q⟩ ⟨mem,rd,out,steps,0,⟨f,k,v::L⟩,below⟩=⟨mem,rd,out,steps,3,⟨f,k,v::L⟩,below⟩:=by
    show (if v<b then _ else _)=_
    rw[if_neg h]
   rw[hs]at hC
   simp only[go_sem,pg0,e1,e2,eq_true (show b≤v by omega)]
   exact hC _ _ _ _ (fun h=>by simp at h) (hf.add _) (hu.add _)
 ·
  obtain ⟨v,w,L,rfl⟩:∃ v w L',L=v::w::L':=by
   match L,h1 with
   | v::w::L,_=>exact ⟨v,w,L,rfl⟩
  have hl1:(L++more).length≤1000000:=by simp at hl ⊢;omega
  have hl2:(w::(L++more)).length≤1000000:=by simp at hl ⊢;omega
  have hv:In32 v:=wt v (by simp)
  have hw:In32 w:=wt w (by simp)
  have hv1:=hw.1
  have hv2:=hw.2
  have e1:IntKind.u64.wrap w=w:=by rw[IntKind.wrap_u64];omega
  have e2:IntKind.u64.wrap b=b:=by rw[IntKind.wrap_u64];omega
  simp only[go_sem,c_stack_machine_do,pg0,Int.reduceBEq]
  refine pop_v c0 c1 _ vs vc _ _ vo o0 o1 _ o4 _ sm _ (w::(L++more)) v hl2 (hp.add _) _ fun vs2 g=>?_
  simp only[go_sem]
  refine pop_v c0 c1 _ vs2 vc _ _ vo o0 o1 _ o4 _ sm _ (L++more) w hl1 g _ fun vs3 g3=>?_
  by_cases h:w<b
  ·have hs:stepI s inp ⟨5,a,b,q⟩ ⟨mem,rd,out,steps,0,⟨f,k,v::w::L⟩,below⟩=⟨mem.set (a+w).toNat v,rd,out,steps,0,⟨f,k,L⟩,below⟩:=by
    show (if w<b then _ else _)=_
    rw[if_pos h];rfl
   rw[hs]at hC
   have e3:IntKind.i64.wrap w=w:=i64_in (by omega) (by omega)
   have e4:IntKind.i64.wrap (a+w)=a+w:=i64_in (by omega) (by omega)
   have hset:(mem.map U32).set (a+w).toNat (U32 v)=(mem.set (a+w).toNat v).map U32:=set_map U32 _ _ _
   simp only[go_sem,↓plen,pg0,e1,e2,e3,e4,hset,eq_false (show ¬ b≤w by omega)]
   repeat (refine And.intro (by omega) ?_)
   exact hC _ _ _ _ (fun _=>g3) (hf.add _) (hu.add _)
  ·have hs:stepI s inp ⟨5,a,b,q⟩ ⟨mem,rd,out,steps,0,⟨f,k,v::w::L⟩,below⟩=⟨mem,rd,out,steps,3,⟨f,k,v::w::L⟩,below⟩:=by
    show (if w<b then _ else _)=_
    rw[if_neg h]
   rw[hs]at hC
   simp only[go_sem,pg0,e1,e2,eq_true (show b≤w by omega)]
   exact hC _ _ _ _ (fun h=>by simp at h) (hf.add _) (hu.add _)
 ·
  obtain ⟨v,w,L,rfl⟩:∃ v w L',L=v::w::L':=by
   match L,h1 with
   | v::w::L,_=>exact ⟨v,w,L,rfl⟩
  have hl1:(L++more).length≤1000000:=by simp at hl ⊢;omega
  have hl2:(w::(L++more)).length≤1000000:=by simp at hl ⊢;omega
  have hv:In32 v:=wt v (by simp)
  have hw:In32 w:=wt w (by simp)
  simp only[go_sem,c_stack_machine_do,pg0,Int.reduceBEq]
  refine pop_v c0 c1 _ vs vc _ _ vo o0 o1 _ o4 _ sm _ (w::(L++more)) v hl2 (hp.add _) _ fun vs2 g=>?_
  simp only[go_sem]
  refine pop_v c0 c1 _ vs2 vc _ _ vo o0 o1 _ o4 _ sm _ (L++more) w hl1 g _ fun vs3 g3=>?_
  simp only[go_sem,pg0]
  refine VCall.of_contract (apply_c a w v hv.1) (SleL.pure rfl) fun r hr=>?_
  subst hr
  by_cases h:(applyW a w v).2=0
  ·have hs:stepI s inp ⟨6,a,b,q⟩ ⟨mem,rd,out,steps,0,⟨f,k,v::w::L⟩,below⟩=⟨mem,rd,out,steps,0,⟨f,k,(applyW a w v).1::L⟩,below⟩:=by
    show (if (applyW a w v).2=0 then _ else _)=_
    rw[if_pos h];rfl
   rw[hs]at hC
   simp only[go_sem,h]
   refine push_v c0 c1 _ vs3 vc _ _ vo o0 o1 _ o4 _ sm _ (L++more) _ hl1 g3 _ fun r T' vs3 nx' k1 k2=>?_
   simp only[go_sem]
   exact hC _ _ _ _ (fun _=>k1) ((hf.add _).kp k2 (by decide)) ((hu.add _).kp k2 (by decide))
  ·have hs:stepI s inp ⟨6,a,b,q⟩ ⟨mem,rd,out,steps,0,⟨f,k,v::w::L⟩,below⟩=⟨mem,rd,out,steps,2,⟨f,k,v::w::L⟩,below⟩:=by
    show (if (applyW a w v).2=0 then _ else _)=_
    rw[if_neg h]
   rw[hs]at hC
   simp only[go_sem,eq_false h]
   repeat (refine And.intro (by first | omega | simp[h]) ?_)
   exact hC _ _ _ _ (fun h=>by simp at h) (hf.add _) (hu.add _)
 ·
  obtain ⟨v,L,rfl⟩:∃ v L',L=v::L':=by cases L with | nil=>simp at h1 | cons v L=>exact ⟨v,L,rfl⟩
  have hl1:(L++more).length≤1000000:=by simp at hl ⊢;omega
  have hv:In32 v:=wt v (by simp)
  simp only[go_sem,c_stack_machine_do,ponx,pg0,Int.reduceBEq]
  refine pop_v c0 c1 _ vs vc _ _ vo o0 o1 _ o4 _ sm _ (L++more) v hl1 (hp.add _) _ fun vs2 g=>?_
  refine ⟨stab3 rfl rfl,?_⟩
  simp only[go_sem]
  refine not_v _ v _ _ ⟨Stab.refl _ _ _,?_⟩
  simp only[go_sem]
  refine push_v c0 c1 _ vs2 vc _ _ vo o0 o1 _ o4 _ sm _ (L++more) _ hl1 g _ fun r T' vs3 nx' k1 k2=>?_
  simp only[go_sem]
  exact hC _ _ _ _ (fun _=>k1) ((hf.add _).kp k2 (by decide)) ((hu.add _).kp k2 (by decide))
 ·exact absurd rfl hne.1
 ·exact absurd rfl hne.2.1
 ·exact absurd rfl hne.2.2.1
 ·exact absurd rfl hne.2.2.2
 ·
  have hl1:(L++more).length≤1000000:=by omega
  simp only[go_sem,c_stack_machine_do,ponx,pg0,Int.reduceBEq]
  subst hn
  refine sget_v c0 c1 vs vc vo inp o0 o1 o4 _ s2 sm _ mem rd hi hr _ ⟨stab3 rfl rfl,?_⟩
  simp only[go_sem]
  refine push_v c0 c1 _ vs vc _ _ vo o0 o1 _ o4 _ sm _ (L++more) _ hl1 (hp.add _) _ fun r T' vs3 nx' k1 k2=>?_
  simp only[go_sem]
  by_cases h:rd<inp.size
  ·have hs:stepI s inp ⟨12,a,b,q⟩ ⟨mem,rd,out,steps,0,⟨f,k,L⟩,below⟩=⟨mem,rd+1,out,steps,0,⟨f,k,byteAt inp rd::L⟩,below⟩:=by
    show (if rd<inp.size then _ else _)=_
    rw[if_pos h];rfl
   rw[hs]at hC
   rw[if_pos h]at k1
   simp only[if_pos h]
   exact hC _ _ _ _ (fun _=>k1) ((hf.add _).kp k2 (by decide)) ((hu.add _).kp k2 (by decide))
  ·have hs:stepI s inp ⟨12,a,b,q⟩ ⟨mem,rd,out,steps,0,⟨f,k,L⟩,below⟩=⟨mem,rd,out,steps,0,⟨f,k,256::L⟩,below⟩:=by
    show (if rd<inp.size then _ else _)=_
    rw[if_neg h];rfl
   rw[hs]at hC
   rw[if_neg h]at k1
   simp only[if_neg h]
   exact hC _ _ _ _ (fun _=>k1) ((hf.add _).kp k2 (by decide)) ((hu.add _).kp k2 (by decide))
 ·
  obtain ⟨v,L,rfl⟩:∃ v L',L=v::L':=by cases L with | nil=>simp at h1 | cons v L=>exact ⟨v,L,rfl⟩
  have hl1:(L++more).length≤1000000:=by simp at hl ⊢;omega
  have hv:In32 v:=wt v (by simp)
  simp only[go_sem,c_stack_machine_do,pg0,Int.reduceBEq]
  refine pop_v c0 c1 _ vs vc _ _ vo o0 o1 _ o4 _ sm _ (L++more) v hl1 (hp.add _) _ fun vs2 g=>?_
  have hs:stepI s inp ⟨13,a,b,q⟩ ⟨mem,rd,out,steps,0,⟨f,k,v::L⟩,below⟩=⟨mem,rd,out++[byteS v],steps,0,⟨f,k,L⟩,below⟩:=rfl
  rw[hs]at hC
  have hU8:(AV.val (.int .u8 (IntKind.u8.wrap v)))=U8 (byteS v):=by rw[← byteS_eq]
  have hT0:=hu
  rcases hu with ⟨rfl,rfl⟩ | ⟨k0,so,rfl,hT⟩
  ·simp only[go_sem,↓plen,ponx,pg1,hU8]
   repeat (refine And.intro (by omega) ?_)
   refine hC _ _ _ _ (fun _=>(g.add _).add _) (((hf.add _).add _).add _) (.inr ⟨T.length+1+1,nx+1+1,rfl,?_⟩)
   rw[pg2];rfl
  ·have hk:=(List.getElem?_eq_some_iff.1 hT).1
   have hT2:∀ x:VObj,(T++[x])[k0]? = some ⟨so,5,1,out.map U8⟩:=fun x=>by rw[List.getElem?_append_left hk];exact hT
   have hT3:∀ x y:VObj,(T++[x]++[y])[k0]? = some ⟨so,5,1,out.map U8⟩:=fun x y=>by rw[List.append_assoc,List.getElem?_append_left hk];exact hT
   simp only[go_sem,↓plen,ponx,pg1,hU8,hT2,hT3,eq_false (show ¬ (65536:Int)≤(out.length:Int) by omega)]
   repeat (refine And.intro (by omega) ?_)
   refine hC _ _ _ _ (fun _=>(g.add _).kp (ty:=5) (Kp.put (hT3 _ _) rfl) (by decide)) (((hf.add _).add _).kp (ty:=5) (Kp.put (hT3 _ _) rfl) (by decide)) (.inr ⟨k0,nx+1+1,?_,?_⟩)
   ·simp
   ·rw[List.getElem?_set,if_pos rfl,if_pos (by simp;omega),List.take_of_length_le (by simp)]
    simp
set_option maxRecDepth 10000
open Go.V
def flat (σ:SM):List Int:=σ.top.L++σ.below.flatMap (·.L)
def resS (σ:SM):AV:=.agg [I (if σ.fin=0 then 5 else σ.fin),strv ⟨σ.out.toArray⟩,I σ.steps]
theorem take_all {α β:Type} (f:α→β) (l:List α):List.take l.length (l.map f)=l.map f:=List.take_of_length_le (by simp)
theorem iteI {α:Type} {p:Prop} [Decidable p] {P:α→Prop} {a b:α} (h1:p→P a) (h2:¬ p→P b):P (if p then a else b):=by
 by_cases h:p
 ·rw[if_pos h];exact h1 h
 ·rw[if_neg h];exact h2 h
theorem stepI_do (s:SP) (inp:ByteArray) (x:SI) (σ:SM) (hne:x.op≠8∧x.op≠9∧x.op≠10∧x.op≠11):(stepI s inp x σ).top.f=σ.top.f∧(stepI s inp x σ).top.at_=σ.top.at_∧(stepI s inp x σ).below=σ.below:=by
 let Q:SM→Prop:=fun τ=>τ.top.f=σ.top.f∧τ.top.at_=σ.top.at_∧τ.below=σ.below
 show Q (stepI s inp x σ)
 unfold stepI
 refine iteI (P:=Q) (fun _=>⟨rfl,rfl,rfl⟩) fun _=>?_
 refine iteI (P:=Q) (fun _=>⟨rfl,rfl,rfl⟩) fun _=>?_
 refine iteI (P:=Q) (fun _=>⟨rfl,rfl,rfl⟩) fun _=>?_
 refine iteI (P:=Q) (fun _=>iteI (P:=Q) (fun _=>⟨rfl,rfl,rfl⟩) fun _=>⟨rfl,rfl,rfl⟩) fun _=>?_
 refine iteI (P:=Q) (fun _=>iteI (P:=Q) (fun _=>⟨rfl,rfl,rfl⟩) fun _=>⟨rfl,rfl,rfl⟩) fun _=>?_
 refine iteI (P:=Q) (fun _=>iteI (P:=Q) (fun _=>⟨rfl,rfl,rfl⟩) fun _=>⟨rfl,rfl,rfl⟩) fun _=>?_
 refine iteI (P:=Q) (fun _=>⟨rfl,rfl,rfl⟩) fun _=>?_
 refine iteI (P:=Q) (fun h=>absurd h hne.1) fun _=>?_
 refine iteI (P:=Q) (fun h=>absurd h hne.2.1) fun _=>?_
 refine iteI (P:=Q) (fun h=>absurd h hne.2.2.1) fun _=>?_
 refine iteI (P:=Q) (fun h=>absurd h hne.2.2.2) fun _=>?_
 refine iteI (P:=Q) (fun _=>iteI (P:=Q) (fun _=>⟨rfl,rfl,rfl⟩) fun _=>⟨rfl,rfl,rfl⟩) fun _=>?_
 exact ⟨rfl,rfl,rfl⟩
structure Sz (σ:SM) (k:Nat):Prop where
 fl:(flat σ).length≤k
 be:σ.below.length≤k
 rd:σ.rd≤k
 out:σ.out.length≤k
 st:σ.fin=0→σ.steps=k
theorem stepI_sz (s:SP) (inp:ByteArray) (x:SI) (σ:SM):(flat (stepI s inp x σ)).length≤(flat σ).length+1∧(stepI s inp x σ).below.length≤σ.below.length+1∧(stepI s inp x σ).rd≤σ.rd+1∧(stepI s inp x σ).out.length≤σ.out.length+1 ∧
 (stepI s inp x σ).steps=σ.steps:=by
 have P:∀ τ:SM,τ.top.L.length≤σ.top.L.length+1→τ.below=σ.below→τ.rd≤σ.rd+1→τ.out.length≤σ.out.length+1→τ.steps=σ.steps →
  ((flat τ).length≤(flat σ).length+1∧τ.below.length≤σ.below.length+1∧τ.rd≤σ.rd+1∧τ.out.length≤σ.out.length+1∧τ.steps=σ.steps):=fun τ h1 h2 h3 h4 h5 =>
  ⟨by simp only[flat,List.length_append,h2];omega,by rw[h2];omega,h3,h4,h5⟩
 let Q:SM→Prop:=fun τ=>(flat τ).length≤(flat σ).length+1∧τ.below.length≤σ.below.length+1∧τ.rd≤σ.rd+1∧τ.out.length≤σ.out.length+1∧τ.steps=σ.steps
 show Q (stepI s inp x σ)
 unfold stepI
 refine iteI (P:=Q) (fun _=>P _ (by simp[SM.setL]) rfl (by simp[SM.setL]) (by simp[SM.setL]) rfl) fun _=>?_
 refine iteI (P:=Q) (fun _=>P _ (by simp[SM.setL]) rfl (by simp[SM.setL]) (by simp[SM.setL]) rfl) fun _=>?_
 refine iteI (P:=Q) (fun _=>P _ (by simp[SM.setL]<;>omega) rfl (by simp[SM.setL]) (by simp[SM.setL]) rfl) fun _=>?_
 refine iteI (P:=Q) (fun _=>iteI (P:=Q) (fun _=>P _ (by simp[SM.setL]<;>omega) rfl (by simp[SM.setL]) (by simp[SM.setL]) rfl) fun _=>P _ (by simp) rfl (by simp) (by simp) rfl) fun _=>?_
 refine iteI (P:=Q) (fun _=>iteI (P:=Q) (fun _=>P _ (by simp[SM.setL]<;>omega) rfl (by simp[SM.setL]) (by simp[SM.setL]) rfl) fun _=>P _ (by simp) rfl (by simp) (by simp) rfl) fun _=>?_
 refine iteI (P:=Q) (fun _=>iteI (P:=Q) (fun _=>P _ (by simp[SM.setL]<;>omega) rfl (by simp[SM.setL]) (by simp[SM.setL]) rfl) fun _=>P _ (by simp) rfl (by simp) (by simp) rfl) fun _=>?_
 refine iteI (P:=Q) (fun _=>P _ (by simp[SM.setL]<;>omega) rfl (by simp[SM.setL]) (by simp[SM.setL]) rfl) fun _=>?_
 refine iteI (P:=Q) (fun _=>P _ (by simp[SM.jump]) rfl (by simp[SM.jump]) (by simp[SM.jump]) rfl) fun _=>?_
 refine iteI (P:=Q) (fun _=>iteI (P:=Q) (fun _=>P _ (by simp[SM.setL,SM.jump]<;>omega) rfl (by simp[SM.setL,SM.jump]) (by simp[SM.setL,SM.jump]) rfl) fun _=>P _ (by simp[SM.setL]<;>omega) rfl (by simp[SM.setL]) (by simp[SM.setL]) rfl) fun _=>?_
 refine iteI (P:=Q) (fun _=>?_) fun _=>?_
 ·refine ⟨?_,?_,by simp[SM.call],by simp[SM.call],rfl⟩
  ·simp only[SM.call,flat,List.nil_append,List.flatMap_cons,List.length_append,List.length_drop];omega
  ·simp[SM.call]
 refine iteI (P:=Q) (fun _=>?_) fun _=>?_
 ·unfold SM.ret
  split
  ·exact P _ (by simp) rfl (by simp) (by simp) rfl
  ·rename_i c rest hc
   refine ⟨?_,by rw[hc];simp;omega,by simp,by simp,rfl⟩
   simp only[flat,hc,List.flatMap_cons,List.length_append]
   split<;>simp<;>omega
 refine iteI (P:=Q) (fun _=>iteI (P:=Q) (fun _=>P _ (by simp[SM.setL]) rfl (by simp[]) (by simp[SM.setL]) rfl) fun _=>P _ (by simp[SM.setL]) rfl (by simp[SM.setL]) (by simp[SM.setL]) rfl) fun _=>?_
 exact P _ (by simp[SM.setL]<;>omega) rfl (by simp[SM.setL]) (by simp[]) rfl
theorem runS_fin {s:SP} {inp:ByteArray} {σ:SM} {k:Nat} (h:(runS s inp σ k).fin≠0):∀ d,runS s inp σ (k+d)=runS s inp σ k
 | 0=>rfl
 | d+1=>by
  show stepS s inp (runS s inp σ (k+d))=_
  rw[runS_fin h d,stepS,if_neg h]
theorem stepS_eq {s:SP} {inp:ByteArray} {σ:SM} (h:σ.fin=0):stepS s inp σ=stepI s inp (s.ins σ.top.f σ.top.at_) σ.next:=if_pos h
theorem runS_sz (s:SP) (inp:ByteArray):∀ k,Sz (runS s inp (startS s) k) k
 | 0=>⟨by simp[runS,startS,flat],by simp[runS,startS],by simp[runS,startS],by simp[runS,startS],fun _=>rfl⟩
 | k+1=>by
  obtain ⟨h1,h2,h3,h4,h5⟩:=runS_sz s inp k
  show Sz (stepS s inp (runS s inp (startS s) k)) (k+1)
  generalize runS s inp (startS s) k=σ at *
  by_cases h0:σ.fin=0
  ·rw[stepS_eq h0]
   obtain ⟨g1,g2,g3,g4,g5⟩:=stepI_sz s inp (s.ins σ.top.f σ.top.at_) σ.next
   have e:(flat σ.next).length=(flat σ).length:=rfl
   refine ⟨by omega,Nat.le_trans g2 (by simp only[SM.next];omega),Nat.le_trans g3 (by simp only[SM.next];omega),Nat.le_trans g4 (by simp only[SM.next];omega),fun _=>?_⟩
   rw[g5];simp only[SM.next];rw[h5 h0]
  ·rw[stepS,if_neg h0]
   exact ⟨by omega,by omega,by omega,by omega,fun h=>absurd h h0⟩
structure SQ where
 k:Nat
 T:List VObj
 vs:AV
 vc:AV
 vo:AV
 nx:Nat
abbrev o0S (s:SP):VObj:=⟨0,24,1,[I s.words,fnsA s.funcs]⟩
abbrev o1S:VObj:=⟨1,34,1,[I 0,strv ⟨#[]⟩,I 0]⟩
abbrev o4S (c:Fm):VObj:=⟨4,69,1,[I c.f,I c.at_]⟩
structure FitP (s:SP):Prop where
 wf:WfP s
 w0:0≤s.words
 w1:s.words≤1000000
 fn:s.funcs.length≤1000000
 ne:s.funcs≠[]
 code:∀ f,(s.fn f).code.length≤1000000
theorem srun_c (s:SP) (inp:ByteArray) (fuel:Int) (hP:FitP s) (hfu:fuel≤60000) (hi:inp.size≤1000000000)
 (hg:∀ k,k<fuel.toNat→(runS s inp (startS s) k).fin=0→Good s (runS s inp (startS s) k)) :
 Contract Tryz.prog 7 [spA s,strv inp,I fuel] (fun r=>r=resS (runS s inp (startS s) fuel.toNat)):=by
 refine Contract.of_call (VCall.of_body hmix f_stack_Run (by simp) ?_)
 obtain ⟨p1,p2,p3,p4,p5,p6⟩:=hP
 have hlen:1≤s.funcs.length:=by
  cases hf:s.funcs with
  | nil=>exact absurd hf p5
  | cons a l=>simp
 have e0:IntKind.i64.wrap ((s.funcs.length:Int)-1)=((s.funcs.length-1:Nat):Int):=by rw[i64_in (by omega) (by omega)];omega
 have hwf:∀ k,k≤fuel.toNat→WfS (runS s inp (startS s) k)∧(runS s inp (startS s) k).mem.length=s.words.toNat:=by
  intro k hk
  induction k with
  | zero=>exact ⟨startS_wf s,by simp[runS,startS]⟩
  | succ k ih =>
   obtain ⟨h1,h2⟩:=ih (by omega)
   by_cases h0:(runS s inp (startS s) k).fin=0
   ·obtain ⟨g1,g2,_⟩:=stepS_wf (inp:=inp) p1 h1 (hg k (by omega) h0)
    exact ⟨g1,g2.trans h2⟩
   ·show WfS (stepS s inp (runS s inp (startS s) k))∧(stepS s inp (runS s inp (startS s) k)).mem.length=_
    rw[stepS,if_neg h0];exact ⟨h1,h2⟩
 have hrep:(List.replicate s.words.toNat [AV.val (.int .u32 0)]).flatten=(List.replicate s.words.toNat 0).map U32:=by rw[flat_rep];simp
 have hmx:(2000000:Nat)≤maxLen:=by decide
 simp only[go_sem,c_stack_Run,e0,hrep]
 repeat (refine And.intro (by omega) ?_)
 refine VW_loop (fun q:SQ=>⟨[(2,I fuel),(3,.ptr 0 0 0),(6,.ptr 1 1 0),(7,.ptr 3 3 0),(8,.ptr 4 4 0),(9,I 0),(10,I q.k)],
  hpS (o0S s) o1S (o4S (runS s inp (startS s) q.k).top) 2 3 (I s.words) (fnsA s.funcs) q.vs q.vc q.vo inp s.words.toNat (runS s inp (startS s) q.k).mem (runS s inp (startS s) q.k).rd q.T,q.nx⟩)
  (fun q=>q.k≤fuel.toNat∧(runS s inp (startS s) q.k).fin=0∧PW q.T q.vs (flat (runS s inp (startS s) q.k))∧PF q.T q.vc (runS s inp (startS s) q.k).below∧PO q.T q.vo (runS s inp (startS s) q.k).out) (fun q=>fuel.toNat-q.k)
  ⟨0,[],nilv,nilv,nilv,5⟩ (Wk.mk (by simp[get_cons]) ⟨[],?_⟩ (Nat.le_refl _)) ⟨Nat.zero_le _,rfl,.inl ⟨rfl,rfl⟩,.inl ⟨rfl,rfl⟩,.inl ⟨rfl,rfl⟩⟩ ?_
 ·simp[runS,startS]
 rintro ⟨k,T,vs,vc,vo,nx⟩ ⟨h1,h2,h3,h4,h5⟩
 simp only at h1 h2 h3 h4 h5
 obtain ⟨w1,w2⟩:=hwf k h1
 obtain ⟨z1,z2,z3,z4,z5⟩:=runS_sz s inp k
 have hgk:=hg k
 have hfin:=runS_fin (s:=s) (inp:=inp) (σ:=startS s) (k:=k+1)
 have hnext:runS s inp (startS s) (k+1)=stepS s inp (runS s inp (startS s) k):=rfl
 have hk2:fuel.toNat=k→runS s inp (startS s) fuel.toNat=runS s inp (startS s) k:=fun e=>by rw[e]
 obtain ⟨σ,hσ⟩:∃ σ,runS s inp (startS s) k=σ:=⟨_,rfl⟩
 simp only[hσ]at h2 h3 h4 h5 w1 w2 z1 z2 z3 z4 z5 hgk hnext hk2 ⊢
 have z5:=z5 h2
 by_cases hf:fuel≤(k:Int)
 ·rw[hk2 (by omega)]
  have er:resS σ = .agg [I 5,strv ⟨σ.out.toArray⟩,I k]:=by rw[resS,if_pos h2,z5]
  rw[er]
  simp only[go_sem,↓plen,eq_true hf]
  rcases h5 with ⟨rfl,ho⟩ | ⟨k0,so,rfl,hT⟩
  ·simp only[go_sem]
   exact ⟨_,Frz.pure rfl,by first | (rw[ho];rfl) | (rw[show σ.next.out=[] from ho];rfl)⟩
  ·simp only[go_sem,eq_true hf,hT,take_all]
   exact ⟨_,Frz.pure rfl,rfl⟩
 have hk':=eq_false hf
 obtain ⟨gf,gk,gok⟩:=hgk (by omega) h2
 have hP6:=p6 σ.top.f
 have e1:IntKind.i64.wrap ((k:Int)+1)=((k+1:Nat):Int):=by rw[i64_in (by omega) (by omega)];omega
 have e2:IntKind.i64.wrap ((σ.top.at_:Int)+1)=((σ.top.at_+1:Nat):Int):=by rw[i64_in (by omega) (by omega)];omega
 have hfn:s.funcs.getD σ.top.f default=s.fn σ.top.f:=rfl
 rw[stepS_eq h2]at hnext
 obtain ⟨x,hx⟩:∃ x,s.ins σ.top.f σ.top.at_=x:=⟨_,rfl⟩
 have hin:(s.fn σ.top.f).code.getD σ.top.at_ default=x:=hx
 have hxn:In32 x.n:=hx▸ins_wf p1 gf gk
 rw[hx]at gok hnext
 have hmem:σ.mem.length≤1000000:=by omega
 have go:∀ (T':List VObj) (vs' vc' vo':AV) (nx':Nat) (τ:SM) (env:List (Nat × AV)) (H:List VObj),H=hpS (o0S s) o1S (o4S τ.top) 2 3 (I s.words) (fnsA s.funcs) vs' vc' vo' inp s.words.toNat τ.mem τ.rd T'→runS s inp (startS s) (k+1)=τ→τ.fin=0→PW T' vs' (flat τ)→PF T' vc' τ.below→PO T' vo' τ.out →
  get env 2=I fuel→get env 3 = .ptr 0 0 0→get env 6 = .ptr 1 1 0→get env 7 = .ptr 3 3 0→get env 8 = .ptr 4 4 0→get env 9=I 0→get env 10=I ((k+1:Nat):Int) →
  ∃ q:SQ,(q.k≤fuel.toNat∧(runS s inp (startS s) q.k).fin=0∧PW q.T q.vs (flat (runS s inp (startS s) q.k))∧PF q.T q.vc (runS s inp (startS s) q.k).below∧PO q.T q.vo (runS s inp (startS s) q.k).out)∧fuel.toNat-q.k<fuel.toNat-k ∧
   Wk ⟨env,H,nx'⟩
    ⟨[(2,I fuel),(3,.ptr 0 0 0),(6,.ptr 1 1 0),(7,.ptr 3 3 0),(8,.ptr 4 4 0),(9,I 0),(10,I q.k)],
      hpS (o0S s) o1S (o4S (runS s inp (startS s) q.k).top) 2 3 (I s.words) (fnsA s.funcs) q.vs q.vc q.vo inp s.words.toNat (runS s inp (startS s) q.k).mem (runS s inp (startS s) q.k).rd q.T,q.nx⟩:=by
  intro T' vs' vc' vo' nx' τ env H hH hτ t0 t1 t2 t3 q1 q2 q3 q4 q5 q6 q7
  subst hτ
  subst hH
  exact ⟨⟨k+1,T',vs',vc',vo',nx'⟩,⟨by simp only;omega,t0,t1,t2,t3⟩,by simp only;omega,Wk.mk (by simp[q1,q2,q3,q4,q5,q6,q7]) ⟨[],(List.append_nil _).symm⟩ (Nat.le_refl _)⟩
 have w1':WfS σ.next:=⟨w1.mem,w1.top,w1.below⟩
 have endS:∀ τ,runS s inp (startS s) (k+1)=τ→τ.fin≠0→τ.steps=k+1→resS (runS s inp (startS s) fuel.toNat) = .agg [I τ.fin,strv ⟨τ.out.toArray⟩,I ((k+1:Nat):Int)]:=fun τ hτ h0 hst=>by
  have:=hfin (by rw[hτ];exact h0) (fuel.toNat-(k+1))
  rw[show k+1+(fuel.toNat-(k+1))=fuel.toNat by omega]at this
  rw[this,hτ,resS,if_neg h0,hst]
 have hsteps:∀ x,(stepI s inp x σ.next).steps=k+1:=fun x=>by
  obtain ⟨_,_,_,_,g5⟩:=stepI_sz s inp x σ.next
  rw[g5];show σ.steps+1=_;rw[z5]
 by_cases o8:x.op=8
 ·obtain ⟨op,a,b,q⟩:=x
  simp only at o8 hxn
  subst o8
  have ha:0≤a:=by unfold OkI at gok;simp only at gok;omega
  simp only[go_sem,↓plen,pg0,ps0,Int.reduceBEq,hk',e1,e2,hfn,hin]
  repeat (refine And.intro (by omega) ?_)
  refine go (T++[⟨nx,71,1,[I 8,I a,I b,U32 q]⟩]) vs vc vo _ _ _ _ ?_ hnext h2 (h3.add _) (h4.add _) (h5.add _) rfl rfl rfl rfl rfl rfl rfl
  show _=hpS (o0S s) o1S (o4S ⟨σ.top.f,a.toNat,σ.top.L⟩) 2 3 _ _ _ _ _ _ _ _ _ _
  simp only[o4S,Int.toNat_of_nonneg ha];rfl
 by_cases o9:x.op=9
 ·obtain ⟨op,a,b,q⟩:=x
  simp only at o9 hxn
  subst o9
  obtain ⟨ha,hL⟩:0≤a∧1≤σ.top.L.length:=by unfold OkI at gok;simp only at gok;omega
  obtain ⟨v,L,hLe⟩:∃ v L,σ.top.L=v::L:=by
   cases hh:σ.top.L with
   | nil=>rw[hh]at hL;simp at hL
   | cons v L=>exact ⟨v,L,rfl⟩
  have hfl:flat σ=v::(L++σ.below.flatMap (·.L)):=by rw[flat,hLe];rfl
  rw[hfl]at h3 z1
  have hl1:(L++σ.below.flatMap (·.L)).length≤1000000:=by simp only[List.length_cons]at z1;omega
  simp only[go_sem,↓plen,pg0,ps0,Int.reduceBEq,hk',e1,e2,hfn,hin]
  repeat (refine And.intro (by omega) ?_)
  refine pop_v _ _ _ vs vc _ _ vo _ _ _ _ _ 3 _ (L++σ.below.flatMap (·.L)) v hl1 (h3.add _) _ fun vs2 g=>?_
  by_cases hv:v=0
  ·have hst:stepI s inp ⟨9,a,b,q⟩ σ.next=(σ.next.setL L).jump a:=by
    show (if σ.next.top.L.headD 0=0 then _ else _)=_
    rw[show σ.next.top.L=v::L from hLe,if_pos (show (v::L).headD 0=0 from hv)];rfl
   simp only[go_sem,pg0,e1,e2,hfn,hin,eq_true hv]
   refine go (T++[⟨nx,71,1,[I 9,I a,I b,U32 q]⟩]) vs2 vc vo _ _ _ _ ?_ (hnext.trans hst) h2 g (h4.add _) (h5.add _) rfl rfl rfl rfl rfl rfl rfl
   show _=hpS (o0S s) o1S (o4S ⟨σ.top.f,a.toNat,L⟩) 2 3 _ _ _ _ _ _ _ _ _ _
   simp only[o4S,Int.toNat_of_nonneg ha];rfl
  ·have hst:stepI s inp ⟨9,a,b,q⟩ σ.next=σ.next.setL L:=by
    show (if σ.next.top.L.headD 0=0 then _ else _)=_
    rw[show σ.next.top.L=v::L from hLe,if_neg (show ¬ (v::L).headD 0=0 from hv)];rfl
   simp only[go_sem,e1,e2,hfn,hin,eq_false hv]
   exact go (T++[⟨nx,71,1,[I 9,I a,I b,U32 q]⟩]) vs2 vc vo _ _ _ _ rfl (hnext.trans hst) h2 g (h4.add _) (h5.add _) rfl rfl rfl rfl rfl rfl rfl
 by_cases o10:x.op=10
 ·obtain ⟨op,a,b,q⟩:=x
  simp only at o10 hxn
  subst o10
  obtain ⟨ha,hb,hg0⟩:0≤a∧a<s.funcs.length∧CallOK (s.fn a.toNat) σ.mem.length σ.top.L.length:=by
   unfold OkI at gok;simp only at gok
   rcases gok with h | h | h | h | h | h | h | h | h | h | h | h | h
   all_goals first | exact h.2 | (have h:=h.1;omega) | omega
  have hg1:CallOK (s.fn a.toNat) σ.mem.length (flat σ).length:=⟨hg0.p0,hg0.ps,hg0.f0,hg0.fs,by have:=hg0.deep;simp only[flat,List.length_append];omega⟩
  have hdr:(flat σ).drop (s.fn a.toNat).params.toNat=σ.top.L.drop (s.fn a.toNat).params.toNat++σ.below.flatMap (·.L):=by
   rw[flat,List.drop_append_of_le_length (by have:=hg0.deep;omega)]
  have hown:ownW (s.fn a.toNat) (flat σ)=ownW (s.fn a.toNat) σ.top.L:=by
   rw[ownW,ownW,flat,List.take_append_of_le_length (by have:=hg0.deep;omega)]
  have hfa:s.funcs.getD a.toNat default=s.fn a.toNat:=rfl
  simp only[go_sem,↓plen,pg0,ps0,Int.reduceBEq,hk',e1,e2,hfn,hin,hfa]
  repeat (refine And.intro (by omega) ?_)
  rw[← w2]
  refine enter_v _ _ vs vc vo inp _ _ _ _ 2 3 _ σ.mem σ.rd (s.fn a.toNat) (flat σ) hg1 (by omega) (by omega) (h3.add _) _ fun r R vs' nx' g=>?_
  rw[hdr]at g
  rw[hown]
  simp only[go_sem,e1,e2,hfn,hin,hfa]
  refine fpush_v _ _ _ vs' vc _ _ vo _ _ _ _ _ 3 _ σ.below ⟨σ.top.f,σ.top.at_+1,σ.top.L.drop (s.fn a.toNat).params.toNat⟩ (by omega) ((h4.add _).add _) _ fun r T' vc' nx' g1 g2=>?_
  have hT':T'[T.length]? = some ⟨nx,71,1,[I 10,I a,I b,U32 q]⟩:=g2 _ _ (by simp) (by show (71:Nat)≠_;decide)
  simp only[go_sem,e1,e2,hfn,hin,hfa,hT']
  repeat (refine And.intro (by omega) ?_)
  simp only[w2]
  have hst:stepI s inp ⟨10,a,b,q⟩ σ.next=σ.next.call s a:=rfl
  refine go T' vs' vc' vo _ _ _ _ ?_ (hnext.trans hst) h2 (g.kp g2 (by decide)) g1 (((h5.add _).add _).kp g2 (by decide)) ?_ ?_ ?_ ?_ ?_ ?_ ?_
  ·show _=hpS (o0S s) o1S (o4S ⟨a.toNat,0,[]⟩) 2 3 _ _ _ _ _ _ _ _ _ _
   simp only[o4S,Int.toNat_of_nonneg ha];rfl
  all_goals rfl
 by_cases o11:x.op=11
 ·obtain ⟨op,a,b,q⟩:=x
  simp only at o11 hxn
  subst o11
  have hL:σ.top.L.length=cntB (s.fn σ.top.f).word:=by
   unfold OkI at gok;simp only at gok
   rcases gok with h | h | h | h | h | h | h | h | h | h | h | h | h
   all_goals first | exact h.2 | (have h:=h.1;omega) | omega
  have hst:stepI s inp ⟨11,a,b,q⟩ σ.next=σ.next.ret s:=rfl
  cases hbel:σ.below with
  | nil =>
   have hτ:σ.next.ret s = { σ.next with fin:=1 }:=by
    unfold SM.ret
    split
    ·rfl
    ·rename_i h;rw[show σ.next.below=[] from hbel]at h;cases h
   rw[endS _ ((hnext.trans hst).trans hτ) (by simp) (by show σ.steps+1=_;rw[z5])]
   rw[hbel]at h4
   simp only[go_sem,↓plen,pg0,ps0,Int.reduceBEq,hk',e1,e2,hfn,hin]
   repeat (refine And.intro (by omega) ?_)
   refine fsize_v _ _ _ vs vc _ _ vo _ _ _ _ _ 3 _ [] (h4.add _) _ ?_
   have h5':=h5.add [⟨nx,71,1,[I 11,I a,I b,U32 q]⟩]
   rcases h5' with ⟨rfl,ho⟩ | ⟨k0,so,rfl,hT⟩
   ·simp only[go_sem,↓plen,e1,e2,eq_true (show ((0:Nat):Int)=0 from rfl)]
    exact ⟨_,Frz.pure rfl,by first | (rw[ho];rfl) | (rw[show σ.next.out=[] from ho];rfl)⟩
   ·simp only[go_sem,↓plen,e1,e2,eq_true (show ((0:Nat):Int)=0 from rfl),hT,take_all]
    exact ⟨_,Frz.pure rfl,rfl⟩
  | cons c rest =>
   have hτ:σ.next.ret s = { σ.next with top:={ c with L:=(if (s.fn σ.top.f).word then [σ.top.L.headD 0] else [])++c.L },below:=rest }:=by
    unfold SM.ret
    rw[show σ.next.below=c::rest from hbel];rfl
   have hfl:flat (σ.next.ret s)=flat σ:=by
    rw[hτ,flat,flat,hbel]
    simp only[List.flatMap_cons]
    rw[← List.append_assoc]
    congr 2
    revert hL
    cases (s.fn σ.top.f).word with
    | false=>intro hL;simp only[cntB]at hL;rw[List.eq_nil_of_length_eq_zero hL];rfl
    | true =>
     intro hL
     match hh:σ.top.L with
     | []=>rw[hh]at hL;simp[cntB]at hL
     | [v]=>rfl
     | v::w::L=>rw[hh]at hL;simp[cntB]at hL
   rw[hbel]at h4 z2
   simp only[List.length_cons]at z2
   have hne:¬ ((rest.length:Int)+1=0):=by omega
   simp only[go_sem,↓plen,pg0,ps0,Int.reduceBEq,hk',e1,e2,hfn,hin]
   repeat (refine And.intro (by omega) ?_)
   refine fsize_v _ _ _ vs vc _ _ vo _ _ _ _ _ 3 _ (c::rest) (h4.add _) _ ?_
   simp only[go_sem,e1,e2,hfn,hin,Int.natCast_add,Int.cast_ofNat_Int,eq_false hne]
   refine fpop_v _ _ _ vs vc _ _ vo _ _ _ _ _ 3 _ rest c (by omega) (h4.add _) _ fun R2 vc' nx' g=>?_
   simp only[go_sem,e1,e2,hfn,hin,frC]
   refine go ((T++[⟨nx,71,1,[I 11,I a,I b,U32 q]⟩])++R2) vs vc' vo _ _ _ _ ?_ ((hnext.trans hst).trans hτ) h2 ?_ g ((h5.add _).add _) rfl rfl rfl rfl rfl rfl rfl
   ·rfl
   ·rw[← hτ,hfl];exact (h3.add _).add _
 obtain ⟨op,a,b,q⟩:=x
 simp only at o8 o9 o10 o11 hxn
 obtain ⟨t1,t2,t3⟩:=stepI_do s inp ⟨op,a,b,q⟩ σ.next ⟨o8,o9,o10,o11⟩
 simp only[go_sem,↓plen,pg0,ps0,hk',e1,e2,hfn,hin,eq_false o8,eq_false o9,eq_false o10,eq_false o11]
 repeat (refine And.intro (by omega) ?_)
 refine do_v s inp σ.next (σ.below.flatMap (·.L)) σ.below ⟨op,a,b,q⟩ hxn gok ⟨o8,o9,o10,o11⟩ w1' h2 hi (by show σ.rd≤_;omega) s.words.toNat (by show _=σ.mem.length;omega) (by omega) (by show (flat σ).length≤_;omega) (by show σ.out.length<_;omega)
  _ _ _ 2 3 _ _ _ vs vc vo _ (h3.add _) (h4.add _) (h5.add _) _ fun T' vs' vo' nx' g1 g2 g3=>?_
 have hst2:=hsteps ⟨op,a,b,q⟩
 generalize stepI s inp ⟨op,a,b,q⟩ σ.next=τ at *
 by_cases hf0:τ.fin=0
 ·simp only[go_sem,e1,e2,hfn,hin,hf0]
  refine go T' vs' vc vo' _ τ _ _ ?_ hnext hf0 ?_ (by rw[t3];exact g2) g3 rfl rfl rfl rfl rfl rfl rfl
  ·show _=hpS (o0S s) o1S (o4S τ.top) 2 3 _ _ _ _ _ _ _ _ _ _
   simp only[o4S,t1,t2];rfl
  ·rw[flat,t3];exact g1 hf0
 ·rw[endS τ hnext hf0 hst2]
  simp only[go_sem,↓plen,e1,e2,hfn,hin,eq_false hf0]
  rcases g3 with ⟨rfl,ho⟩ | ⟨k0,so,rfl,hT⟩
  ·simp only[go_sem]
   exact ⟨_,Frz.pure rfl,by first | (rw[ho];rfl) | (rw[show σ.next.out=[] from ho];rfl)⟩
  ·simp only[go_sem,e1,e2,hT,take_all]
   exact ⟨_,Frz.pure rfl,rfl⟩
theorem effD_some {s:SP} {f:Nat} {x:SI} {d e:Int} (h:effD s f x d=some e):∃ t p,tkS s f x=some (t,p)∧0≤t∧t≤d∧(x.op=11→d=t)∧e=d-t+p:=by
 unfold effD at h
 split at h
 ·cases h
 ·rename_i t p ht
  split at h
  ·cases h
  ·rename_i hn
   cases h
   refine ⟨t,p,ht,by omega,by omega,fun h11=>?_,rfl⟩
   exact Classical.byContradiction fun hd=>hn (.inr (.inr ⟨h11,hd⟩))
structure Fr1 (s:SP) (D:Nat→List Int) (c:Fm) (e:Nat):Prop where
 f:c.f<s.funcs.length
 k:c.at_<(s.fn c.f).code.length
 d:(D c.f).getD c.at_ (-1)=((c.L.length+e:Nat):Int)
def BelOK (s:SP) (D:Nat→List Int):Nat→List Fm→Prop
 | f,[]=>(s.fn f).word=false
 | f,c::rest=>Fr1 s D c (cntB (s.fn f).word)∧BelOK s D c.f rest
structure InvS (s:SP) (D:Nat→List Int) (σ:SM):Prop where
 mem:σ.mem.length=s.words.toNat
 top:Fr1 s D σ.top 0
 below:BelOK s D σ.top.f σ.below
theorem inv_at {s:SP} {D:Nat→List Int} {σ:SM} (hD:∀ f,f<s.funcs.length→Sol s f (D f)) (h:InvS s D σ) :
 ∃ t p,tkS s σ.top.f (s.ins σ.top.f σ.top.at_)=some (t,p)∧0≤t∧t≤σ.top.L.length∧((s.ins σ.top.f σ.top.at_).op=11→(σ.top.L.length:Int)=t) ∧
  ∀ k ∈ nextL (s.ins σ.top.f σ.top.at_) σ.top.at_,0≤k∧k<(s.fn σ.top.f).code.length∧(D σ.top.f).getD k.toNat (-1)=σ.top.L.length-t+p:=by
 have hs:=hD _ h.top.f
 obtain ⟨e,h1,h2⟩:=hs.cl σ.top.at_ (by rw[hs.len];exact h.top.k) (by rw[h.top.d];omega)
 rw[h.top.d]at h1
 obtain ⟨t,p,g1,g2,g3,g4,g5⟩:=effD_some h1
 refine ⟨t,p,g1,g2,by omega,fun h11=>by have:=g4 h11;omega,fun k hk=>?_⟩
 obtain ⟨q1,q2,q3⟩:=h2 k hk
 exact ⟨q1,q2,by rw[q3,g5];omega⟩
theorem inv_good {s:SP} {D:Nat→List Int} {σ:SM} (hR:RightP s) (hD:∀ f,f<s.funcs.length→Sol s f (D f)) (h:InvS s D σ):Good s σ:=by
 obtain ⟨t,p,h1,h2,h3,h4,h5⟩:=inv_at hD h
 have hfit:=(hR.fn _ h.top.f).fits _ h.top.k
 refine ⟨h.top.f,h.top.k,?_⟩
 have hm:=h.mem
 have hw0:=hR.w0
 generalize s.ins σ.top.f σ.top.at_=x at *
 obtain ⟨f1,f2,f3⟩:=hfit
 unfold OkI
 rcases f3 with ⟨g1,g2⟩ | ⟨g1,g2,g3⟩ | ⟨g1,g2,g3,g4,g5⟩ | ⟨g1,g2,g3⟩ | ⟨g1,g2,g3⟩ | ⟨g1,g2,g3⟩
 ·rcases g1 with e | e | e | e | e
  ·exact .inl e
  ·have ht:tkS s σ.top.f x=some (1,1):=by simp[tkS,e]
   rw[ht]at h1;cases h1
   exact .inr (.inr (.inr (.inr (.inr (.inr (.inl ⟨e,by omega⟩))))))
  ·have ht:tkS s σ.top.f x=some (((cntB (s.fn σ.top.f).word:Nat):Int),0):=by simp[tkS,e]
   rw[ht]at h1;cases h1
   have:=h4 e
   exact .inr (.inr (.inr (.inr (.inr (.inr (.inr (.inr (.inr (.inr (.inl ⟨e,by omega⟩))))))))))
  ·exact .inr (.inr (.inr (.inr (.inr (.inr (.inr (.inr (.inr (.inr (.inr (.inl e)))))))))))
  ·have ht:tkS s σ.top.f x=some (1,0):=by simp[tkS,e]
   rw[ht]at h1;cases h1
   exact .inr (.inr (.inr (.inr (.inr (.inr (.inr (.inr (.inr (.inr (.inr (.inr ⟨e,by omega⟩)))))))))))
 ·rcases g1 with e | e
  ·exact .inr (.inl ⟨e,g2,by omega⟩)
  ·have ht:tkS s σ.top.f x=some (1,0):=by simp[tkS,e]
   rw[ht]at h1;cases h1
   exact .inr (.inr (.inl ⟨e,g2,by omega,by omega⟩))
 ·rcases g1 with e | e
  ·have ht:tkS s σ.top.f x=some (1,1):=by simp[tkS,e]
   rw[ht]at h1;cases h1
   exact .inr (.inr (.inr (.inl ⟨e,g2,by omega,by omega,by omega⟩)))
  ·have ht:tkS s σ.top.f x=some (2,0):=by simp[tkS,e]
   rw[ht]at h1;cases h1
   exact .inr (.inr (.inr (.inr (.inl ⟨e,g2,by omega,by omega,by omega⟩))))
 ·have ht:tkS s σ.top.f x=some (2,1):=by simp[tkS,g1]
  rw[ht]at h1;cases h1
  exact .inr (.inr (.inr (.inr (.inr (.inl ⟨g1,by omega⟩)))))
 ·rcases g1 with e | e
  ·exact .inr (.inr (.inr (.inr (.inr (.inr (.inr (.inl ⟨e,g2⟩)))))))
  ·have ht:tkS s σ.top.f x=some (1,0):=by simp[tkS,e]
   rw[ht]at h1;cases h1
   exact .inr (.inr (.inr (.inr (.inr (.inr (.inr (.inr (.inl ⟨e,g2,by omega⟩))))))))
 ·have hf:=h.top.f
  have ha:x.a<(s.funcs.length:Int):=by omega
  have ht:tkS s σ.top.f x=some ((s.fn x.a.toNat).params,((cntB (s.fn x.a.toNat).word:Nat):Int)):=by simp[tkS,g1,g2,ha]
  rw[ht]at h1;cases h1
  obtain ⟨k1,k2,k3,k4,k5⟩:=(hR.fn x.a.toNat (by omega)).h
  exact .inr (.inr (.inr (.inr (.inr (.inr (.inr (.inr (.inr (.inl ⟨g1,g2,ha,k1,k2,k3,by omega,by omega⟩)))))))))
theorem inv_step {s:SP} {D:Nat→List Int} {σ:SM} {inp:ByteArray} (hR:RightP s) (hD:∀ f,f<s.funcs.length→Sol s f (D f)) (h:InvS s D σ) (h0:σ.fin=0) (hn:(stepS s inp σ).fin=0):InvS s D (stepS s inp σ):=by
 have hg:=(inv_good hR hD h).ok
 obtain ⟨t,p,h1,h2,h3,h4,h5⟩:=inv_at hD h
 rw[stepS_eq h0]at hn ⊢
 obtain ⟨mem,rd,out,steps,fin,⟨f,k,L⟩,below⟩:=σ
 obtain ⟨im,it,ib⟩:=h
 simp only at h1 h2 h3 h4 h5 im it ib h0
 subst h0
 obtain ⟨jf,jk,jd⟩:=it
 simp only at jf jk jd
 generalize s.ins f k=x at *
 simp only[SM.next]at hn ⊢
 have ok:∀ mem' rd' out' (L':List Int),mem'.length=mem.length→nextL x k=[(k:Int)+1]→(L'.length:Int)=L.length-t+p→InvS s D ⟨mem',rd',out',steps+1,0,⟨f,k+1,L'⟩,below⟩:=fun mem' rd' out' L' e1 e2 e3=>by
  obtain ⟨q1,q2,q3⟩:=h5 ((k:Int)+1) (by rw[e2];simp)
  refine ⟨e1.trans im,⟨jf,by simp only;omega,?_⟩,ib⟩
  rw[show ((k:Int)+1).toNat=k+1 by omega]at q3
  simp only;rw[q3,← e3];simp
 unfold OkI at hg
 rcases hg with e | ⟨e,ha,hb⟩ | ⟨e,ha,hb,hl⟩ | ⟨e,ha,hb,hab,hl⟩ | ⟨e,ha,hb,hab,hl⟩ | ⟨e,hl⟩ | ⟨e,hl⟩ | ⟨e,ha⟩ | ⟨e,ha,hl⟩ | ⟨e,ha,hb,hc⟩ | ⟨e,hl⟩ | e | ⟨e,hl⟩
 all_goals try simp only at *
 ·rw[show tkS s f x=some (0,1) by simp[tkS,e]]at h1;cases h1
  simp only[stepI,e,Int.reduceEq,if_true,if_false,SM.setL]at hn ⊢
  exact ok _ _ _ _ rfl (by simp[nextL,e]) (by simp)
 ·rw[show tkS s f x=some (0,1) by simp[tkS,e]]at h1;cases h1
  simp only[stepI,e,Int.reduceEq,if_true,if_false,SM.setL]at hn ⊢
  exact ok _ _ _ _ rfl (by simp[nextL,e]) (by simp)
 ·rw[show tkS s f x=some (1,0) by simp[tkS,e]]at h1;cases h1
  simp only[stepI,e,Int.reduceEq,if_true,if_false,SM.setL]at hn ⊢
  exact ok _ _ _ _ (by simp) (by simp[nextL,e]) (by simp;omega)
 ·rw[show tkS s f x=some (1,1) by simp[tkS,e]]at h1;cases h1
  simp only[stepI,e,Int.reduceEq,if_true,if_false,SM.setL]at hn ⊢
  by_cases hx:L.headD 0<x.b
  ·rw[if_pos hx];exact ok _ _ _ _ rfl (by simp[nextL,e]) (by simp;omega)
  ·rw[if_neg hx]at hn;simp at hn
 ·rw[show tkS s f x=some (2,0) by simp[tkS,e]]at h1;cases h1
  simp only[stepI,e,Int.reduceEq,if_true,if_false,SM.setL]at hn ⊢
  by_cases hx:L.tail.headD 0<x.b
  ·rw[if_pos hx];exact ok _ _ _ _ (by simp) (by simp[nextL,e]) (by simp;omega)
  ·rw[if_neg hx]at hn;simp at hn
 ·rw[show tkS s f x=some (2,1) by simp[tkS,e]]at h1;cases h1
  simp only[stepI,e,Int.reduceEq,if_true,if_false,SM.setL]at hn ⊢
  by_cases hx:(applyW x.a (L.tail.headD 0) (L.headD 0)).2=0
  ·rw[if_pos hx];exact ok _ _ _ _ rfl (by simp[nextL,e]) (by simp;omega)
  ·rw[if_neg hx]at hn;simp at hn
 ·rw[show tkS s f x=some (1,1) by simp[tkS,e]]at h1;cases h1
  simp only[stepI,e,Int.reduceEq,if_true,if_false,SM.setL]at hn ⊢
  exact ok _ _ _ _ rfl (by simp[nextL,e]) (by simp;omega)
 ·rw[show tkS s f x=some (0,0) by simp[tkS,e]]at h1;cases h1
  simp only[stepI,e,Int.reduceEq,if_true,if_false,SM.jump]at hn ⊢
  obtain ⟨q1,q2,q3⟩:=h5 x.a (by simp[nextL,e])
  exact ⟨im,⟨jf,by simp only;omega,by simp only;rw[q3];simp⟩,ib⟩
 ·rw[show tkS s f x=some (1,0) by simp[tkS,e]]at h1;cases h1
  simp only[stepI,e,Int.reduceEq,if_true,if_false,SM.jump,SM.setL]at hn ⊢
  by_cases hx:L.headD 0=0
  ·rw[if_pos hx]
   obtain ⟨q1,q2,q3⟩:=h5 x.a (by simp[nextL,e])
   exact ⟨im,⟨jf,by simp only;omega,by simp only;rw[q3];simp;omega⟩,ib⟩
  ·rw[if_neg hx]
   obtain ⟨q1,q2,q3⟩:=h5 ((k:Int)+1) (by simp[nextL,e])
   rw[show ((k:Int)+1).toNat=k+1 by omega]at q3
   exact ⟨im,⟨jf,by simp only;omega,by simp only;rw[q3];simp;omega⟩,ib⟩
 ·rw[show tkS s f x=some ((s.fn x.a.toNat).params,((cntB (s.fn x.a.toNat).word:Nat):Int)) by simp[tkS,e,ha,hb]]at h1;cases h1
  simp only[stepI,e,Int.reduceEq,if_true,if_false,SM.call]at hn ⊢
  have hgl:x.a.toNat<s.funcs.length:=by omega
  have hz:=(hD x.a.toNat hgl).zero
  have hne:=(hD x.a.toNat hgl).ne
  obtain ⟨q1,q2,q3⟩:=h5 ((k:Int)+1) (by simp[nextL,e])
  rw[show ((k:Int)+1).toNat=k+1 by omega]at q3
  refine ⟨?_,⟨hgl,?_,?_⟩,⟨jf,by simp only;omega,?_⟩,ib⟩
  ·simp only
   rw[← im]
   refine putR_length ?_
   rw[ownW_length hc rfl]
   have:=hc.fs;have:=hc.f0;have:=hc.p0;have:=hc.ps
   omega
  ·simp only
   cases hcd:(s.fn x.a.toNat).code with
   | nil=>exact absurd hcd hne
   | cons a l=>simp
  ·simp only;rw[hz];simp
  ·simp only;rw[q3]
   have:=hc.deep
   simp only[List.length_drop];omega
 ·simp only[stepI,e,Int.reduceEq,if_true,if_false,SM.ret]at hn ⊢
  cases below with
  | nil=>simp at hn
  | cons c rest =>
   simp only at hn ⊢
   obtain ⟨⟨b1,b2,b3⟩,b4⟩:=ib
   refine ⟨im,⟨b1,b2,?_⟩,b4⟩
   simp only;rw[b3]
   cases (s.fn f).word<;>simp[cntB]<;>omega
 ·rw[show tkS s f x=some (0,1) by simp[tkS,e]]at h1;cases h1
  simp only[stepI,e,Int.reduceEq,if_true,if_false,SM.setL]at hn ⊢
  by_cases hx:rd<inp.size
  ·rw[if_pos hx];exact ok _ _ _ _ rfl (by simp[nextL,e]) (by simp)
  ·rw[if_neg hx];exact ok _ _ _ _ rfl (by simp[nextL,e]) (by simp)
 ·rw[show tkS s f x=some (1,0) by simp[tkS,e]]at h1;cases h1
  simp only[stepI,e,Int.reduceEq,if_false,SM.setL]at hn ⊢
  exact ok _ _ _ _ rfl (by simp[nextL,e]) (by simp;omega)
theorem runS_good {s:SP} (hR:RightP s) (inp:ByteArray):∀ k,(runS s inp (startS s) k).fin=0→Good s (runS s inp (startS s) k):=by
 have hD:∃ D:Nat→List Int,∀ f,f<s.funcs.length→Sol s f (D f):=by
  refine ⟨fun f=>if h:f<s.funcs.length then Classical.choose (hR.fn f h).sol else [],fun f hf=>?_⟩
  simp only[hf,dif_pos]
  exact Classical.choose_spec (hR.fn f hf).sol
 obtain ⟨D,hD⟩:=hD
 have hn0:=hR.n0
 have main:∀ k,(runS s inp (startS s) k).fin=0→InvS s D (runS s inp (startS s) k):=by
  intro k
  induction k with
  | zero =>
   intro _
   have hl:s.funcs.length-1<s.funcs.length:=by omega
   have hs:=hD _ hl
   refine ⟨by simp[runS,startS],⟨hl,?_,?_⟩,hR.lw⟩
   ·show 0<(s.fn (s.funcs.length-1)).code.length
    cases hcd:(s.fn (s.funcs.length-1)).code with
    | nil=>exact absurd hcd hs.ne
    | cons a l=>simp
   ·show (D (s.funcs.length-1)).getD 0 (-1)=_
    rw[hs.zero];rfl
  | succ k ih =>
   intro h1
   by_cases h0:(runS s inp (startS s) k).fin=0
   ·exact inv_step hR hD (ih h0) h0 h1
   ·have:runS s inp (startS s) (k+1)=runS s inp (startS s) k:=runS_fin h0 1
    rw[this]at h1;exact absurd h1 h0
 exact fun k hk=>inv_good hR hD (main k hk)
set_option maxRecDepth 10000
open Go.V
section
variable {op a b c:Int}
theorem ok_num (ho:op=16∨op=17) (ha:0≤a∧a≤15) (hb:0≤b∧b≤15) (hc:0≤c∧c≤65535):okI op a b c=true:=by
 rcases ho with rfl | rfl<;>simp[okI,vOp,winB,hA,hB,cK]<;>omega
theorem ok_one (ho:op=1∨op=2∨op=19∨op=20∨op=21∨op=25) (ha:0≤a∧a≤15) (hc:0≤c∧c≤65535):okI op a 0 c=true:=by
 rcases ho with rfl | rfl | rfl | rfl | rfl | rfl<;>simp[okI,vOp,winB,hA,hB,cK]<;>omega
theorem ok_jmp (hc:0≤c∧c≤65535):okI 18 0 0 c=true:=by simp[okI,vOp,winB,hA,hB,cK];omega
theorem ok_reg (ho:op=22∨op=23∨op=24) (ha:0≤a∧a≤15):okI op a 0 0=true:=by
 rcases ho with rfl | rfl | rfl<;>simp[okI,vOp,winB,hA,hB,cK]<;>omega
theorem ok_halt:okI 26 0 0 0=true:=by decide
theorem ok_op (ho:4≤op∧op≤15) (ha:0≤a∧a≤15) (hb:0≤b∧b≤15) (hc:0≤c∧c≤15):okI op a b c=true:=by
 have h1:op≠18:=by omega
 have h2:op≠26:=by omega
 have e1:vOp op=true:=by simp[vOp];omega
 have e2:hA op=true:=by simp[hA,e1,h1,h2]
 have e3:hB op=true:=by simp[hB];omega
 have e4:cK op=2:=by unfold cK;rw[if_pos ho]
 simp[okI,e1,e2,e3,e4,winB];omega
end
structure SzP (s:SP):Prop where
 r:RightP s
 wf:WfP s
 w:s.words≤8000
 n:sizeN s≤2000
 h:hndN s≤2000
def HasGet (s:SP):Prop:=∃ f<s.funcs.length,∃ k<(s.fn f).code.length,(s.ins f k).op=12
structure SyOk (s:SP) (y:Sy):Prop where
 ok:y.2=none→okI y.1.op y.1.a y.1.b y.1.c=true
 j:∀ p,y.2=some p→(∀ x,0≤x∧x≤65535→okI y.1.op y.1.a y.1.b x=true)∧0≤p.1∧p.1<s.funcs.length∧p.2<((s.fn p.1.toNat).code.length:Int)
 n27:y.1.op≠27
 g:y.1.op=23→HasGet s
theorem SyOk.p {s:SP} {op a bb c:Int} (h:okI op a bb c=true) (h27:op≠27) (h23:op≠23):SyOk s (pY op a bb c):=⟨fun _=>h,fun p hp=>by simp[pY]at hp,h27,fun e=>absurd e h23⟩
theorem SyOk.jm {s:SP} {op a f to:Int} (h:∀ x,0≤x∧x≤65535→okI op a 0 x=true) (h0:0≤f) (h1:f<s.funcs.length) (h2:to<((s.fn f.toNat).code.length:Int)) (h27:op≠27) (h23:op≠23):SyOk s (jY op a f to) :=
 ⟨fun e=>by simp[jY]at e,fun p hp=>by simp only[jY,Option.some.injEq]at hp;subst hp;exact ⟨h,h0,h1,h2⟩,h27,fun e=>absurd e h23⟩
theorem all_app {P:Sy→Prop} {l m:List Sy} (h1:∀ y ∈ l,P y) (h2:∀ y ∈ m,P y):∀ y ∈ l++m,P y:=fun y hy=>(List.mem_append.1 hy).elim (h1 y) (h2 y)
theorem all_cons {P:Sy→Prop} {x:Sy} {l:List Sy} (h:P x) (h2:∀ y ∈ l,P y):∀ y ∈ x::l,P y:=fun y hy=>(List.mem_cons.1 hy).elim (fun e=>by rw[e];exact h) (h2 y)
theorem all_nil {P:Sy→Prop}:∀ y ∈ ([]:List Sy),P y:=fun y hy=>by cases hy
section
variable {s:SP} {f:Nat}
theorem SzP.dat (h:SzP s) {f:Nat} (hf:f≤s.funcs.length):0≤datE s f∧datE s f≤10100:=by
 have h1:=datE_bd h.r f hf
 have h2:=words_le (s:=s) f
 have h3:=h.r.w0
 have h4:=h.r.n1
 have h5:=totS_take lenF s.funcs f
 have h6:=h.n
 have h7:=h.w
 unfold sizeN at h6
 omega
theorem SzP.code (h:SzP s) {f:Nat} (hf:f<s.funcs.length):(s.fn f).code.length≤2000:=by
 have:=totS_mem (w:=lenF) (fn_mem (s:=s) hf)
 have:=h.n
 unfold sizeN at this;unfold lenF at *;omega
theorem ld_ok {d b r:Int} (h:0≤baseE s f+d-b∧baseE s f+d-b≤65535) (hr:0≤r∧r≤15):SyOk s (ldE (exE s f) d r b):=SyOk.p (ok_num (.inl rfl) hr ⟨by decide,by decide⟩ h) (by decide) (by decide)
theorem st_ok {d b r:Int} (h:0≤baseE s f+d-b∧baseE s f+d-b≤65535) (hr:0≤r∧r≤15):SyOk s (stE (exE s f) d r b):=SyOk.p (ok_num (.inr rfl) hr ⟨by decide,by decide⟩ h) (by decide) (by decide)
theorem ins_ok (h:SzP s) (hf:f<s.funcs.length) {k:Nat} (hk:k<(s.fn f).code.length) {d e:Int} (hd:0≤d∧d≤dpE (depS s f)) (he:effD s f (s.ins f k) d=some e):∀ y ∈ insE (exE s f) d (s.ins f k),SyOk s y:=by
 have hfit:=(h.r.fn f hf).fits k hk
 have hn:=ins_wf h.wf hf hk
 have hg:(s.ins f k).op=12→HasGet s:=fun e=>⟨f,hf,k,hk,e⟩
 obtain ⟨t,p,h1,h2,h3,h4,h5⟩:=effD_some he
 have b0:=words_le (s:=s) f
 have b1:=base_ge (s:=s) f
 have b2:=(h.dat (f:=f+1) (by omega)).2
 have w0:=h.r.w0
 have hw:=h.w
 have hcode:=h.code hf
 rw[datE_next]at b2
 have hfn:∀ g<s.funcs.length,FunH s g:=fun g hg=>(h.r.fn g hg).h
 have hne:∀ g<s.funcs.length,0<(s.fn g).code.length:=fun g hg=>by
  obtain ⟨_,hs⟩:=(h.r.fn g hg).sol;exact List.length_pos_iff.2 hs.ne
 generalize s.ins f k=x at *
 obtain ⟨op,a,b,n⟩:=x
 obtain ⟨n1,n2⟩:=hn
 obtain ⟨f1,f2,f3⟩:=hfit
 simp only at f1 f2 f3 n1 n2 h1 h4 hg
 have r1:0≤(1:Int)∧(1:Int)≤15:=by decide
 have r2:0≤(2:Int)∧(2:Int)≤15:=by decide
 have r0:0≤(0:Int)∧(0:Int)≤15:=by decide
 have r14:0≤(14:Int)∧(14:Int)≤15:=by decide
 rcases f3 with ⟨g1,g2⟩ | ⟨g1,g2,g3⟩ | ⟨g1,g2,g3,g4,g5⟩ | ⟨g1,g2,g3⟩ | ⟨g1,g2,g3⟩ | ⟨g1,g2,g3⟩
 ·rcases g1 with rfl | rfl | rfl | rfl | rfl
  ·simp only[insE,Int.reduceEq,if_true,if_false]
   refine all_app (all_cons (SyOk.p (ok_one (.inl rfl) r1 ⟨by omega,by omega⟩) (by decide) (by decide)) ?_) (all_cons (st_ok ⟨by omega,by omega⟩ r1) all_nil)
   split
   ·exact all_cons (SyOk.p (ok_one (.inr (.inl rfl)) r1 ⟨by omega,by omega⟩) (by decide) (by decide)) all_nil
   ·exact all_nil
  ·have ht:tkS s f ⟨7,a,b,n⟩=some (1,1):=by simp[tkS]
   rw[ht]at h1;cases h1
   simp only[insE,Int.reduceEq,if_true,if_false]
   exact all_cons (ld_ok ⟨by omega,by omega⟩ r1) (all_cons (SyOk.p (ok_op ⟨by decide,by decide⟩ r1 r1 r0) (by decide) (by decide)) (all_cons (st_ok ⟨by omega,by omega⟩ r1) all_nil))
  ·have ht:tkS s f ⟨11,a,b,n⟩=some (((cntB (s.fn f).word:Nat):Int),0):=by simp[tkS]
   rw[ht]at h1;cases h1
   simp only[insE,Int.reduceEq,if_true,if_false,leaveE]
   split
   ·exact all_cons (SyOk.p ok_halt (by decide) (by decide)) all_nil
   ·have hb3:=h.dat (f:=f) (by omega)
    refine all_app ?_ (all_cons (SyOk.p (ok_num (.inl rfl) r14 r0 (by show 0≤datE s f∧datE s f≤65535;omega)) (by decide) (by decide)) (all_cons (SyOk.p (ok_reg (.inl rfl) r14) (by decide) (by decide)) all_nil))
    split
    ·rename_i hw
     rw[show (s.fn f).word=true from hw]at h3
     have:((cntB true:Nat):Int)=1:=rfl
     exact all_cons (ld_ok ⟨by omega,by omega⟩ r1) all_nil
    ·exact all_nil
  ·simp only[insE,Int.reduceEq,if_true,if_false]
   exact all_cons ⟨fun _=>ok_reg (.inr (.inl rfl)) r1,fun p hp=>by simp[pY]at hp,by decide,fun _=>hg rfl⟩ (all_cons (st_ok ⟨by omega,by omega⟩ r1) all_nil)
  ·have ht:tkS s f ⟨13,a,b,n⟩=some (1,0):=by simp[tkS]
   rw[ht]at h1;cases h1
   simp only[insE,Int.reduceEq,if_true,if_false]
   exact all_cons (ld_ok ⟨by omega,by omega⟩ r1) (all_cons (SyOk.p (ok_reg (.inr (.inr rfl)) r1) (by decide) (by decide)) all_nil)
 ·rcases g1 with rfl | rfl
  ·simp only[insE,Int.reduceEq,if_true,if_false]
   exact all_cons (SyOk.p (ok_num (.inl rfl) r1 r0 ⟨by omega,by omega⟩) (by decide) (by decide)) (all_cons (st_ok ⟨by omega,by omega⟩ r1) all_nil)
  ·have ht:tkS s f ⟨3,a,b,n⟩=some (1,0):=by simp[tkS]
   rw[ht]at h1;cases h1
   simp only[insE,Int.reduceEq,if_true,if_false]
   exact all_cons (ld_ok ⟨by omega,by omega⟩ r1) (all_cons (SyOk.p (ok_num (.inr rfl) r1 r0 ⟨by omega,by omega⟩) (by decide) (by decide)) all_nil)
 ·rcases g1 with rfl | rfl
  ·have ht:tkS s f ⟨4,a,b,n⟩=some (1,1):=by simp[tkS]
   rw[ht]at h1;cases h1
   simp only[insE,Int.reduceEq,if_true,if_false]
   exact all_cons (ld_ok ⟨by omega,by omega⟩ r1) (all_cons (SyOk.p (ok_one (by omega) r1 ⟨by omega,by omega⟩) (by decide) (by decide)) (all_cons (SyOk.p (ok_num (.inl rfl) r1 r1 ⟨by omega,by omega⟩) (by decide) (by decide)) (all_cons (st_ok ⟨by omega,by omega⟩ r1) all_nil)))
  ·have ht:tkS s f ⟨5,a,b,n⟩=some (2,0):=by simp[tkS]
   rw[ht]at h1;cases h1
   simp only[insE,Int.reduceEq,if_true,if_false]
   exact all_cons (ld_ok ⟨by omega,by omega⟩ r1) (all_cons (SyOk.p (ok_one (by omega) r1 ⟨by omega,by omega⟩) (by decide) (by decide)) (all_cons (ld_ok ⟨by omega,by omega⟩ r2) (all_cons (SyOk.p (ok_num (.inr rfl) r2 r1 ⟨by omega,by omega⟩) (by decide) (by decide)) all_nil)))
 ·subst g1
  have ht:tkS s f ⟨6,a,b,n⟩=some (2,1):=by simp[tkS]
  rw[ht]at h1;cases h1
  simp only[insE,Int.reduceEq,if_true,if_false]
  exact all_cons (ld_ok ⟨by omega,by omega⟩ r1) (all_cons (ld_ok ⟨by omega,by omega⟩ r2) (all_cons (SyOk.p (ok_op ⟨g2,g3⟩ r1 r1 r2) (by omega) (by omega)) (all_cons (st_ok ⟨by omega,by omega⟩ r1) all_nil)))
 ·rcases g1 with rfl | rfl
  ·simp only[insE,Int.reduceEq,if_true,if_false]
   exact all_cons (SyOk.jm (fun x hx=>ok_jmp hx) (by show (0:Int)≤(f:Int);omega) (by show (f:Int)<_;omega) (by simpa [exE] using g3) (by decide) (by decide)) all_nil
  ·have ht:tkS s f ⟨9,a,b,n⟩=some (1,0):=by simp[tkS]
   rw[ht]at h1;cases h1
   simp only[insE,Int.reduceEq,if_true,if_false]
   exact all_cons (ld_ok ⟨by omega,by omega⟩ r1) (all_cons (SyOk.jm (fun x hx=>ok_one (by omega) r1 hx) (by show (0:Int)≤(f:Int);omega) (by show (f:Int)<_;omega) (by simpa [exE] using g3) (by decide) (by decide)) all_nil)
 ·subst g1
  have ha:a<(s.funcs.length:Int):=by omega
  have ht:tkS s f ⟨10,a,b,n⟩=some ((s.fn a.toNat).params,((cntB (s.fn a.toNat).word:Nat):Int)):=by simp[tkS,g2,ha]
  rw[ht]at h1;cases h1
  obtain ⟨k1,k2,k3,k4,k5⟩:=hfn a.toNat (by omega)
  simp only[insE,Int.reduceEq,if_true,if_false,callE]
  refine all_app (all_app (fun y hy=>?_) (all_cons (SyOk.jm (fun x hx=>ok_one (by omega) r14 hx) g2 ha (by have:=hne a.toNat (by omega);omega) (by decide) (by decide)) all_nil)) ?_
  ·obtain ⟨j,hj,hy⟩:=List.mem_flatMap.1 hy
   have hj:=List.mem_range.1 hj
   have e:(exE s f).s=s:=rfl
   rw[e]at hj hy
   exact all_cons (P:=SyOk s) (ld_ok ⟨by omega,by omega⟩ r1) (all_cons (SyOk.p (ok_num (.inr rfl) r1 r0 ⟨by omega,by omega⟩) (by decide) (by decide)) all_nil) y hy
  ·split
   ·have e:(exE s f).s=s:=rfl
    rw[e]
    exact all_cons (st_ok ⟨by omega,by omega⟩ r1) all_nil
   ·exact all_nil
theorem ite_len {p:Prop} [Decidable p] {a b:List Sy} {n:Nat} (h1:p→a.length≤n) (h2:¬ p→b.length≤n):(if p then a else b).length≤n:=by
 by_cases h:p
 ·rw[if_pos h];exact h1 h
 ·rw[if_neg h];exact h2 h
theorem insE_len (c:Ex) (d:Int) (x:SI):(insE c d x).length≤4+2*hndI c.s x:=by
 unfold insE
 by_cases e:x.op=10
 ·simp only[e,Int.reduceEq,if_true,if_false,callE,hndI,List.length_append,argsE_len,List.length_cons,List.length_nil]
  split<;>simp<;>omega
 ·have hn:(numE 1 x.n).length≤2:=by unfold numE;split<;>simp
  have hl:(leaveE c d).length≤3:=by
   unfold leaveE
   split
   ·simp
   ·split<;>simp
  iterate 9 (refine ite_len (fun _=>?_) fun _=>?_;· (try simp only[List.length_append,List.length_cons,List.length_nil]);omega)
  refine ite_len (fun e2=>absurd e2 e) fun _=>?_
  iterate 3 (refine ite_len (fun _=>?_) fun _=>?_;· (try simp only[List.length_cons,List.length_nil]);omega)
  simp
theorem restE_len (c:Ex):∀ (l:List SI) (i:Nat),(restE c i l).length≤4*l.length+2*hndL c.s l
 | [],i=>by simp[restE]
 | x::l,i=>by
  have h1:=restE_len c l (i+1)
  have h2:=insE_len c (c.dl.getD i (-1)) x
  simp only[restE,List.length_append,List.length_cons,hndL,List.map_cons,List.sum_cons]at h1 ⊢
  have h3:(atE c i x).length≤4+2*hndI c.s x:=by
   unfold atE;split
   ·exact h2
   ·simp
  omega
theorem hndL_take (l:List SI) (k:Nat):hndL s (l.take k)≤hndL s l:=by
 conv=>rhs;rw[← List.take_append_drop k l]
 unfold hndL
 rw[List.map_append,List.sum_append];omega
def wF (s:SP) (g:SF):Nat:=7+4*g.code.length+2*hndL s g.code
theorem wF_tot (s:SP):∀ l:List SF,totS (wF s) l=7*l.length+4*totS lenF l+2*totS (fun g=>hndL s g.code) l
 | []=>rfl
 | g::l=>by
  have:=wF_tot s l
  simp only[totS,List.map_cons,List.sum_cons,List.length_cons]at this ⊢
  rw[this];unfold wF lenF;omega
theorem SzP.wtot (h:SzP s):totS (wF s) s.funcs≤12448:=by
 have h1:=h.n
 have h2:=h.h
 have h3:=h.r.n1
 unfold sizeN at h1
 unfold hndN at h2
 rw[wF_tot];omega
theorem funE_len (s:SP) (f n:Nat):(funE (exE s f) n).length≤wF s (s.fn f):=by
 have h1:=headE_len (exE s f) n
 have h2:=restE_len (exE s f) (exE s f).g.code 0
 unfold funE wF
 rw[List.length_append]
 have e:(exE s f).g=s.fn f:=rfl
 have e2:(exE s f).s=s:=rfl
 rw[e2]at h2
 rw[e]at h2 ⊢
 omega
theorem restE_mem (c:Ex) {y:Sy}:∀ (l:List SI) (i:Nat),y ∈ restE c i l→∃ k<l.length,y ∈ atE c (i+k) (l.getD k default)
 | [],i,h=>by simp[restE]at h
 | x::l,i,h=>by
  simp only[restE]at h
  rcases List.mem_append.1 h with h | h
  ·exact ⟨0,by simp,by simpa using h⟩
  ·obtain ⟨k,h1,h2⟩:=restE_mem c l (i+1) h
   exact ⟨k+1,by simp;omega,by rw[show i+(k+1)=i+1+k by omega];simpa using h2⟩
theorem fun_ok (h:SzP s) (hf:f<s.funcs.length) {n:Nat} (hn:n≤60000):∀ y ∈ funE (exE s f) n,SyOk s y:=by
 have hs:=depS_sol h.r hf
 refine all_app ?_ fun y hy=>?_
 ·have hfh:=(h.r.fn f hf).h
  obtain ⟨k1,k2,k3,k4,k5⟩:=hfh
  have hw:=h.w
  have hb:=h.dat (f:=f) (by omega)
  unfold headE
  split
  ·exact all_nil
  ·refine all_app (all_cons (SyOk.p (ok_num (.inr rfl) ⟨by decide,by decide⟩ ⟨by decide,by decide⟩ (by show 0≤datE s f∧datE s f≤65535;omega)) (by decide) (by decide)) all_nil) ?_
   have e:(exE s f).g=s.fn f:=rfl
   rw[e]
   unfold clearE
   split
   ·intro y hy
    unfold zerosE at hy
    obtain ⟨j,hj,rfl⟩:=List.mem_map.1 hy
    have hj:=List.mem_range.1 hj
    exact SyOk.p (ok_num (.inr rfl) ⟨by decide,by decide⟩ ⟨by decide,by decide⟩ ⟨by omega,by omega⟩) (by decide) (by decide)
   ·exact all_cons (SyOk.p (ok_one (.inl rfl) ⟨by decide,by decide⟩ ⟨by omega,by omega⟩) (by decide) (by decide)) (all_cons (SyOk.p (ok_one (.inl rfl) ⟨by decide,by decide⟩ ⟨by omega,by omega⟩) (by decide) (by decide))
     (all_cons (SyOk.p (by decide) (by decide) (by decide)) (all_cons (SyOk.p (by decide) (by decide) (by decide)) (all_cons (SyOk.p (by decide) (by decide) (by decide)) (all_cons (SyOk.p (ok_one (by omega) ⟨by decide,by decide⟩ ⟨by omega,by omega⟩) (by decide) (by decide)) all_nil)))))
 ·obtain ⟨k,hk,hy⟩:=restE_mem (exE s f) _ 0 hy
  rw[Nat.zero_add]at hy
  unfold atE at hy
  have hk':k<(s.fn f).code.length:=hk
  have e1:(exE s f).dl=depS s f:=rfl
  rw[e1]at hy
  split at hy
  ·rename_i hd
   obtain ⟨v,hv,_⟩:=hs.cl k (by rw[hs.len];exact hk') hd
   have hdp:(depS s f).getD k (-1)≤dpE (depS s f):=by
    obtain ⟨n,hn⟩:=Int.eq_ofNat_of_zero_le hd
    rw[hn];exact dpE_at hn
   exact ins_ok h hf hk' ⟨hd,hdp⟩ hv y hy
  ·cases hy
structure RunQ (s:SP) (S:S3) (o:List Nat) (N:Nat):Prop where
 en:S.en.length=s.funcs.length
 rows:S.rows.length=s.funcs.length
 ok:∀ y ∈ S.l,SyOk s y
 len:S.l.length≤N
 env:∀ x ∈ S.en,0≤x∧x≤(S.l.length:Int)
 rwv:∀ r ∈ S.rows,∀ x ∈ r,0≤x∧x≤(S.l.length:Int)
 rwl:∀ i ∈ o,(S.rows.getD i []).length=(s.fn i).code.length
theorem RunQ.step (h:SzP s) {S:S3} {o:List Nat} {N i:Nat} (hS:RunQ s S o N) (hN:N≤60000) (hi:i<s.funcs.length):RunQ s (stepE s S i) (o++[i]) (N+wF s (s.fn i)):=by
 have hfl:=funE_len s i S.l.length
 have hSl:=hS.len
 have hrow:∀ x ∈ rowE (exE s i) (S.l.length+(headE (exE s i) S.l.length).length) (s.fn i).code.length,0≤x∧x≤((S.l++funE (exE s i) S.l.length).length:Int):=fun x hx=>by
  unfold rowE at hx
  obtain ⟨k,hk,rfl⟩:=List.mem_map.1 hx
  have hk':k<(s.fn i).code.length:=List.mem_range.1 hk
  rw[if_pos hk']
  have e:restE (exE s i) 0 (exE s i).g.code=restE (exE s i) 0 ((exE s i).g.code.take k)++restE (exE s i) (0+((exE s i).g.code.take k).length) ((exE s i).g.code.drop k):=by
   have:∀ (l m:List SI) (j:Nat),restE (exE s i) j (l++m)=restE (exE s i) j l++restE (exE s i) (j+l.length) m:=by
    intro l
    induction l with
    | nil=>intro m j;simp[restE]
    | cons a l ih=>intro m j;simp only[List.cons_append,restE,ih,List.append_assoc,List.length_cons];rw[show j+1+l.length=j+(l.length+1) by omega]
   rw[← this,List.take_append_drop]
  unfold funE
  rw[e]
  simp only[List.length_append]
  omega
 refine ⟨by simp[stepE,hS.en],by simp[stepE,hS.rows],all_app hS.ok (fun_ok h hi (by omega)),?_,fun x hx=>?_,fun r hr x hx=>?_,fun k hk=>?_⟩
 ·simp only[stepE,List.length_append];omega
 ·simp only[stepE]at hx ⊢
  rw[List.length_append]
  rcases List.mem_or_eq_of_mem_set hx with hx | rfl
  ·have:=hS.env x hx;omega
  ·omega
 ·simp only[stepE]at hr ⊢
  rcases List.mem_or_eq_of_mem_set hr with hr | rfl
  ·have:=hS.rwv r hr x hx
   rw[List.length_append];omega
  ·exact hrow x hx
 ·simp only[stepE]
  by_cases e:i=k
  ·subst e
   rw[List.getD,List.getElem?_set_self (by rw[hS.rows];exact hi)]
   exact rowE_len _ _ _
  ·rw[List.getD,List.getElem?_set_ne e]
   rcases List.mem_append.1 hk with hk | hk
   ·exact hS.rwl k hk
   ·exact absurd (List.mem_singleton.1 hk).symm e
theorem wF_two (s:SP) {j:Nat} (hj:j≤s.funcs.length-1) (hn:1≤s.funcs.length):wF s (s.fn (s.funcs.length-1))+totS (wF s) (s.funcs.take j)≤totS (wF s) s.funcs:=by
 have e:=totS_step (wF s) s.funcs (k:=s.funcs.length-1) (by omega)
 rw[show s.funcs.length-1+1=s.funcs.length by omega,List.take_of_length_le (Nat.le_refl _)]at e
 have h1:=totS_take (wF s) (s.funcs.take (s.funcs.length-1)) j
 rw[List.take_take,Nat.min_eq_left hj]at h1
 have:wF s (s.fn (s.funcs.length-1))=wF s (s.funcs.getD (s.funcs.length-1) default):=rfl
 omega
theorem RunQ.all (h:SzP s):∀ j,j≤s.funcs.length-1→RunQ s (runE s (ordJ s.funcs.length j)) (ordJ s.funcs.length j) (1+wF s (s.fn (s.funcs.length-1))+totS (wF s) (s.funcs.take j))
 | 0,_=>by
  have hn:=h.r.n0
  have h0:RunQ s ⟨[pY 1 15 0 1],List.replicate s.funcs.length 0,List.replicate s.funcs.length []⟩ [] 1:=⟨by simp,by simp,all_cons (SyOk.p (by decide) (by decide) (by decide)) all_nil,by simp,fun x hx=>(by rw[(List.mem_replicate.1 hx).2];simp),fun r hr x hx=>(by rw[(List.mem_replicate.1 hr).2]at hx;cases hx),fun i hi=>(by cases hi)⟩
  have:=RunQ.step h h0 (by omega) (i:=s.funcs.length-1) (by omega)
  simpa [ordJ,runE,totS] using this
 | j+1,hj=>by
  have h1:=RunQ.all h j (by omega)
  have h3:=wF_two s (j:=j) (by omega) h.r.n0
  have h4:=h.wtot
  have h2:=RunQ.step h h1 (by omega) (i:=j) (by omega)
  rw[ordJ_succ,runE_snoc,totS_step (wF s) s.funcs (show j<s.funcs.length by omega),← Nat.add_assoc]
  exact h2
theorem SzP.fin (h:SzP s):RunQ s (endE s) (ordJ s.funcs.length (s.funcs.length-1)) 12449:=by
 have h1:=RunQ.all h (s.funcs.length-1) (Nat.le_refl _)
 have h3:=wF_two s (Nat.le_refl _) h.r.n0
 have h4:=h.wtot
 obtain ⟨a1,a2,a3,a4,a5,a6,a7⟩:=h1
 exact ⟨a1,a2,a3,by show (runE s _).l.length≤_;omega,a5,a6,a7⟩
theorem SzP.jok (h:SzP s):JOk (endE s).en (endE s).rows (endE s).l:=fun i p hp=>by
 have hR:=h.fin
 obtain ⟨_,a1,a2,a3⟩:=(hR.ok _ hp).j p rfl
 refine ⟨a1,by rw[hR.en];exact a2,by rw[hR.rows];exact a2,?_⟩
 rw[hR.rwl p.1.toNat (ordJ_mem (by omega))]
 exact a3
theorem SzP.fix (h:SzP s):∀ i ∈ fixE s,okI i.op i.a i.b i.c=true∧i.op≠27∧(i.op=23→HasGet s):=fun i hi=>by
 have hR:=h.fin
 have hlen:=hR.len
 unfold fixE fixY at hi
 obtain ⟨⟨ci,o⟩,hy,rfl⟩:=List.mem_map.1 hi
 obtain ⟨k1,k2,k3,k4⟩:=hR.ok _ hy
 cases o with
 | none=>exact ⟨k1 rfl,k3,k4⟩
 | some p =>
  obtain ⟨g1,g2,g3,g4⟩:=k2 p rfl
  obtain ⟨j1,j2,j3,j4⟩:=h.jok ci p hy
  have key:0≤tgt (endE s).en (endE s).rows p∧tgt (endE s).en (endE s).rows p≤65535:=by
   unfold tgt
   by_cases h0:0≤p.2
   ·rw[if_pos h0]
    have hr:=hR.rwv ((endE s).rows.getD p.1.toNat []) (by rw[List.getD,List.getElem?_eq_getElem (by omega)];exact List.getElem_mem _) (((endE s).rows.getD p.1.toNat []).getD p.2.toNat default) (mem_getD (by omega))
    omega
   ·rw[if_neg h0]
    have hr:=hR.env ((endE s).en.getD p.1.toNat default) (mem_getD (by omega))
    omega
  exact ⟨g1 _ key,k3,k4⟩
theorem SzP.ofH (h:SzP s):OfH s:=by
 have hn1:=h.r.n1
 have hn0:=h.r.n0
 have hw:=h.w
 have hw0:=h.r.w0
 have hR:=h.fin
 have dflt:∀ f,¬ f<s.funcs.length→s.fn f=default:=fun f hf=>by unfold SP.fn;rw[List.getD,List.getElem?_eq_none (by omega)];rfl
 refine ⟨⟨h.r,⟨by omega,fun f=>?_,fun f=>?_⟩,fun f hf=>?_,fun f hf=>⟨?_,fun x hx=>?_⟩,fun f hf=>⟨⟨hf,by show s.funcs.length≤64;omega,?_,?_,?_,?_,?_,?_,?_,?_,?_,fun g hg=>(h.r.fn g hg).h⟩,⟨?_,fun i hi=>?_,fun i hi=>⟨?_,?_⟩,?_,fun k=>?_⟩⟩,fun j hj=>?_,h.jok,fun i hi=>hR.rwl i (ordJ_mem hi)⟩,fun i hi=>(h.fix i hi).1,by have:=hR.len;omega,?_⟩
 ·by_cases hf:f<s.funcs.length
  ·have:=h.code hf;omega
  ·rw[dflt f hf];exact Nat.zero_le _
 ·by_cases hf:f<s.funcs.length
  ·obtain ⟨k1,k2,k3,k4,k5⟩:=(h.r.fn f hf).h
   exact ⟨by omega,by omega⟩
  ·rw[dflt f hf];exact ⟨by decide,by decide⟩
 ·have:=h.dat hf;omega
 ·rw[(depS_sol h.r hf).len];have:=h.code hf;omega
 ·have:=depS_mem h.r hf hx;have:=h.code hf;omega
 ·show (bssS s s.funcs.length).getD f default=baseE s f
  simp[bssS,List.getD,hf]
 ·show f<(bssS s s.funcs.length).length
  simp[bssS,hf]
 ·show (bksS s s.funcs.length).getD f default=datE s f
  simp[bksS,List.getD,hf]
 ·show f<(bksS s s.funcs.length).length
  simp[bksS,hf]
 ·show (dlsS s s.funcs.length).getD f default=depS s f
  simp[dlsS,List.getD,hf]
 ·show f<(dlsS s s.funcs.length).length
  simp[dlsS,hf]
 ·show 0≤baseE s f∧baseE s f≤100000
  have:=h.dat (f:=f) (by omega);have:=base_ge (s:=s) f;have:=base_le (s:=s) f;omega
 ·show 0≤datE s f∧datE s f≤100000
  have:=h.dat (f:=f) (by omega);omega
 ·show 0≤s.words∧s.words≤40000
  omega
 ·exact (depS_sol h.r hf).len
 ·obtain ⟨g1,g2,g3⟩:=(depS_R h.r hf).1 rfl
  have hcd:=h.code hf
  have:=g1.len
  have:=g2 i
  have:=g3 i
  show -1≤(depS s f).getD i (-1)∧(depS s f).getD i (-1)≤100000
  omega
 ·exact (h.r.fn f hf).fits i hi
 ·exact ins_wf h.wf hf hi
 ·show (s.fn f).code.length≤100000
  have:=h.code hf;omega
 ·have h1:=restE_len (exE s f) ((exE s f).g.code.take k) 0
  have h2:=hndL_take (s:=s) (s.fn f).code k
  have h3:=h.code hf
  have h4:=totS_mem (w:=fun g=>hndL s g.code) (fn_mem (s:=s) hf)
  have h5:=h.h
  unfold hndN at h5
  have e1:(exE s f).s=s:=rfl
  have e2:(exE s f).g=s.fn f:=rfl
  rw[e1,e2,List.length_take]at h1
  rw[e2]
  omega
 ·have h1:=RunQ.all h j hj
  have h3:=wF_two s hj h.r.n0
  have h4:=h.wtot
  exact ⟨h1.en,h1.rows,by have:=h1.len;omega⟩
 ·show datE s s.funcs.length≤32768
  have:=h.dat (Nat.le_refl s.funcs.length);omega
end
set_option maxRecDepth 10000
open Go.V Go.ChangeShapes Go.WideShapes Go.ChangeAt Go.RowKit
theorem Tryz.own:ownKnob Tryz.prog.godebug=none:=by kernel_rfl
theorem Tryz.laidOut:laidOutB Tryz.prog=true:=by kernel_rfl
set_option maxRecDepth 10000
open Go.V Go.ChangeShapes Go.WideShapes Go.ChangeAt Go.RowKit
abbrev siSh:Sh:=.agg [.int .i64,.int .i64,.int .i64,.int .u32]
abbrev sfSh:Sh:=.agg [.int .i64,.int .i64,.int .i64,.bool,.sl 4 32 siSh]
abbrev spSh:Sh:=.agg [.int .i64,.sl 5 56 sfSh]
theorem fit_w {x:AV} (h:Sh.fit (.int .u32) x):∃ n:Int,x=U32 n∧In32 n:=by
 simp only[Sh.fit]at h
 obtain ⟨n,rfl,h⟩:=h
 simp[Lit.wf,IntKind.min,IntKind.max,IntKind.bits,IntKind.signed]at h
 exact ⟨n,rfl,by unfold In32;omega⟩
theorem fit_b {x:AV} (h:Sh.fit .bool x):∃ b:Bool,x=B b:=by
 simp only[Sh.fit]at h;exact h
def SIOk (x:SI):Prop:=Int64 x.op∧Int64 x.a∧Int64 x.b∧In32 x.n
theorem si_of {x:AV} (h:Sh.fit siSh x):∃ i:SI,x=siA i∧SIOk i:=by
 simp only[siSh,Sh.fit.eq_5,Sh.fitL]at h
 obtain ⟨ys,rfl,a,_,rfl,ha,b,_,rfl,hb,c,_,rfl,hc,d,_,rfl,hd,rfl⟩:=h
 obtain ⟨op,rfl,k1⟩:=fit_int ha
 obtain ⟨a,rfl,k2⟩:=fit_int hb
 obtain ⟨b,rfl,k3⟩:=fit_int hc
 obtain ⟨n,rfl,k4⟩:=fit_w hd
 exact ⟨⟨op,a,b,n⟩,rfl,k1,k2,k3,k4⟩
structure SFOk (g:SF):Prop where
 p:Int64 g.params
 s:Int64 g.slots
 f:Int64 g.first
 len:g.code.length*32≤140737488351232
 code:∀ x ∈ g.code,SIOk x
theorem sf_of {x:AV} (h:Sh.fit sfSh x):∃ g:SF,x=sfA g∧SFOk g:=by
 simp only[sfSh,Sh.fit.eq_5,Sh.fitL]at h
 obtain ⟨ys,rfl,a,_,rfl,ha,b,_,rfl,hb,c,_,rfl,hc,d,_,rfl,hd,e,_,rfl,he,rfl⟩:=h
 obtain ⟨p,rfl,k1⟩:=fit_int ha
 obtain ⟨q,rfl,k2⟩:=fit_int hb
 obtain ⟨f,rfl,k3⟩:=fit_int hc
 obtain ⟨w,rfl⟩:=fit_b hd
 simp only[Sh.fit.eq_4]at he
 obtain ⟨xs,rfl,_,h1,h2⟩:=he
 obtain ⟨l,rfl,h3⟩:=maps_of (f:=siA) (p:=SIOk) (fun y hy=>si_of hy) xs h2
 exact ⟨⟨p,q,f,w,l⟩,rfl,k1,k2,k3,by simpa [reachBytes] using h1,h3⟩
structure SPOk (s:SP):Prop where
 w:Int64 s.words
 len:s.funcs.length*56≤140737488351232
 fn:∀ g ∈ s.funcs,SFOk g
theorem sp_of {x:AV} (h:Sh.fit spSh x):∃ s:SP,x=spA s∧SPOk s:=by
 simp only[spSh,Sh.fit.eq_5,Sh.fitL]at h
 obtain ⟨ys,rfl,a,_,rfl,ha,e,_,rfl,he,rfl⟩:=h
 obtain ⟨w,rfl,k1⟩:=fit_int ha
 simp only[Sh.fit.eq_4]at he
 obtain ⟨xs,rfl,_,h1,h2⟩:=he
 obtain ⟨l,rfl,h3⟩:=maps_of (f:=sfA) (p:=SFOk) (fun y hy=>sf_of hy) xs h2
 exact ⟨⟨w,l⟩,rfl,k1,by simpa [reachBytes] using h1,h3⟩
theorem SPOk.at_ {s:SP} (h:SPOk s) (f:Nat):SFOk (s.fn f):=by
 unfold SP.fn
 rw[List.getD]
 cases hf:s.funcs[f]? with
 | none=>exact ⟨⟨by decide,by decide⟩,⟨by decide,by decide⟩,⟨by decide,by decide⟩,by decide,fun x hx=>by cases hx⟩
 | some g=>exact h.fn g (List.mem_of_getElem? hf)
theorem fitS_cons {s:Sh} {ss:List Sh} {ys:List AV} (h:Sh.fitL (s::ss) ys):∃ y ys',ys=y::ys'∧s.fit y∧Sh.fitL ss ys':=by
 simp only[Sh.fitL]at h;exact h
def sizeS (l:List SF):Nat:=(l.map fun g=>g.code.length).sum
theorem size_take (l:List SF) (k:Nat) (h:k<l.length):sizeS (l.take (k+1))=sizeS (l.take k)+(l.getD k default).code.length:=by
 unfold sizeS
 rw[List.take_add_one,List.getElem?_eq_getElem h,List.map_append,List.sum_append]
 simp[List.getD,List.getElem?_eq_getElem h]
theorem size_le (l:List SF) (k:Nat):sizeS (l.take k)≤sizeS l:=by
 unfold sizeS
 conv=>rhs;rw[← List.take_append_drop k l]
 rw[List.map_append,List.sum_append];omega
theorem size_one (s:SP) (f:Nat):(s.fn f).code.length≤sizeS s.funcs:=by
 by_cases h:f<s.funcs.length
 ·have h1:=size_take s.funcs f h
  have h2:=size_le s.funcs (f+1)
  have:s.fn f=s.funcs.getD f default:=rfl
  rw[this];omega
 ·unfold SP.fn
  rw[List.getD,List.getElem?_eq_none (by omega)];exact Nat.zero_le _
theorem size_bound (l:List SF) (n:Nat) (h:∀ g ∈ l,g.code.length≤n):sizeS l≤l.length*n:=by
 induction l with
 | nil=>simp[sizeS]
 | cons g l ih =>
  have h1:=ih fun x hx=>h x (List.mem_cons_of_mem _ hx)
  have h2:=h g (by simp)
  simp only[sizeS,List.map_cons,List.sum_cons,List.length_cons,Nat.succ_mul]at h1 ⊢
  omega
theorem refsize_c (s:SP) (hl:s.funcs.length≤70) (hs:∀ g ∈ s.funcs,g.code.length≤4398046510976):Contract Tryz.prog 29 [spA s] (fun r=>r=I (sizeS s.funcs)):=by
 refine Contract.of_call (VCall.of_body hmix f_scref20_Size (by simp) ?_)
 have hb:=size_bound s.funcs _ hs
 have hb2:s.funcs.length*4398046510976≤70*4398046510976:=Nat.mul_le_mul_right _ hl
 simp only[go_sem,c_scref20_Size]
 refine VW_loop (fun i:Nat=>⟨[(1,.ptr 0 0 0),(3,I (sizeS (s.funcs.take i))),(4,I i)],[⟨0,24,1,[I s.words,fnsA s.funcs]⟩],1⟩)
  (fun i=>i≤s.funcs.length) (fun i=>s.funcs.length-i) 0 (Wk.mk (by simp[get_cons,sizeS]) ⟨[],rfl⟩ (Nat.le_refl _)) (Nat.zero_le _) ?_
 intro i hi
 by_cases h:(i:Int)<(s.funcs.length:Int)
 ·have h1:=size_take s.funcs i (by omega)
  have h2:=size_le s.funcs (i+1)
  have e1:IntKind.i64.wrap ((i:Int)+1)=((i+1:Nat):Int):=by rw[i64_in (by omega) (by omega)];omega
  have e2:IntKind.i64.wrap (((sizeS (s.funcs.take i):Nat):Int)+(((s.funcs.getD i default).code.length:Nat):Int))=((sizeS (s.funcs.take (i+1)):Nat):Int):=by rw[i64_in (by omega) (by omega)];omega
  simp only[go_sem,eq_true h,e1,e2]
  repeat (refine And.intro (by omega) ?_)
  exact ⟨i+1,by omega,by omega,Wk.mk (by simp[get_cons]) ⟨[],(List.append_nil _).symm⟩ (Nat.le_refl _)⟩
 ·obtain rfl:i=s.funcs.length:=by omega
  simp only[go_sem,eq_false h,List.take_length]
  exact ⟨_,Frz.pure rfl,rfl⟩
def fewB (s:SP) (n:Int):Bool:=decide (s.funcs.length≤70∧(sizeS s.funcs:Int)≤n)
theorem few_c (s:SP) (h:SPOk s) (n:Int):Contract Tryz.prog 13 [spA s,I n] (fun r=>r=B (fewB s n)):=by
 refine Contract.of_call (VCall.of_body hmix f_scref20_Few (by simp) ?_)
 by_cases h1:s.funcs.length≤70
 ·have h1':(s.funcs.length:Int)≤70:=by omega
  simp only[go_sem,c_scref20_Few,eq_true h1']
  refine VCall.of_contract (refsize_c s h1 fun g hg=>by have:=(h.fn g hg).len;omega) (SleL.pure rfl) fun r hr=>?_
  subst hr
  simp only[go_sem]
  refine ⟨_,Frz.pure rfl,?_⟩
  unfold fewB;simp[h1]
 ·have h1':¬ (s.funcs.length:Int)≤70:=by omega
  simp only[go_sem,c_scref20_Few,eq_false h1']
  refine ⟨_,Frz.pure rfl,?_⟩
  unfold fewB;simp[h1]
theorem small_in {s:SP} {n:Nat} (h:SPOk s) (hn:n≤1000000) (hf:fewB s n=true):InP s∧(RightP s→FitP s):=by
 obtain ⟨h1,h2⟩:=of_decide_eq_true hf
 have hc:∀ f,(s.fn f).code.length≤1000000:=fun f=>by have:=size_one s f;omega
 refine ⟨⟨by omega,hc,fun f=>(h.at_ f).p⟩,fun hR=>⟨fun g hg x hx=>((h.fn g hg).code x hx).2.2.2,hR.w0,by have:=hR.w1;omega,by omega,fun e=>by have:=hR.n0;rw[e]at this;simp at this,hc⟩⟩
end Go.Proofs.YtaedcpipilnpcaaGreat
namespace Go.V
set_option linter.unusedSimpArgs false
set_option linter.unusedVariables false
section
variable {P:Program}
theorem rl0_vals {w:World} {I J:Nat→Prop}:∀ {us:List Value} {vs:List Value},RL0 w I (us.map .val) vs→RL0 w J (us.map .val) vs
 | [],vs,h=>by simpa only [List.map_nil,RL0] using h
 | u::us,vs,h=>by
  simp only[List.map_cons,RL0]at h ⊢
  obtain ⟨v,vs',rfl,h1,h2⟩:=h
  exact ⟨v,vs',rfl,by simpa only [RV0] using h1,rl0_vals h2⟩
theorem Contract.vals {f:Nat} {args:List AV} {C:AV→Prop} (h:Contract P f args C) (hC:∀ r,C r→(∃ u,r = .val u)∨∃ us:List Value,r = .agg (us.map .val)):ContractN P f args C :=
 ⟨h.1,fun I w vs hI hvs=>(h.2 I w vs hI hvs).mono fun e w' hp=>by
   obtain ⟨v,r,h1,h2,h3,h4⟩:=hp
   refine ⟨v,r,h1,?_,h3,h4⟩
   rcases hC r h4 with ⟨u,rfl⟩ | ⟨us,rfl⟩
   ·simpa only [RV0] using h2
   ·simp only[RV0]at h2 ⊢
    obtain ⟨vs,e1,e2⟩:=h2
    exact ⟨vs,e1,rl0_vals e2⟩⟩
end
theorem flat_get {α:Type} {z:Nat}:∀ {ls:List (List α)},(∀ l ∈ ls,l.length=z)→∀ {i j:Nat} {l:List α} {u:α},ls[i]? = some l→l[j]? = some u→ls.flatten[i*z+j]? = some u
 | [],_,i,j,l,u,h,_=>by simp at h
 | a::ls,hz,i,j,l,u,h,hu=>by
  have ha:=hz a (by simp)
  cases i with
  | zero =>
   simp at h;subst h
   rw[List.flatten_cons,Nat.zero_mul,Nat.zero_add,List.getElem?_append_left (List.getElem?_eq_some_iff.1 hu).1];exact hu
  | succ i =>
   simp only[List.getElem?_cons_succ]at h
   rw[List.flatten_cons,List.getElem?_append_right (by rw[ha,Nat.succ_mul];omega),ha,show (i+1)*z+j-z=i*z+j by rw[Nat.succ_mul];omega]
   exact flat_get (fun l hl=>hz l (by simp[hl])) h hu
theorem RL.split {M:MM}:∀ {xs ys:List AV} {vs:List Value},RL M (xs++ys) vs→∃ v1 v2,vs=v1++v2∧RL M xs v1∧RL M ys v2
 | [],ys,vs,h=>⟨[],vs,rfl,by simp only[RL],h⟩
 | x::xs,ys,vs,h=>by
  simp only[List.cons_append,RL]at h
  obtain ⟨v,vs',rfl,h1,h2⟩:=h
  obtain ⟨v1,v2,rfl,h3,h4⟩:=RL.split h2
  exact ⟨v::v1,v2,rfl,by simp only[RL];exact ⟨v,v1,rfl,h1,h3⟩,h4⟩
theorem RL.chunks {M:MM}:∀ {yss:List (List AV)} {vs:List Value},RL M yss.flatten vs→∃ vss:List (List Value),vs=vss.flatten∧vss.length=yss.length∧∀ (i:Nat) (l:List AV) (v:List Value),yss[i]? = some l→vss[i]? = some v→RL M l v
 | [],vs,h=>by
  simp only[List.flatten_nil,RL]at h
  exact ⟨[],h,rfl,fun i l v h=>by simp at h⟩
 | y::yss,vs,h=>by
  rw[List.flatten_cons]at h
  obtain ⟨v1,v2,rfl,h1,h2⟩:=RL.split h
  obtain ⟨vss,rfl,h3,h4⟩:=RL.chunks h2
  refine ⟨v1::vss,by simp,by simp[h3],fun i l v hl hv=>?_⟩
  cases i with
  | zero=>simp at hl hv;subst hl;subst hv;exact h1
  | succ i=>exact h4 i l v (by simpa using hl) (by simpa using hv)
def FrzLL (n:Nat) (H:List VObj) (nx:Nat):List (List AV)→List (List AV)→Prop
 | [],zs=>zs=[]
 | y::ys,zs=>∃ z zs',zs=z::zs'∧FrzL n H nx y z∧FrzLL n H nx ys zs'
theorem FrzLL.pure {n:Nat} {H:List VObj} {nx:Nat}:∀ {yss:List (List AV)},(∀ l ∈ yss,l.all AV.pure=true)→FrzLL n H nx yss yss
 | [],_=>rfl
 | y::ys,h=>⟨y,ys,rfl,FrzL.pure (h y (by simp)),FrzLL.pure fun l hl=>h l (by simp[hl])⟩
theorem FrzLL.length {n:Nat} {H:List VObj} {nx:Nat}:∀ {yss zss:List (List AV)},FrzLL n H nx yss zss→zss.length=yss.length
 | [],_,h=>by simp only[FrzLL]at h;subst h;rfl
 | y::ys,_,h=>by
  simp only[FrzLL]at h
  obtain ⟨z,zs',rfl,_,h3⟩:=h
  simp[FrzLL.length h3]
theorem rl0_aggsT {M:MM} {n:Nat} (hR:RH M):∀ {yss zss:List (List AV)} {vss:List (List Value)},vss.length=yss.length→(∀ (i:Nat) (l:List AV) (v:List Value),yss[i]? = some l→vss[i]? = some v→RL M l v)→FrzLL n M.H M.nx yss zss →
 RL0 M.w (Drop M n) (zss.map .agg) (vss.map fun l=>Value.agg l.toArray)
 | [],_,[],_,_,h=>by simp only[FrzLL]at h;subst h;simp only[List.map_nil,RL0]
 | [],_,v::vs,h,_,_=>by simp at h
 | y::ys,_,[],h,_,_=>by simp at h
 | y::ys,_,v::vs,h,h1,h2=>by
  simp only[FrzLL]at h2
  obtain ⟨z,zs',rfl,h2,h3⟩:=h2
  simp only[List.map_cons,RL0]
  refine ⟨_,_,rfl,?_,rl0_aggsT hR (by simpa using h) (fun i l v hl hv=>h1 (i+1) l v (by simpa using hl) (by simpa using hv)) h3⟩
  simp only[RV0]
  exact ⟨v,rfl,h2.rl hR rfl rfl (h1 0 y v (by simp) (by simp))⟩
theorem flatz_len {α:Type} {z:Nat}:∀ {ls:List (List α)},(∀ l ∈ ls,l.length=z)→ls.flatten.length=ls.length*z
 | [],_=>by simp
 | y::ys,h=>by rw[List.flatten_cons,List.length_append,flatz_len (fun l hl=>h l (by simp[hl])),h y (by simp),List.length_cons,Nat.succ_mul];omega
theorem Frz.refT {n:Nat} {H:List VObj} {nx id s len z:Nat} {ob:VObj} {yss zss:List (List AV)} (hid:n≤id) (ho:H[id]? = some ob) (hs:ob.s=s) (hz:ob.sz=z) (hcs:ob.cs=yss.flatten)
 (hy:∀ l ∈ yss,l.length=z) (hlen:len=yss.length) (hf:FrzLL n H nx yss zss):Frz n H nx (.ref id s 0 len) (.imm z (zss.map .agg)):=fun M hR hH hnx v r=>by
 subst hH;subst hnx;subst hlen
 simp only[RV]at r
 obtain ⟨hzz,r⟩:=r.2.2 ob ho hs
 have hfl:yss.flatten.length=yss.length*z:=flatz_len hy
 cases hm:M.m.getD id none with
 | none =>
  rw[hm]at r
  obtain ⟨rfl,h1,h2⟩:=r
  have:yss=[]:=List.length_eq_zero_iff.1 (by omega)
  subst this
  simp only[FrzLL]at hf
  subst hf
  simp only[List.map_nil,RV0,RL0]
  exact ⟨none,0,0,[],rfl,rfl,Nat.le_refl _,by simp[maxLen],rfl,by simp,.inl rfl⟩
 | some g =>
  rw[hm]at r
  obtain ⟨oo,cap,rfl,q2,q3,q4,q5,q6⟩:=r
  obtain ⟨vs,g1,g2,g3⟩:=hR.cells ho hzz hm 0 (yss.length*z) (by rw[hcs,hfl];omega)
  rw[List.drop_zero,hcs,List.take_of_length_le (by omega)]at g2
  obtain ⟨vss,rfl,h3,h4⟩:=RL.chunks g2
  have hlv:∀ i v,vss[i]? = some v→∃ l,yss[i]? = some l∧RL M l v∧v.length=z:=fun i v hv=>by
   have hi:i<yss.length:=by have:=(List.getElem?_eq_some_iff.1 hv).1;omega
   have hl:=List.getElem?_eq_getElem hi
   have:=h4 i _ v hl hv
   exact ⟨_,hl,this,by rw[this.length];exact hy _ (List.getElem_mem hi)⟩
  have hmem:∀ v ∈ vss,v.length=z:=fun v hv=>by
   obtain ⟨i,hi⟩:=List.getElem?_of_mem hv
   obtain ⟨_,_,_,e⟩:=hlv i v hi
   exact e
  simp only[RV0]
  refine ⟨_,yss.length,cap,vss.map fun l=>Value.agg l.toArray,rfl,by simp[hf.length],q2,q3,?_,fun u hu=>?_,?_⟩
  ·exact rl0_aggsT hR h3 h4 hf
  ·obtain ⟨l,hl,rfl⟩:=List.mem_map.1 hu
   simp[Value.cells,hmem l hl]
  ·by_cases hl:yss.length=0
   ·exact .inl hl
   ·refine .inr ⟨g,oo,rfl,⟨.inr ⟨(hR.lt hm).1,(hR.lt hm).2.1⟩,fun j hj e=>by have:=hR.inj j id g e hm;omega⟩,fun i u hu j x hx=>?_⟩
    have hoo:oo=M.o id+0:=by rcases q5 with q5 | q5<;>omega
    rw[List.getElem?_map]at hu
    cases hv:vss[i]? with
    | none=>rw[hv]at hu;cases hu
    | some l =>
     rw[hv]at hu
     simp only[Option.map_some,Option.some.injEq]at hu
     subst hu
     have hx':l[j]? = some x:=by simpa [Value.cells] using hx
     have:=g3 _ _ (flat_get hmem hv hx')
     rw[hoo,Nat.add_assoc];exact this
end Go.V
namespace Go.Proofs.YtaedcpipilnpcaaGreat
set_option linter.unusedSimpArgs false
set_option linter.unusedVariables false
open Go.V
abbrev siC (x:SI):List AV:=[I x.op,I x.a,I x.b,U32 x.n]
theorem frz_code {H:List VObj} {nx id s ty len:Nat} (code:List SI) (ho:H[id]? = some ⟨s,ty,4,(code.map siC).flatten⟩) (hl:len=code.length):Frz 0 H nx (.ref id s 0 len) (.imm 4 (code.map siA)):=by
 have h:=Frz.refT (n:=0) (nx:=nx) (len:=len) (Nat.zero_le _) ho rfl rfl (yss:=code.map siC) (zss:=code.map siC) rfl (fun l hl=>?_) (by simp[hl]) (FrzLL.pure fun l hl=>?_)
 ·rw[List.map_map]at h;exact h
 ·obtain ⟨x,_,rfl⟩:=List.mem_map.1 hl;rfl
 ·obtain ⟨x,_,rfl⟩:=List.mem_map.1 hl;rfl
theorem frz_one {H:List VObj} {nx idF sF tF idL sL tL:Nat} (w:Int) (g:SF) (hF:H[idF]? = some ⟨sF,tF,5,[I g.params,I g.slots,I g.first,B g.word,.ref idL sL 0 g.code.length]⟩) (hL:H[idL]? = some ⟨sL,tL,4,(g.code.map siC).flatten⟩) :
 Frz 0 H nx (.agg [I w,.ref idF sF 0 1]) (spA ⟨w,[g]⟩) :=
 Frz.agg ⟨_,_,rfl,Frz.pure rfl,_,_,rfl,Frz.refT (Nat.zero_le _) hF rfl rfl (yss:=[[I g.params,I g.slots,I g.first,B g.word,.ref idL sL 0 g.code.length]]) (zss:=[[I g.params,I g.slots,I g.first,B g.word,.imm 4 (g.code.map siA)]]) rfl (by simp) rfl
  ⟨_,_,rfl,⟨_,_,rfl,Frz.pure rfl,_,_,rfl,Frz.pure rfl,_,_,rfl,Frz.pure rfl,_,_,rfl,Frz.pure rfl,_,_,rfl,frz_code g.code hL rfl,rfl⟩,rfl⟩,rfl⟩
def clB (s:SP) (f:Nat) (code:List SI) (dl:List Int) (i:Nat):Bool :=
 match effD s f (code.getD i default) (dl.getD i (-1)) with
 | none=>false
 | some e=>(nextL (code.getD i default) i).all fun k=>decide (0≤k∧k<(code.length:Int)∧dl.getD k.toNat (-1)=e)
def solB (s:SP) (f:Nat) (dl:List Int):Bool :=
 !(s.fn f).code.isEmpty && (dl.length == (s.fn f).code.length) && decide (dl.getD 0 (-1)=0) && (List.range dl.length).all fun i=>decide (dl.getD i (-1)<0) || clB s f (s.fn f).code dl i
theorem sol_of {s:SP} {f:Nat} {dl:List Int} (h:solB s f dl=true):Sol s f dl:=by
 simp only[solB,Bool.and_eq_true,List.all_eq_true,Bool.or_eq_true,decide_eq_true_eq,beq_iff_eq]at h
 obtain ⟨⟨⟨h1,h2⟩,h3⟩,h4⟩:=h
 refine ⟨fun e=>by (rw[e]at h1;cases h1),h2,h3,fun i hi h0=>?_⟩
 rcases h4 i (List.mem_range.2 hi) with h5 | h5
 ·omega
 ·unfold clB at h5
  split at h5
  ·cases h5
  ·rename_i e he
   exact ⟨e,he,fun k hk=>by simpa using List.all_eq_true.1 h5 k hk⟩
theorem fits_of {s:SP} {f:Nat} (h:∀ x ∈ (s.fn f).code,FitsP s f x):∀ k,k<(s.fn f).code.length→FitsP s f (s.ins f k):=fun k hk=>by
 unfold SP.ins
 rw[List.getD,List.getElem?_eq_getElem hk]
 exact h _ (List.getElem_mem hk)
structure Mc where
 pc:Int
 rg:Nat→Int
 me:List Int
 rd:Nat
 out:List UInt8
def byteM (r:Int):UInt8:=UInt8.ofNat (IntKind.u8.wrap r).toNat
def upM (f:Nat→Int) (j:Nat) (v:Int):Nat→Int:=fun k=>if k=j then v else f k
def stM (s:Mc) (a v:Int):Mc:={ s with rg:=upM s.rg a.toNat v,pc:=s.pc+1 }
def adM (s:Mc) (b c:Int):Int:=w32 (s.rg b.toNat+c)
def mI (inp:ByteArray) (s:Mc) (i:Ci):Mc × Int :=
 if i.op=18 then ({ s with pc:=i.c },0)
 else if i.op=19 then ({ s with pc:=if s.rg i.a.toNat=0 then i.c else s.pc+1 },0)
 else if i.op=20 then ({ s with pc:=if s.rg i.a.toNat=0 then s.pc+1 else i.c },0)
 else if i.op=21 then ({ s with rg:=upM s.rg i.a.toNat (s.pc+1),pc:=i.c },0)
 else if i.op=22 then ({ s with pc:=s.rg i.a.toNat },0)
 else if i.op=1 then (stM s i.a i.c,0)
 else if i.op=2 then (stM s i.a (s.rg i.a.toNat % 65536+i.c*65536),0)
 else if i.op=3 then (stM s i.a (s.rg i.b.toNat),0)
 else if i.op=16 then (if adM s i.b i.c<s.me.length then (stM s i.a (s.me.getD (adM s i.b i.c).toNat default),0) else (s,8))
 else if i.op=17 then (if adM s i.b i.c<s.me.length then ({ s with me:=s.me.set (adM s i.b i.c).toNat (s.rg i.a.toNat),pc:=s.pc+1 },0) else (s,8))
 else if i.op=23 then (if s.rd<inp.size then ({ stM s i.a (byteAt inp s.rd) with rd:=s.rd+1 },0) else (stM s i.a 256,0))
 else if i.op=24 then (if 65536≤s.out.length then (s,4) else ({ s with out:=s.out++[byteM (s.rg i.a.toNat)],pc:=s.pc+1 },0))
 else if i.op=25 then (if s.rg i.a.toNat<i.c then ({ s with pc:=s.pc+1 },0) else (s,3))
 else if i.op=26 then (s,1)
 else if (applyW i.op (s.rg i.b.toNat) (s.rg i.c.toNat)).2=0 then (stM s i.a (applyW i.op (s.rg i.b.toNat) (s.rg i.c.toNat)).1,0) else (s,2)
def Mx (code:List Ci) (inp:ByteArray):Nat→Mc→Mc→Prop
 | 0,s,s'=>s=s'
 | n+1,s,s'=>0≤s.pc∧s.pc<code.length∧(mI inp s (code.getD s.pc.toNat default)).2=0∧Mx code inp n (mI inp s (code.getD s.pc.toNat default)).1 s'
def Mn (code:List Ci) (inp:ByteArray) (n:Nat) (s:Mc) (e:Int) (s':Mc):Prop:=∃ s1,Mx code inp n s s1∧0≤s1.pc∧s1.pc<code.length∧mI inp s1 (code.getD s1.pc.toNat default)=(s',e)∧e≠0
theorem Mx.trans {code:List Ci} {inp:ByteArray}:∀ {n m:Nat} {a b c:Mc},Mx code inp n a b→Mx code inp m b c→Mx code inp (n+m) a c
 | 0,m,a,b,c,h,k=>by rw[show a=b from h,Nat.zero_add];exact k
 | n+1,m,a,b,c,h,k=>by
  rw[show n+1+m=(n+m)+1 by omega]
  exact ⟨h.1,h.2.1,h.2.2.1,Mx.trans h.2.2.2 k⟩
theorem Mx.end_ {code:List Ci} {inp:ByteArray} {n m:Nat} {a b c:Mc} {e:Int} (h:Mx code inp n a b) (k:Mn code inp m b e c):Mn code inp (n+m) a e c:=by
 obtain ⟨s1,k1,k2,k3,k4,k5⟩:=k
 exact ⟨s1,h.trans k1,k2,k3,k4,k5⟩
def At (code:List Ci) (k:Nat) (l:List Ci):Prop:=∀ i<l.length,code[k+i]? = l[i]?
theorem At.app {code:List Ci} {k:Nat} {l m:List Ci} (h:At code k (l++m)):At code k l∧At code (k+l.length) m:=by
 refine ⟨fun i hi=>?_,fun i hi=>?_⟩
 ·rw[h i (by rw[List.length_append];omega),List.getElem?_append_left hi]
 ·rw[Nat.add_assoc,h (l.length+i) (by rw[List.length_append];omega),List.getElem?_append_right (by omega)]
  congr 1;omega
theorem At.one {code:List Ci} {k:Nat} {i:Ci} (h:At code k [i]):k<code.length∧code.getD k default=i:=by
 have:=h 0 (by simp)
 simp only[Nat.add_zero,List.getElem?_cons_zero]at this
 exact ⟨(List.getElem?_eq_some_iff.1 this).1,by rw[List.getD,this];rfl⟩
theorem Mx.one {code:List Ci} {inp:ByteArray} {k:Nat} {i:Ci} {s s':Mc} (h:At code k [i]) (hp:s.pc=k) (hm:mI inp s i=(s',0)):Mx code inp 1 s s':=by
 obtain ⟨h1,h2⟩:=h.one
 have e:s.pc.toNat=k:=by omega
 refine ⟨by omega,by omega,?_,?_⟩
 ·rw[e,h2,hm]
 ·rw[e,h2,hm];rfl
theorem Mn.one {code:List Ci} {inp:ByteArray} {k:Nat} {i:Ci} {s s':Mc} {e:Int} (h:At code k [i]) (hp:s.pc=k) (hm:mI inp s i=(s',e)) (he:e≠0):Mn code inp 0 s e s':=by
 obtain ⟨h1,h2⟩:=h.one
 have ek:s.pc.toNat=k:=by omega
 exact ⟨s,rfl,by omega,by omega,by rw[ek,h2,hm],he⟩
theorem mI_ld (inp:ByteArray) (s:Mc) (a b c:Int) (h:0≤s.rg b.toNat+c∧s.rg b.toNat+c<4294967296) (hl:s.rg b.toNat+c<s.me.length):mI inp s ⟨16,a,b,c⟩=(stM s a (s.me.getD (s.rg b.toNat+c).toNat default),0):=by
 have e:adM s b c=s.rg b.toNat+c:=w32_in h
 simp only[mI,Int.reduceEq,if_false,if_true,e,if_pos hl]
theorem mI_st (inp:ByteArray) (s:Mc) (a b c:Int) (h:0≤s.rg b.toNat+c∧s.rg b.toNat+c<4294967296) (hl:s.rg b.toNat+c<s.me.length):mI inp s ⟨17,a,b,c⟩=({ s with me:=s.me.set (s.rg b.toNat+c).toNat (s.rg a.toNat),pc:=s.pc+1 },0):=by
 have e:adM s b c=s.rg b.toNat+c:=w32_in h
 simp only[mI,Int.reduceEq,if_false,if_true,e,if_pos hl]
theorem mI_li (inp:ByteArray) (s:Mc) (a b c:Int):mI inp s ⟨1,a,b,c⟩=(stM s a c,0):=by simp[mI]
theorem mI_lui (inp:ByteArray) (s:Mc) (a b c:Int):mI inp s ⟨2,a,b,c⟩=(stM s a (s.rg a.toNat % 65536+c*65536),0):=by simp[mI]
theorem getD_set_self {α:Type} {l:List α} {i:Nat} {x d:α} (h:i<l.length):(l.set i x).getD i d=x:=by simp[List.getD,h]
theorem getD_set_ne {α:Type} {l:List α} {i j:Nat} {x d:α} (h:i≠j):(l.set i x).getD j d=l.getD j d:=by simp[List.getD,List.getElem?_set_ne h]
def Lay (s:SP) (S:S3) (i:Nat):Prop:=∃ pre post,S.l=pre++funE (exE s i) pre.length++post∧S.en.getD i default=((pre.length:Nat):Int)∧S.rows.getD i []=rowE (exE s i) (pre.length+(headE (exE s i) pre.length).length) (s.fn i).code.length
structure LayA (s:SP) (S:S3) (o:List Nat):Prop where
 en:S.en.length=s.funcs.length
 rows:S.rows.length=s.funcs.length
 lay:∀ i ∈ o,Lay s S i
 one:∃ r,S.l=pY 1 15 0 1::r
theorem LayA.step {s:SP} {S:S3} {o:List Nat} (h:LayA s S o) {i:Nat} (hi:i<s.funcs.length) (hn:i ∉ o):LayA s (stepE s S i) (o++[i]):=by
 obtain ⟨r,hr⟩:=h.one
 refine ⟨by simp[stepE,h.en],by simp[stepE,h.rows],fun j hj=>?_,⟨r++funE (exE s i) S.l.length,by simp[stepE,hr]⟩⟩
 by_cases e:j=i
 ·subst e
  exact ⟨S.l,[],by simp[stepE],by simp only[stepE];exact getD_set_self (by rw[h.en];exact hi),by simp only[stepE];exact getD_set_self (by rw[h.rows];exact hi)⟩
 ·rcases List.mem_append.1 hj with hj | hj
  ·obtain ⟨pre,post,h1,h2,h3⟩:=h.lay j hj
   refine ⟨pre,post++funE (exE s i) S.l.length,?_,?_,?_⟩
   ·show S.l++funE (exE s i) S.l.length=pre++funE (exE s j) pre.length++(post++funE (exE s i) S.l.length)
    rw[← List.append_assoc,← h1]
   ·simp only[stepE];rw[getD_set_ne (fun e2=>e e2.symm)];exact h2
   ·simp only[stepE];rw[getD_set_ne (fun e2=>e e2.symm)];exact h3
  ·exact absurd (List.mem_singleton.1 hj) e
theorem layA {s:SP} (hn:1≤s.funcs.length):∀ j≤s.funcs.length-1,LayA s (runE s (ordJ s.funcs.length j)) (ordJ s.funcs.length j)∧(runE s (ordJ s.funcs.length j)).en.getD (s.funcs.length-1) default=1
 | 0,_=>by
  have h0:LayA s ⟨[pY 1 15 0 1],List.replicate s.funcs.length 0,List.replicate s.funcs.length []⟩ []:=⟨by simp,by simp,fun i hi=>absurd hi (by simp),[],rfl⟩
  have:=h0.step (i:=s.funcs.length-1) (by omega) (by simp)
  exact ⟨this,by show (stepE s _ _).en.getD _ _=1;simp only[stepE];rw[getD_set_self (by simp;omega)];rfl⟩
 | j+1,h=>by
  obtain ⟨h1,h2⟩:=layA hn j (by omega)
  rw[ordJ_succ,runE_snoc]
  refine ⟨h1.step (by omega) ?_,?_⟩
  ·unfold ordJ
   simp only[List.mem_cons,List.mem_range,not_or];omega
  ·simp only[stepE];rw[getD_set_ne (by omega)];exact h2
noncomputable def entE (s:SP) (i:Nat):Nat:=((endE s).en.getD i default).toNat
noncomputable def fxE (s:SP) (l:List Sy):List Ci:=fixY (endE s).en (endE s).rows l
noncomputable def adr (s:SP) (i k:Nat):Nat:=entE s i+(headE (exE s i) (entE s i)).length+(restE (exE s i) 0 ((s.fn i).code.take k)).length
theorem fxE_app (s:SP) (a b:List Sy):fxE s (a++b)=fxE s a++fxE s b:=by simp[fxE,fixY]
theorem fxE_len (s:SP) (a:List Sy):(fxE s a).length=a.length:=by simp[fxE,fixY]
theorem restE_app (c:Ex) (m:List SI):∀ (l:List SI) (i:Nat),restE c i (l++m)=restE c i l++restE c (i+l.length) m
 | [],i=>by simp[restE]
 | y::l,i=>by
  simp only[List.cons_append,restE,restE_app c m l,List.length_cons,List.append_assoc]
  rw[show i+1+l.length=i+(l.length+1) by omega]
theorem At.mid (A B C:List Ci):At (A++B++C) A.length B:=fun i hi=>by
 rw[List.getElem?_append_left (by rw[List.length_append];omega),List.getElem?_append_right (by omega)];congr 1;omega
section
variable {s:SP}
theorem lay_of (hn:1≤s.funcs.length) {i:Nat} (hi:i<s.funcs.length):∃ pre post,(endE s).l=pre++funE (exE s i) pre.length++post∧entE s i=pre.length∧(endE s).en.getD i default=((entE s i:Nat):Int)∧(endE s).rows.getD i []=rowE (exE s i) (entE s i+(headE (exE s i) (entE s i)).length) (s.fn i).code.length:=by
 obtain ⟨pre,post,h1,h2,h3⟩:=(layA hn _ (Nat.le_refl _)).1.lay i (ordJ_mem hi)
 have e:entE s i=pre.length:=by
  unfold entE
  rw[show (endE s).en.getD i default=((pre.length:Nat):Int) from h2];simp
 refine ⟨pre,post,h1,e,by rw[e];exact h2,by rw[e];exact h3⟩
theorem ent_en (hn:1≤s.funcs.length) {i:Nat} (hi:i<s.funcs.length):(endE s).en.getD i default=((entE s i:Nat):Int):=(lay_of hn hi).choose_spec.choose_spec.2.2.1
theorem ent_last (hn:1≤s.funcs.length):entE s (s.funcs.length-1)=1:=by
 unfold entE
 rw[show (endE s).en.getD (s.funcs.length-1) default=1 from (layA hn _ (Nat.le_refl _)).2];rfl
theorem at_one (hn:1≤s.funcs.length):At (fixE s) 0 [⟨1,15,0,1⟩]:=by
 obtain ⟨r,hr⟩:=(layA hn _ (Nat.le_refl _)).1.one
 have:fixE s=[⟨1,15,0,1⟩]++fxE s r:=by
  show fxE s (endE s).l=_
  rw[show (endE s).l=_ from hr];rfl
 rw[this]
 exact At.mid [] [⟨1,15,0,1⟩] (fxE s r)
theorem at_head (hn:1≤s.funcs.length) {i:Nat} (hi:i<s.funcs.length):At (fixE s) (entE s i) (fxE s (headE (exE s i) (entE s i))):=by
 obtain ⟨pre,post,h1,h2,_,_⟩:=lay_of hn hi
 rw[← h2]at h1
 have:fixE s=fxE s pre++fxE s (headE (exE s i) (entE s i))++fxE s (restE (exE s i) 0 (exE s i).g.code++post):=by
  show fxE s (endE s).l=_
  rw[h1];simp only[funE,fxE_app,List.append_assoc]
 have ha:=At.mid (fxE s pre) (fxE s (headE (exE s i) (entE s i))) (fxE s (restE (exE s i) 0 (exE s i).g.code++post))
 rw[← this,fxE_len,← h2]at ha
 exact ha
theorem take_at {f k:Nat} (hk:k<(s.fn f).code.length):(s.fn f).code=(s.fn f).code.take k++[s.ins f k]++(s.fn f).code.drop (k+1):=by
 have:s.ins f k=(s.fn f).code[k]:=by unfold SP.ins;simp[List.getD,hk]
 rw[this];simp
theorem at_ins (hn:1≤s.funcs.length) {i:Nat} (hi:i<s.funcs.length) {k:Nat} (hk:k<(s.fn i).code.length):At (fixE s) (adr s i k) (fxE s (atE (exE s i) k (s.ins i k))):=by
 obtain ⟨pre,post,h1,h2,_,_⟩:=lay_of hn hi
 rw[← h2]at h1
 have hc:restE (exE s i) 0 (exE s i).g.code=restE (exE s i) 0 ((s.fn i).code.take k)++(atE (exE s i) k (s.ins i k)++restE (exE s i) (k+1) ((s.fn i).code.drop (k+1))):=by
  show restE (exE s i) 0 (s.fn i).code=_
  conv=>lhs;rw[take_at hk]
  rw[List.append_assoc,restE_app]
  simp only[List.cons_append,List.nil_append,restE,Nat.zero_add,List.length_take]
  rw[show min k (s.fn i).code.length=k by omega]
 have:fixE s=fxE s (pre++headE (exE s i) (entE s i)++restE (exE s i) 0 ((s.fn i).code.take k))++fxE s (atE (exE s i) k (s.ins i k))++fxE s (restE (exE s i) (k+1) ((s.fn i).code.drop (k+1))++post):=by
  show fxE s (endE s).l=_
  rw[h1,funE,hc];simp only[fxE_app,List.append_assoc]
 have ha:=At.mid (fxE s (pre++headE (exE s i) (entE s i)++restE (exE s i) 0 ((s.fn i).code.take k))) (fxE s (atE (exE s i) k (s.ins i k))) (fxE s (restE (exE s i) (k+1) ((s.fn i).code.drop (k+1))++post))
 rw[← this,fxE_len]at ha
 unfold adr
 rw[h2]at ha ⊢
 rw[List.length_append,List.length_append]at ha
 exact ha
theorem adr_succ {f k:Nat} (hk:k<(s.fn f).code.length):adr s f (k+1)=adr s f k+(atE (exE s f) k (s.ins f k)).length:=by
 have e:(s.fn f).code.take (k+1)=(s.fn f).code.take k++[s.ins f k]:=by
  have:s.ins f k=(s.fn f).code[k]:=by unfold SP.ins;simp[List.getD,hk]
  rw[this,List.take_add_one,List.getElem?_eq_getElem hk];rfl
 unfold adr
 rw[e,restE_snoc,List.length_append,List.length_take,show min k (s.fn f).code.length=k by omega,Nat.zero_add]
 omega
theorem adr_zero (f:Nat):adr s f 0=entE s f+(headE (exE s f) (entE s f)).length:=by simp[adr,restE]
theorem adr_row (hn:1≤s.funcs.length) {i:Nat} (hi:i<s.funcs.length) {k:Nat} (hk:k<(s.fn i).code.length):((endE s).rows.getD i []).getD k default=((adr s i k:Nat):Int):=by
 obtain ⟨pre,post,_,_,_,h4⟩:=lay_of hn hi
 rw[h4]
 unfold rowE
 have hk':k<(exE s i).g.code.length:=hk
 rw[List.getD,List.getElem?_map,List.getElem?_range hk']
 simp only[Option.map_some,Option.getD_some]
 rw[if_pos hk];rfl
end
end Go.Proofs.YtaedcpipilnpcaaGreat
