/- One operation of the evaluator stands for the machine's: what only computes or reads. No conditions. -/
import Derived.Test.YtfdcjocallblcaaGreatDoorEvD
import Derived.Laws.StructEq
import Derived.Laws.Cover3
namespace Go.Proofs.YtfdcjocallblcaaGreatDoor.Ev
open Go
theorem wp_value {P:Program} {o:Oper} {a:Act} {w w':World} {v:Value} {next:Act→World→Prop} {Q:Exit→Act→World→Prop} (h:(execOp a.eval o).run P w=.ok (.value v) w') (k:next (a.put o.dst v) w'):o.wp P a w next Q:=by
 unfold Oper.wp;rw [h];exact k
theorem wp_skip' {P:Program} {o:Oper} {a:Act} {w w':World} {next:Act→World→Prop} {Q:Exit→Act→World→Prop} (h:(execOp a.eval o).run P w=.ok .skip w') (k:next (a.put o.dst undef) w'):o.wp P a w next Q:=by
 unfold Oper.wp;rw [h];exact k
structure Post (σ:Sg) (h:H) (w:World) (site:Nat) (v:AV) (u:Upd) (ks:List Nat) (σ':Sg) (w':World) (cv:Value):Prop where
 ext:Ext σ h w σ' ((killH ks h).apply u) w'
 inv:Inv σ' ((killH ks h).apply u) w'
 rep:RepA σ' ((killH ks h).apply u) w' v cv
 keep:∀a c,(∀o∈AV.ids a,o∉ks∧(o=site→∀x,(site,x)∉u))→RepA σ h w a c→RepA σ' ((killH ks h).apply u) w' a c
def Sim (P:Program) (o:Oper) (site:Nat) (vs:List AV) (h:H) (v:AV) (u:Upd) (ks:List Nat):Prop:=
 ((∃x,(site,x)∈u)→site∉H.ids h∧site∉AV.idsL vs)→
 ∀(σ:Sg) (w:World) (a:Act),Inv σ h w→RepAs σ h w vs (o.op.operands.toList.map a.eval)→
 ∀(next:Act→World→Prop) (Q:Exit→Act→World→Prop),(∀σ' w' cv,Post σ h w site v u ks σ' w' cv→next (a.put o.dst cv) w')→o.wp P a w next Q
theorem sim_pure {P:Program} {o:Oper} {site:Nat} {vs:List AV} {h:H} {v:AV}
  (H:∀(σ:Sg) (w:World) (a:Act),Inv σ h w→RepAs σ h w vs (o.op.operands.toList.map a.eval)→∃cv,(execOp a.eval o).run P w=.ok (.value cv) w∧RepA σ h w v cv):Sim P o site vs h v [] []:=by
 intro _ σ w a inv reps next Q hn
 obtain ⟨cv,hr,hrep⟩:=H σ w a inv reps
 exact wp_value hr (hn σ w cv ⟨Ext.refl _ _ _,inv,hrep,fun _ _ _ r=>r⟩)
section
variable {E : Env} {o : Oper} {site : Nat} {vs : List AV} {h : H} {vw : View} {v : AV} {u : Upd} {ks : List Nat}
theorem pure1_some {x:Option AV} (e:pure1 x pk=some (v,u,ks)):x=some v∧u=[]∧ks=[]:=by
 unfold pure1 at e
 split at e
 ·cases e;exact ⟨rfl,rfl,rfl⟩
 ·cases e
theorem on1_some {f:AV→Option (AV×Upd×List Nat)} (e:on1 vs f=some (v,u,ks)):∃x,vs=[x]∧f x=some (v,u,ks):=by
 unfold on1 at e
 split at e
 ·exact ⟨_,rfl,e⟩
 ·cases e
theorem on2_some {f:AV→AV→Option (AV×Upd×List Nat)} (e:on2 vs f=some (v,u,ks)):∃x y,vs=[x,y]∧f x y=some (v,u,ks):=by
 unfold on2 at e
 split at e
 ·exact ⟨_,_,rfl,e⟩
 ·cases e
theorem on3_some {f:AV→AV→AV→Option (AV×Upd×List Nat)} (e:on3 vs f=some (v,u,ks)):∃x y z,vs=[x,y,z]∧f x y z=some (v,u,ks):=by
 unfold on3 at e
 split at e
 ·exact ⟨_,_,_,rfl,e⟩
 ·cases e
theorem on0_some {f:Option (AV×Upd×List Nat)} (e:on0 vs f=some (v,u,ks)):vs=[]∧f=some (v,u,ks):=by
 unfold on0 at e
 split at e
 ·exact ⟨rfl,e⟩
 ·cases e
theorem cond_some {c:Bool} {α:Type} {x:Option α} {y:α} (e:(bif c then x else none)=some y):c=true∧x=some y:=by
 cases c
 ·cases e
 ·exact ⟨rfl,e⟩
theorem cond_none {c:Bool} {α:Type} {x:Option α} {y:α} (e:(bif c then none else x)=some y):c=false∧x=some y:=by
 cases c
 ·exact ⟨rfl,e⟩
 ·cases e
theorem sim_move {x:Operand} (ho:o.op=.move x∨o.op=.assign x):Sim E.P o site [v] h v [] []:=
 sim_pure fun σ w a _ r=>by
  rcases ho with ho|ho
  all_goals
   simp only [ho,Op.operands,List.map_cons,List.map_nil] at r
   exact ⟨a.eval x,by simp [execOp,ho],r.1⟩
theorem sim_pick {c x y:Operand} {p q z:AV} (ho:o.op=.pick c x y) (e:evPick p q z pk=some (v,u,ks)):Sim E.P o site [p,q,z] h v u ks:=by
 unfold evPick at e
 split at e
 ·rename_i b
  have huk:u=[]∧ks=[]∧v=(if b then q else z):=by
   cases b<;>(cases e;exact ⟨rfl,rfl,rfl⟩)
  obtain ⟨rfl,rfl,rfl⟩:=huk
  refine sim_pure fun σ w a _ r=>?_
  simp only [ho,Op.operands,List.map_cons,List.map_nil] at r
  have hc:=repT_bool r.1
  cases b
  ·exact ⟨a.eval y,by simp [execOp,ho,hc,asBool],r.2.2.1⟩
  ·exact ⟨a.eval x,by simp [execOp,ho,hc,asBool],r.2.1⟩
 ·cases e
theorem sim_nilCheck {x:Operand} {p:AV} (ho:o.op=.nilCheck x) (hvw:∀q y,vw q=some y→H.get q h=some y) (e:evNilCheck vw p pk=some (v,u,ks)):Sim E.P o site [p] h v u ks:=by
 unfold evNilCheck at e
 split at e
 ·split at e
  ·rename_i hg
   cases e
   refine sim_pure fun σ w a _ r=>?_
   simp only [ho,Op.operands,List.map_cons,List.map_nil] at r
   obtain ⟨b,-,hv⟩:=r.1.2 (by unfold Live;rw [hvw _ _ hg];simp)
   exact ⟨a.eval x,by simp [execOp,ho,hv],r.1⟩
  ·cases e
 ·cases e
  refine sim_pure fun σ w a _ r=>?_
  simp only [ho,Op.operands,List.map_cons,List.map_nil] at r
  obtain ⟨b,o0,hv,-⟩:=r.1
  exact ⟨a.eval x,by simp [execOp,ho,hv],r.1⟩
 ·cases e
  refine sim_pure fun σ w a _ r=>?_
  simp only [ho,Op.operands,List.map_cons,List.map_nil] at r
  obtain ⟨b,o0,cv,hv,-⟩:=r.1
  exact ⟨a.eval x,by simp [execOp,ho,hv],r.1⟩
 ·cases e
theorem intB_some {P:Program} {t:TypeId} (e:intB P t=true):∃k,P.underlying t=some (.int k):=by
 unfold intB at e
 split at e
 ·rename_i k hk;exact ⟨k,hk⟩
 ·cases e
theorem run_part_int {P:Program} {t:TypeId} (e:intB P t=true) (vs:Array Value) (i:Nat) (v:Value) (hv:vs[i]?=some v) (w:World):(Go.part t vs i).run P w=.ok v w:=by
 obtain ⟨k,hk⟩:=intB_some e
 simp [Go.part,isAgg,run_underlying hk,hv]
theorem run_moveEq {P:Program} {t:TypeId} {w:World} {a b:Move} {va vb:Value} {σ:Sg} {h:H} (e:moveT P t=true) (ra:RepA σ h w (.tv (.st 0) a) va) (rb:RepA σ h w (.tv (.st 0) b) vb):
  (∃xs ys,va=.agg xs∧vb=.agg ys∧(Op.equalIn 10000 t (.agg xs) (.agg ys)).run P w=.ok (Move.eqb a b) w)∧∀op x y,(eqGuard op t x y va vb).run P w=.ok () w:=by
 obtain ⟨xs,rfl,rx⟩:=ra
 obtain ⟨ys,rfl,ry⟩:=rb
 unfold moveT at e
 split at e
 ·rename_i fs hfs
  split at e
  ·rename_i f g hl
   simp only [Bool.and_eq_true,Bool.not_eq_true'] at e
   obtain ⟨⟨⟨⟨⟨⟨⟨h1,h2⟩,h3⟩,h4⟩,h5⟩,h6⟩,h7⟩,h8⟩:=e
   have h1:=nbeq_eq.1 h1
   have h2:=nbeq_eq.1 h2
   have hf:P.fieldsOf t=fs:=by unfold Program.fieldsOf;rw [hfs]
   have two:∀{m:Move} {zs:Array Value},RepPs σ.fz w (enc (.st 0) m) zs.toList→zs=#[.int .i64 m.act,.int .i64 m.to]:=by
    intro m zs r
    match hz:zs.toList,r with
    |[c,d],r=>
     obtain ⟨r1,r2,-⟩:=r
     cases r1;cases r2
     rw [←Array.toArray_toList (xs:=zs),hz]
   obtain rfl:=two rx
   obtain rfl:=two ry
   refine ⟨⟨_,_,rfl,rfl,?_⟩,fun op x y=>run_eqGuard_agg w op t x y _ _ h8⟩
   obtain ⟨k1,hk1⟩:=intB_some h5
   obtain ⟨k2,hk2⟩:=intB_some h6
   have n1 : f.name ≠ "_" := by simpa using h3
   have n2 : g.name ≠ "_" := by simpa using h4
   rw [run_equalIn_struct w 9999 t _ _ (by rw [hf];exact hfs) h7,hf,hl]
   simp only [Op.eqFields,n1,n2,ne_eq,not_false_eq_true,if_true]
   have q1:(Op.equalIn 9999 f.type (.int .i64 a.act) (.int .i64 b.act)).run P w=.ok (a.act==b.act) w:=run_equalIn_int w 9998 f.type .i64 k1 _ _ hk1
   have q2:(Op.equalIn 9999 g.type (.int .i64 a.to) (.int .i64 b.to)).run P w=.ok (a.to==b.to) w:=run_equalIn_int w 9998 g.type .i64 k2 _ _ hk2
   have p1:=run_part_int h5 #[.int .i64 a.act,.int .i64 a.to] 0 (.int .i64 a.act) rfl w
   have p2:=run_part_int h5 #[.int .i64 b.act,.int .i64 b.to] 0 (.int .i64 b.act) rfl w
   have p3:=run_part_int h6 #[.int .i64 a.act,.int .i64 a.to] 1 (.int .i64 a.to) rfl w
   have p4:=run_part_int h6 #[.int .i64 b.act,.int .i64 b.to] 1 (.int .i64 b.to) rfl w
   simp only [Sem.run_bind,h1,h2,p1,p2,Result.andThen_ok,q1]
   cases hab:(a.act==b.act)
   ·simp [Move.eqb,hab]
   ·simp only [Bool.not_true,Bool.false_eq_true,if_false,Sem.run_bind,p3,p4,Result.andThen_ok,q2]
    cases hto:(a.to==b.to)<;>simp [Move.eqb,hab,hto]
  ·cases e
 ·cases e
set_option maxHeartbeats 1000000 in
theorem repP_slice {fz:Nat→Prop} {w:World} {es:List (List PV)} {v:Value} (h:RepP fz w (.sl es) v) (hn:0<es.length):∃a n c,v=.slice (some a) n c:=by
 cases h with
 |sl0 a c=>simp at hn
 |sl b o z cap c=>exact ⟨_,_,_,rfl⟩
theorem sim_bin {op:BinOp} {t t':TypeId} {x y:Operand} {p q:AV} (ho:o.op=.binOp op t x y t') (e:evBin E op t p q pk=some (v,u,ks)):Sim E.P o site [p,q] h v u ks:=by
 unfold evBin at e
 split at e
 ·rename_i k a
  split at e
  ·rename_i k' b
   obtain ⟨hk,e⟩:=cond_some e
   obtain rfl:k=k':=of_decide_eq_true hk
   have key:u=[]∧ks=[]∧∀(σ:Sg) (w:World) (ac:Act),RepAs σ h w [.tv (.int k) a,.tv (.int k) b] [ac.eval x,ac.eval y]→∃cv,(execOp ac.eval o).run E.P w=.ok (.value cv) w∧RepA σ h w v cv:=by
    cases op
    all_goals (simp only [intBin] at e)
    all_goals (first|(cases e;done)|skip)
    case quo=>
     obtain ⟨hb,e⟩:=cond_none e
     have hb:¬b=0:=of_decide_eq_false hb
     cases e
     refine ⟨rfl,rfl,fun σ w ac r=>?_⟩
     have h1:=repT_int r.1
     have h2:=repT_int r.2.1
     exact ⟨_,by simp [execOp,ho,h1,h2,eqGuard_at_int,binOp_quo,Op.intDiv,hb],mk_int _ _⟩
    case rem=>
     obtain ⟨hb,e⟩:=cond_none e
     have hb:¬b=0:=of_decide_eq_false hb
     cases e
     refine ⟨rfl,rfl,fun σ w ac r=>?_⟩
     have h1:=repT_int r.1
     have h2:=repT_int r.2.1
     exact ⟨_,by simp [execOp,ho,h1,h2,eqGuard_at_int,binOp_rem,Op.intDiv,hb],mk_int _ _⟩
    case xor=>
     cases e
     refine ⟨rfl,rfl,fun σ w ac r=>?_⟩
     have h1:=repT_int r.1
     have h2:=repT_int r.2.1
     refine ⟨_,?_,mk_int _ _⟩
     simp only [execOp,ho,h1,h2,eqGuard_at_int,binOp_xor]
     rfl
    all_goals
     cases e
     refine ⟨rfl,rfl,fun σ w ac r=>?_⟩
     have h1:=repT_int r.1
     have h2:=repT_int r.2.1
     first
      |exact ⟨_,by simp [execOp,ho,h1,h2,eqGuard_at_int,binOp,Op.intArith],mk_int _ _⟩
      |exact ⟨_,by simp [execOp,ho,h1,h2,eqGuard_at_int,binOp,Op.intCmp],mk_bool _⟩
   obtain ⟨rfl,rfl,key⟩:=key
   refine sim_pure fun σ w ac _ r=>?_
   simp only [ho,Op.operands,List.map_cons,List.map_nil] at r
   exact key σ w ac r
  ·cases e
 ·rename_i a
  split at e
  ·rename_i b
   have key:u=[]∧ks=[]∧∀(σ:Sg) (w:World) (ac:Act),RepAs σ h w [.tv .str a,.tv .str b] [ac.eval x,ac.eval y]→∃cv,(execOp ac.eval o).run E.P w=.ok (.value cv) w∧RepA σ h w v cv:=by
    cases op
    all_goals (simp only [strBin] at e)
    all_goals (first|(cases e;done)|skip)
    case add=>
     obtain ⟨hb,e⟩:=cond_some e
     have hb:a.size+b.size≤4611686018427387904:=of_decide_eq_true hb
     cases e
     refine ⟨rfl,rfl,fun σ w ac r=>?_⟩
     have h1:=repT_str r.1
     have h2:=repT_str r.2.1
     refine ⟨_,?_,mk_str _⟩
     have hn:¬(9223372036854775807:Int)<((a.size:Int)+(b.size:Int)):=by omega
     simp [execOp,ho,h1,h2,eqGuard_at_string,binOp,Op.stringOp,hn]
    all_goals
     cases e
     refine ⟨rfl,rfl,fun σ w ac r=>?_⟩
     have h1:=repT_str r.1
     have h2:=repT_str r.2.1
     exact ⟨_,by simp only [execOp,ho,h1,h2,eqGuard_at_string];rfl,mk_bool _⟩
   obtain ⟨rfl,rfl,key⟩:=key
   refine sim_pure fun σ w ac _ r=>?_
   simp only [ho,Op.operands,List.map_cons,List.map_nil] at r
   exact key σ w ac r
  ·cases e
 ·rename_i a
  split at e
  ·rename_i b
   obtain ⟨hb,e⟩:=cond_some e
   have hu:E.P.underlying t=some .bool:=by
    unfold isBoolB at hb
    split at hb
    ·assumption
    ·cases hb
   have key:u=[]∧ks=[]∧∀(σ:Sg) (w:World) (ac:Act),RepAs σ h w [.tv .bool a,.tv .bool b] [ac.eval x,ac.eval y]→∃cv,(execOp ac.eval o).run E.P w=.ok (.value cv) w∧RepA σ h w v cv:=by
    cases op
    all_goals (first|(cases e;done)|skip)
    all_goals
     cases e
     refine ⟨rfl,rfl,fun σ w ac r=>?_⟩
     have h1:=repT_bool r.1
     have h2:=repT_bool r.2.1
     refine ⟨_,?_,mk_bool _⟩
     have hq:(Op.equal t (.bool a) (.bool b)).run E.P w=.ok (a==b) w:=run_equalIn_bool' w 9999 t a b hu
     simp only [execOp,ho,h1,h2,eqGuard_at_bool,binOp]
     simp [hq]
   obtain ⟨rfl,rfl,key⟩:=key
   refine sim_pure fun σ w ac _ r=>?_
   simp only [ho,Op.operands,List.map_cons,List.map_nil] at r
   exact key σ w ac r
  ·cases e
 ·rename_i a
  split at e
  ·rename_i b
   obtain ⟨hb,e⟩:=cond_some e
   have key:u=[]∧ks=[]∧∀(σ:Sg) (w:World) (ac:Act),RepAs σ h w [.tv (.st 0) a,.tv (.st 0) b] [ac.eval x,ac.eval y]→∃cv,(execOp ac.eval o).run E.P w=.ok (.value cv) w∧RepA σ h w v cv:=by
    cases op
    all_goals (first|(cases e;done)|skip)
    all_goals
     cases e
     refine ⟨rfl,rfl,fun σ w ac r=>?_⟩
     obtain ⟨h1,hg⟩:=run_moveEq (w:=w) hb r.1 r.2.1
     refine ⟨_,?_,mk_bool _⟩
     simp only [execOp,ho]
     obtain ⟨xs,ys,hx,hy,he⟩:=h1
     rw [hx,hy] at hg⊢
     first
      |(simp [hg,run_eql_struct,he];done)
      |(simp [hg,run_neq_struct,he];done)
   obtain ⟨rfl,rfl,key⟩:=key
   refine sim_pure fun σ w ac _ r=>?_
   simp only [ho,Op.operands,List.map_cons,List.map_nil] at r
   exact key σ w ac r
  ·cases e
 ·rename_i k xs
  split at e
  ·obtain ⟨hb,e⟩:=cond_some e
   rw [Bool.and_eq_true,decide_eq_true_eq] at hb
   obtain ⟨hb,hl⟩:=hb
   obtain ⟨el,hu⟩:∃el,E.P.underlying t=some (.slice el):=by
    unfold isSliceB at hb
    split at hb
    ·exact ⟨_,by assumption⟩
    ·cases hb
   have key:u=[]∧ks=[]∧∀(σ:Sg) (w:World) (ac:Act),RepAs σ h w [.tv (.sl k) xs,.nil] [ac.eval x,ac.eval y]→∃cv,(execOp ac.eval o).run E.P w=.ok (.value cv) w∧RepA σ h w v cv:=by
    cases op
    all_goals (first|(cases e;done)|skip)
    all_goals
     cases e
     refine ⟨rfl,rfl,fun σ w ac r=>?_⟩
     have h2:ac.eval y=.slice none 0 0:=r.2.1
     have h0:RepPs σ.fz w (enc (.sl k) xs) [ac.eval x]:=r.1
     obtain ⟨a,n,cc,h1⟩:∃a n cc,ac.eval x=.slice (some a) n cc:=repP_slice h0.1 (by simpa using hl)
     refine ⟨_,?_,mk_bool _⟩
     have hq:(Op.equal t (.slice (some a) n cc) (.slice none 0 0)).run E.P w=.ok false w:=run_equal_slice_nil w t el (some a) n cc hu
     simp only [execOp,ho,h1,h2,eqGuard_at_slice,binOp]
     simp [hq]
   obtain ⟨rfl,rfl,key⟩:=key
   refine sim_pure fun σ w ac _ r=>?_
   simp only [ho,Op.operands,List.map_cons,List.map_nil] at r
   exact key σ w ac r
  ·cases e
 ·cases e
theorem sim_un {op:UnOp} {t:TypeId} {x:Operand} {p:AV} (ho:o.op=.unOp op t x) (e:evUn op p pk=some (v,u,ks)):Sim E.P o site [p] h v u ks:=by
 unfold evUn at e
 split at e
 ·split at e
  ·cases e
   refine sim_pure fun σ w a _ r=>?_
   simp only [ho,Op.operands,List.map_cons,List.map_nil] at r
   have h1:=repT_bool r.1
   exact ⟨_,by simp [execOp,ho,h1,Op.unary],mk_bool _⟩
  ·cases e
 ·split at e
  ·cases e
   refine sim_pure fun σ w a _ r=>?_
   simp only [ho,Op.operands,List.map_cons,List.map_nil] at r
   have h1:=repT_int r.1
   exact ⟨_,by simp only [execOp,ho,h1,Op.unary,Op.intArith];rfl,mk_int _ _⟩
  ·cases e
 ·cases e
theorem intK_some {P:Program} {t:TypeId} {k:IntKind} (e:intK P t=some k):P.underlying t=some (.int k):=by
 unfold intK at e
 split at e
 ·cases e;assumption
 ·cases e
theorem sim_conv {src dst:TypeId} {x:Operand} {p:AV} (ho:o.op=.convert src dst x) (e:evConv E src dst p pk=some (v,u,ks)):Sim E.P o site [p] h v u ks:=by
 unfold evConv at e
 split at e
 ·split at e
  ·rename_i h1
   split at e
   ·rename_i h2
    cases e
    refine sim_pure fun σ w a _ r=>?_
    simp only [ho,Op.operands,List.map_cons,List.map_nil] at r
    have hv:=repT_int r.1
    have h1:=intK_some h1
    have h2:=intK_some h2
    refine ⟨_,?_,mk_int _ _⟩
    simp [execOp,ho,hv,convert,run_underlying h1,run_underlying h2,Conv.intToInt]
   ·cases e
  ·cases e
 ·cases e
theorem offOf_some {P:Program} {s:TypeId} {f d:Nat} (e:offOf P s f=some d):∃fs fl i,P.underlying s=some (.struct fs)∧fieldsOf P s=fs∧fs[f]?=some fl∧d=fl.offset∧P.info? fl.type=some i∧i.size≠0:=by
 unfold offOf at e
 split at e
 ·rename_i fl hfl
  obtain ⟨hz,e⟩:=cond_none e
  obtain rfl:=Option.some.inj e
  unfold fieldsOf at hfl
  split at hfl
  ·rename_i fs hs
   unfold szOf at hz
   split at hz
   ·rename_i i hi
    refine ⟨fs,fl,i,hs,?_,hfl,rfl,hi,nbeq_ne.1 hz⟩
    unfold fieldsOf;rw [hs]
   ·cases hz
  ·simp at hfl
 ·cases e
theorem run_fieldAt {P:Program} {s:TypeId} {f d:Nat} (e:offOf P s f=some d) (b off:Nat) (w:World):(Instr.fieldAt s (.pointer (some ⟨b,off,none⟩)) f).run P w=.ok (.pointer (some ⟨b,off+d,none⟩)) w:=by
 obtain ⟨fs,fl,i,hs,-,hfl,rfl,hi,hz⟩:=offOf_some e
 simp [Instr.fieldAt,run_underlying hs,hfl,Instr.sureAddr,fieldPlace,sizeOf,typeInfo,hi,hz,Addr.add_lit]
theorem live_of {o:Nat} {y:Obj} (g:H.get o h=some y):Live h o:=by unfold Live;rw [g];simp
theorem sim_fieldAddr {s:TypeId} {x:Operand} {f:Nat} {p:AV} (hvw:∀q y,vw q=some y→H.get q h=some y) (ho:o.op=.fieldAddr s x f) (e:evFieldAddr E s f vw p pk=some (v,u,ks)):Sim E.P o site [p] h v u ks:=by
 unfold evFieldAddr at e
 split at e
 ·rename_i d hd
  split at e
  ·rename_i ob off
   split at e
   ·rename_i hg
    cases e
    refine sim_pure fun σ w a _ r=>?_
    simp only [ho,Op.operands,List.map_cons,List.map_nil] at r
    obtain ⟨b,hb,hv⟩:=r.1.2 (live_of (hvw _ _ hg))
    refine ⟨.pointer (some ⟨b,off+d,none⟩),?_,rfl,fun _=>⟨b,hb,rfl⟩⟩
    simp only [execOp,ho,hv]
    simp [run_fieldAt hd]
   ·cases e
  ·rename_i ob i off
   have key:∀(y:Obj) (k:Ty) (l:Nat),vw ob=some y→y.info=some (k,l)→Sim E.P o site [.pel ob i off] h (.pel ob i (off+d)) [] []:=by
    intro y k l hg hy
    refine sim_pure fun σ w a _ r=>?_
    simp only [ho,Op.operands,List.map_cons,List.map_nil] at r
    have hgg:=hvw _ _ hg
    obtain ⟨hi,b,n,c,hb,hv⟩:=r.1.2 _ _ _ hgg hy
    refine ⟨.pointer (some ⟨b,i*nCells k+off+d,none⟩),?_,rfl,fun x t l' hg' hx=>?_⟩
    ·simp only [execOp,ho,hv]
     simp [run_fieldAt hd]
    ·rw [hgg] at hg'
     obtain rfl:=Option.some.inj hg'
     rw [hy] at hx
     obtain ⟨rfl,rfl⟩:=Prod.mk.inj (Option.some.inj hx)
     exact ⟨hi,b,n,c,hb,by rw [Nat.add_assoc]⟩
   split at e
   ·rename_i el0 k xs hg
    cases e
    exact key _ _ _ hg rfl
   ·rename_i m k xs q hg
    cases e
    exact key _ _ _ hg rfl
   ·cases e
  ·rename_i ty y off
   cases e
   refine sim_pure fun σ w a _ r=>?_
   simp only [ho,Op.operands,List.map_cons,List.map_nil] at r
   obtain ⟨b,o0,hv,hf,cs,hc,hcell⟩:=r.1
   refine ⟨.pointer (some ⟨b,o0+off+d,none⟩),?_,b,o0,by rw [Nat.add_assoc],hf,cs,hc,hcell⟩
   simp only [execOp,ho,hv]
   simp [run_fieldAt hd]
  ·cases e
 ·cases e
end
end Go.Proofs.YtfdcjocallblcaaGreatDoor.Ev
