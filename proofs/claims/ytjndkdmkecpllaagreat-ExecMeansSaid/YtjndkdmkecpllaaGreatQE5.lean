/- Texts laid one behind the other: GT, ZB, ZA, GL, YD, GS, YE, GW.
   No condition. -/
import Derived.KernelRfl
import Derived.Test.YtjndkdmkecpllaaGreatQE4
set_option linter.unusedVariables false
set_option linter.unusedSimpArgs false
namespace Go.Proofs.YtjndkdmkecpllaaGreat
namespace V
attribute [local irreducible] rR aN aA
abbrev nS:FuncId:=46
abbrev nR:FuncId:=47
abbrev kA:FuncId:=85
abbrev lT:FuncId:=88
abbrev mN:FuncId:=89
abbrev nQ:FuncId:=90
abbrev jJ:FuncId:=118
@[irreducible] def aBH (ro:Ro) (K:KV):dF→T Obj→Nat→Prop:=fun e h nx=>aA (bZ (e 4)) fun c'=>aA (aT 3 c') fun d'=>aA (loadA ro h 259 d') fun e'=>aA (bH 259 h (e 2) e') fun a'=>aA (loadA ro a' 259 (e 2)) fun f'=>∃ b',aU b' a'∧K (.tuple #[f',(Value.int IntKind.i64 0)]) b' (nx+6)
@[irreducible] def aBI (ro:Ro) (Q:KE):dF→T Obj→Nat→Prop:=fun e h nx=>aA (aP .add (e 7) (Value.int IntKind.i64 1)) fun a'=>Q .normal (puts e [(112,(e 7)),(113,a'),(7,a')]) h (nx+3)
@[irreducible] def wU (ro:Ro) (Q:KE):dF→T Obj→Nat→Prop:=fun e h nx=>aA (bZ (e 4)) fun a'=>aA (aT 3 a') fun b'=>aA (aT 258 b') fun c'=>aA (load1 ro h c') fun d'=>aA (cD 4 d' (e 7)) fun e'=>aA (aT 2 e') fun f'=>aA (bH 1 h f' (e 9)) fun g'=>aA (bZ (e 4)) fun h'=>aA (aT 3 h') fun i'=>aA (aT 258 i') fun j'=>aA (load1 ro g' j') fun k'=>aA (cD 4 k' (e 7)) fun l'=>aA (aT 3 l') fun m'=>aA (bH 1 g' m' (e 10)) fun n'=>aBI ro Q (puts e [(176,(e 4)),(177,a'),(178,b'),(179,c'),(180,d'),(181,(e 7)),(182,(e 9)),(183,e'),(184,f'),(185,(e 4)),(186,h'),(187,i'),(188,j'),(189,k'),(190,(e 7)),(191,(e 10)),(192,l'),(193,m')]) n' (nx+20)
@[irreducible] def aBJ (ro:Ro) (Q:KE):dF→T Obj→Nat→Prop:=fun e h nx=>aA (aP .add (e 11) (Value.int IntKind.i64 1)) fun a'=>Q .normal (puts e [(128,(e 11)),(129,a'),(11,a')]) h (nx+3)
@[irreducible] def aBK (ro:Ro) (Q:KE):dF→T Obj→Nat→Prop:=fun e h nx=>aA (bC Tryz.prog eH (nx+2) 1 [(0,(e 12))]) fun r82=>eJ h (nx+2) r82.2 fun h83=>aA (bY Tryz.prog ro h83 (nx+4) #[eH,eH] [(e 10),r82.1]) fun r84=>aBJ ro Q (puts e [(172,(e 10)),(173,(e 12)),(174,r82.1),(175,r84.1),(10,r84.1)]) r84.2.1 (r84.2.2+1)
@[irreducible] def aBE (ro:Ro):PT:=fun e h nx Q=>aA (bZ (e 4)) fun b'=>aA (aT 3 b') fun c'=>aA (aT 0 c') fun d'=>aA (aT 256 d') fun e'=>aA (load1 ro h e') fun f'=>aA (aP .lss (e 13) f') fun g'=>aV g' (aN Tryz.prog ro nR [(e 4),(e 7),(e 11),(e 13)] h (nx+14) fun i' u' j'=>aA (bC Tryz.prog bP j' 1 [(0,i')]) fun h'=>eJ u' j' h'.2 fun v'=>aA (bY Tryz.prog ro v' (j'+2) #[bP,bP] [(e 12),h'.1]) fun a'=>aA (bZ (e 4)) fun k'=>aA (aT 262 k') fun l'=>aA (load1 ro a'.2.1 l') fun m'=>aA (aP .neq m' (Value.int IntKind.i64 0)) fun n'=>aV n' (aA (cX Tryz.prog bI []) fun p'=>aA (bZ (e 4)) fun q'=>aA (aT 262 q') fun o'=>aA (load1 ro a'.2.1 o') fun r'=>aA (bH 259 a'.2.1 (e 2) p') fun s'=>(pC o' a'.2.1 s')∧(Q .ret (puts e [(144,(e 13)),(145,(e 4)),(146,b'),(147,c'),(148,d'),(149,e'),(150,f'),(151,g'),(154,(e 12)),(155,(e 4)),(156,(e 7)),(157,(e 11)),(158,(e 13)),(159,i'),(160,h'.1),(161,a'.1),(12,a'.1),(162,(e 4)),(163,k'),(164,l'),(165,m'),(166,n'),(167,p'),(168,(e 4)),(169,q'),(170,o'),(171,r'),(3,r')]) s' (a'.2.2+13))) (aA (aP .add (e 13) (Value.int IntKind.i64 1)) fun t'=>Q .normal (puts e [(144,(e 13)),(145,(e 4)),(146,b'),(147,c'),(148,d'),(149,e'),(150,f'),(151,g'),(154,(e 12)),(155,(e 4)),(156,(e 7)),(157,(e 11)),(158,(e 13)),(159,i'),(160,h'.1),(161,a'.1),(12,a'.1),(162,(e 4)),(163,k'),(164,l'),(165,m'),(166,n'),(152,(e 13)),(153,t'),(13,t')]) a'.2.1 (a'.2.2+9))) (Q (.exit 6) (puts e [(144,(e 13)),(145,(e 4)),(146,b'),(147,c'),(148,d'),(149,e'),(150,f'),(151,g')]) h (nx+8))
@[irreducible] def aBD (ro:Ro):PT:=fun e h nx Q=>aA (aP .lss (e 11) (e 8)) fun e'=>aV e' (aA (bZ (e 4)) fun i'=>aA (aT 3 i') fun j'=>aA (aT 258 j') fun k'=>aA (load1 ro h k') fun l'=>aA (cD 4 l' (e 7)) fun m'=>aA (loadA ro h 4 m') fun n'=>aN Tryz.prog ro nS [(e 4),n',(e 11)] h (nx+15) fun o' p' f'=>aA (bC Tryz.prog cR f' 1 [(0,o')]) fun g'=>eJ p' f' g'.2 fun q'=>aA (bY Tryz.prog ro q' (f'+2) #[cR,cR] [(e 9),g'.1]) fun d'=>dC (aBE ro) (puts e [(125,(e 11)),(126,(e 8)),(127,e'),(130,(e 9)),(131,(e 4)),(132,(e 4)),(133,i'),(134,j'),(135,k'),(136,l'),(137,(e 7)),(138,m'),(139,n'),(140,(e 11)),(141,o'),(142,g'.1),(143,d'.1),(9,d'.1),(12,(Value.slice none 0 0)),(13,(Value.int IntKind.i64 0))]) d'.2.1 (d'.2.2+3) fun r' a' b' c'=>iM r' (aBK ro Q a' b' c') (fun h'=>dE (Nat.beq h' 6) (aBK ro Q a' b' c') (dE (Nat.beq h' 5) (aBJ ro Q a' b' c') (Q (.exit h') a' b' c'))) (Q .ret a' b' c')) (Q (.exit 4) (puts e [(125,(e 11)),(126,(e 8)),(127,e')]) h (nx+3))
@[irreducible] def aBC (ro:Ro):PT:=fun e h nx Q=>aA (bZ (e 4)) fun d'=>aA (aT 3 d') fun e'=>aA (aT 258 e') fun f'=>aA (load1 ro h f') fun g'=>aA (bM g') fun h'=>aA (aP .lss (e 7) h') fun i'=>aV i' (aA (bZ (e 4)) fun k'=>aA (aT 3 k') fun l'=>aA (aT 258 l') fun m'=>aA (load1 ro h m') fun n'=>aA (cD 4 n' (e 7)) fun o'=>aA (aT 1 o') fun p'=>aA (load1 ro h p') fun q'=>aA (bM q') fun r'=>aN Tryz.prog ro xN [r'] h (nx+19) fun s' t' u'=>dC (aBD ro) (puts e [(104,(e 7)),(105,(e 4)),(106,d'),(107,e'),(108,f'),(109,g'),(110,h'),(111,i'),(114,(e 4)),(115,k'),(116,l'),(117,m'),(118,n'),(119,(e 7)),(120,o'),(121,p'),(122,q'),(123,r'),(124,s'),(8,s'),(9,(Value.slice none 0 0)),(10,(Value.slice none 0 0)),(11,(Value.int IntKind.i64 0))]) t' (u'+4) fun v' a' b' c'=>iM v' (wU ro Q a' b' c') (fun j'=>dE (Nat.beq j' 4) (wU ro Q a' b' c') (dE (Nat.beq j' 3) (aBI ro Q a' b' c') (Q (.exit j') a' b' c'))) (Q .ret a' b' c')) (Q (.exit 2) (puts e [(104,(e 7)),(105,(e 4)),(106,d'),(107,e'),(108,f'),(109,g'),(110,h'),(111,i')]) h (nx+8))
@[irreducible] def aBG (ro:Ro) (K:KV):dF→T Obj→Nat→Prop:=fun e h nx=>aN Tryz.prog ro aC7 [(e 5)] h (nx+3) fun f' o' c'=>aA (bZ (e 4)) fun g'=>aA (aT 3 g') fun h'=>aA (aT 0 h') fun i'=>aA (bH 257 o' i' f') fun p'=>aA (cX Tryz.prog aR []) fun j'=>aA (bC Tryz.prog fL (c'+6) 1 [(0,j')]) fun d'=>eJ p' (c'+6) d'.2 fun q'=>aA (bZ (e 4)) fun k'=>aA (aT 3 k') fun l'=>aA (aT 258 l') fun m'=>aA (bH 1 q' m' d'.1) fun r'=>dC (aBC ro) (puts e [(92,(e 4)),(93,(e 5)),(94,f'),(95,g'),(96,h'),(97,i'),(98,(e 4)),(99,j'),(100,d'.1),(101,k'),(102,l'),(103,m'),(7,(Value.int IntKind.i64 0))]) r' (c'+12) fun s' a' b' e'=>iM s' (aBH ro K a' b' e') (fun t'=>dE (Nat.beq t' 2) (aBH ro K a' b' e') (False)) (aA (loadA ro b' 259 (a' 2)) fun u'=>∃ n',aU n' b'∧K (.tuple #[u',(a' 3)]) n' e')
@[irreducible] def wV (ro:Ro) (Q:KE):dF→T Obj→Nat→Prop:=fun e h nx=>aA (aP .add (e 6) (Value.int IntKind.i64 1)) fun a'=>Q .normal (puts e [(26,(e 6)),(27,a'),(6,a')]) h (nx+3)
@[irreducible] def aBF (ro:Ro):PT:=fun e h nx Q=>aA (aT 1 (e 1)) fun d'=>aA (load1 ro h d') fun e'=>aA (bM e') fun f'=>aA (aP .lss (e 6) f') fun g'=>aV g' (aA (aT 1 (e 1)) fun k'=>aA (load1 ro h k') fun l'=>aA (cD 9 l' (e 6)) fun m'=>aA (aT 0 m') fun n'=>aA (loadA ro h 4 n') fun o'=>aA (bC Tryz.prog lQ (nx+12) 1 [(0,o')]) fun h'=>eJ h (nx+12) h'.2 fun af'=>aA (bY Tryz.prog ro af' (nx+14) #[lQ,lQ] [(e 5),h'.1]) fun a'=>aA (aT 1 (e 1)) fun p'=>aA (load1 ro a'.2.1 p') fun q'=>aA (cD 9 q' (e 6)) fun r'=>aA (aT 5 r') fun s'=>aA (load1 ro a'.2.1 s') fun t'=>aA (aP .gtr t' (Value.int IntKind.i64 1)) fun u'=>aV u' (aA (bZ (e 4)) fun y'=>aA (aT 2 y') fun z'=>aA (load1 ro a'.2.1 z') fun A'=>aA (bZ (e 4)) fun B'=>aA (aT 3 B') fun C'=>aA (aT 257 C') fun D'=>aA (load1 ro a'.2.1 D') fun E'=>aA (bM E') fun F'=>aA (bC Tryz.prog cR (a'.2.2+19) 1 [(0,F')]) fun v'=>eJ a'.2.1 (a'.2.2+19) v'.2 fun ag'=>aA (bY Tryz.prog ro ag' (a'.2.2+24) #[cR,cR] [A',v'.1]) fun b'=>aA (bZ (e 4)) fun G'=>aA (aT 2 G') fun H'=>aA (bH 1 b'.2.1 H' b'.1) fun c'=>aA (bZ (e 4)) fun I'=>aA (aT 3 I') fun J'=>aA (aT 257 J') fun K'=>aA (load1 ro c' K') fun L'=>aA (aT 1 (e 1)) fun M'=>aA (load1 ro c' M') fun N'=>aA (cD 9 N' (e 6)) fun O'=>aA (aT 4 O') fun P'=>aA (load1 ro c' P') fun Q'=>aA (aT 1 (e 1)) fun R'=>aA (load1 ro c' R') fun S'=>aA (cD 9 S' (e 6)) fun T'=>aA (aT 5 T') fun U'=>aA (load1 ro c' U') fun V'=>aA (cX Tryz.prog eP [(0,Q'),(1,V')]) fun W'=>aA (bC Tryz.prog gZ (b'.2.2+19) 1 [(0,W')]) fun w'=>eJ c' (b'.2.2+19) w'.2 fun ah'=>aA (bY Tryz.prog ro ah' (b'.2.2+25) #[gZ,gZ] [L',w'.1]) fun i'=>aA (bZ (e 4)) fun X'=>aA (aT 3 X') fun Y'=>aA (aT 257 Y') fun Z'=>aA (bH 1 i'.2.1 Z' i'.1) fun ai'=>wV ro Q (puts e [(21,(e 6)),(22,d'),(23,e'),(24,f'),(25,g'),(28,(e 5)),(29,k'),(30,l'),(31,(e 6)),(32,m'),(33,n'),(34,o'),(35,h'.1),(36,a'.1),(5,a'.1),(37,p'),(38,q'),(39,(e 6)),(40,r'),(41,s'),(42,t'),(43,u'),(44,(e 4)),(45,(e 4)),(46,y'),(47,z'),(48,A'),(49,(e 4)),(50,B'),(51,C'),(52,D'),(53,E'),(54,F'),(55,v'.1),(56,b'.1),(57,G'),(58,H'),(59,(e 4)),(60,(e 4)),(61,I'),(62,J'),(63,K'),(64,L'),(65,M'),(66,N'),(67,(e 6)),(68,O'),(69,P'),(70,Q'),(71,R'),(72,S'),(73,(e 6)),(74,T'),(75,U'),(76,V'),(77,W'),(78,w'.1),(79,i'.1),(80,X'),(81,Y'),(82,Z')]) ai' i'.2.2) (aA (bZ (e 4)) fun aa'=>aA (aT 2 aa') fun ab'=>aA (load1 ro a'.2.1 ab') fun ac'=>aA (bC Tryz.prog cR (a'.2.2+13) 1 [(0,(Value.int IntKind.i64 (-1)))]) fun x'=>eJ a'.2.1 (a'.2.2+13) x'.2 fun aj'=>aA (bY Tryz.prog ro aj' (a'.2.2+15) #[cR,cR] [ac',x'.1]) fun j'=>aA (bZ (e 4)) fun ad'=>aA (aT 2 ad') fun ae'=>aA (bH 1 j'.2.1 ae' j'.1) fun ak'=>wV ro Q (puts e [(21,(e 6)),(22,d'),(23,e'),(24,f'),(25,g'),(28,(e 5)),(29,k'),(30,l'),(31,(e 6)),(32,m'),(33,n'),(34,o'),(35,h'.1),(36,a'.1),(5,a'.1),(37,p'),(38,q'),(39,(e 6)),(40,r'),(41,s'),(42,t'),(43,u'),(83,(e 4)),(84,(e 4)),(85,aa'),(86,ab'),(87,ac'),(88,x'.1),(89,j'.1),(90,ad'),(91,ae')]) ak' (j'.2.2+3))) (Q (.exit 0) (puts e [(21,(e 6)),(22,d'),(23,e'),(24,f'),(25,g')]) h (nx+5))
@[irreducible] def aMA (ro:Ro) (v0:Value) (h:T Obj) (nx:Nat) (K:KV):Prop:=dL h nx (.cells (Value.cells v0) cF) fun h1=>aA (i8 Tryz.prog bI) fun z2=>dL h1 (nx+1) (.cells z2.cells bI) fun h3=>aA (loadA ro h3 2 (ptr nx)) fun d'=>aN Tryz.prog ro xM [d'] h3 (nx+5) fun e' h6 n7=>aA (unV .not e') fun f'=>aV f' (aA (cX Tryz.prog bI []) fun l'=>aA (bH 259 h6 (ptr (nx+1)) l') fun g'=>aA (loadA ro g' 259 (ptr (nx+1))) fun m'=>∃ h',aU h' g'∧K (.tuple #[m',(Value.int IntKind.i64 1)]) h' (n7+4)) (aA (loadA ro h6 2 (ptr nx)) fun i'=>aA (cX Tryz.prog aO [(0,i')]) fun j'=>dL h6 (n7+3) (.cells (Value.cells j') aO) fun n'=>dC (aBF ro) (puts (gS [v0]) [(1,(ptr nx)),(2,(ptr (nx+1))),(3,(Value.int IntKind.i64 0)),(14,d'),(15,e'),(16,f'),(18,i'),(19,j'),(20,(ptr (n7+3))),(4,(ptr (n7+3))),(5,(Value.slice none 0 0)),(6,(Value.int IntKind.i64 0))]) n' (n7+7) fun o' a' b' c'=>iM o' (aBG ro K a' b' c') (fun p'=>dE (Nat.beq p' 0) (aBG ro K a' b' c') (False)) (aA (loadA ro b' 259 (a' 2)) fun q'=>∃ k',aU k' b'∧K (.tuple #[q',(a' 3)]) k' c'))
theorem aMB {ro:Ro}{v0:Value}{h:T Obj}{nx:Nat}{K:KV} (hw:aMA ro v0 h nx K):aN Tryz.prog ro aC9 [v0] h nx K:=zzO (fn:=Tryz.f14) hw
@[irreducible] def aAm (ro:Ro) (K:KV):dF→T Obj→Nat→Prop:=fun e h nx=>aA (bM (e 4)) fun c'=>aA (aT 256 (e 3)) fun d'=>aA (bH 1 h d' c') fun h9=>aA (loadA ro h9 257 (e 3)) fun e'=>aA (bH 257 h9 (e 2) e') fun a'=>aA (loadA ro a' 257 (e 2)) fun f'=>∃ b',aU b' a'∧K f' b' (nx+6)
@[irreducible] def aAn (ro:Ro) (Q:KE):dF→T Obj→Nat→Prop:=fun e h nx=>aA (aP .add (e 5) (Value.int IntKind.i64 1)) fun a'=>Q .normal (puts e [(10,(e 5)),(11,a'),(5,a')]) h (nx+3)
@[irreducible] def wP (ro:Ro) (Q:KE):dF→T Obj→Nat→Prop:=fun e h nx=>aA (wB .u8 (e 6)) fun a'=>aA (aT 0 (e 3)) fun b'=>aA (ixArr 256 1 b' (e 5)) fun c'=>aA (bH 1 h c' a') fun d'=>aAn ro Q (puts e [(38,(e 5)),(39,(e 6)),(40,a'),(41,b'),(42,c')]) d' (nx+6)
@[irreducible] def wO (ro:Ro) (Q:KE):dF→T Obj→Nat→Prop:=fun e h nx=>aA (bM (e 4)) fun b'=>aA (aP .eql (e 6) b') fun c'=>aV c' (aA (wB .u8 (e 5)) fun e'=>aA (bC Tryz.prog cB (nx+7) 1 [(0,e')]) fun d'=>eJ h (nx+7) d'.2 fun f'=>aA (bY Tryz.prog ro f' (nx+9) #[cB,cB] [(e 4),d'.1]) fun a'=>wP ro Q (puts e [(29,(e 6)),(30,(e 4)),(31,b'),(32,c'),(33,(e 4)),(34,(e 5)),(35,e'),(36,d'.1),(37,a'.1),(4,a'.1)]) a'.2.1 (a'.2.2+1)) (wP ro Q (puts e [(29,(e 6)),(30,(e 4)),(31,b'),(32,c')]) h (nx+4))
@[irreducible] def aFC (ro:Ro):PT:=fun e h nx Q=>aA (bM (e 4)) fun b'=>aA (aP .lss (e 6) b') fun a'=>bF a' true h (nx+5) (fun F'=>F' (e 0) h (nx+6)) fun c' n' o'=>bF a' true n' o' (fun G'=>G' (e 4) n' (o'+1)) fun d' p' q'=>bF a' true p' q' (fun H'=>H' (e 6) p' (q'+1)) fun e' r' s'=>bF a' true r' s' (fun I'=>aA (cD 1 d' e') fun J'=>I' J' r' (s'+1)) fun f' g' t'=>bF a' true g' t' (fun K'=>aA (load1 ro g' f') fun L'=>K' L' g' (t'+1)) fun h' u' v'=>bF a' true u' v' (fun M'=>M' (e 5) u' (v'+1)) fun i' w' x'=>bF a' true w' x' (fun N'=>aA (wB .u8 i') fun O'=>N' O' w' (x'+1)) fun j' y' z'=>bF a' true y' z' (fun P'=>aN Tryz.prog ro xK [c',h',j'] y' (z'+1) fun Q' R' S'=>P' Q' R' S') fun k' A' B'=>bF a' true A' B' (fun T'=>aA (unV .not k') fun U'=>T' U' A' (B'+1)) fun l' C' D'=>aA (b7 a' l' (Value.bool false)) fun m'=>aV m' (aA (aP .add (e 6) (Value.int IntKind.i64 1)) fun E'=>Q .normal (puts e [(12,(e 6)),(13,(e 4)),(14,b'),(15,a'),(16,a'),(17,c'),(18,d'),(19,e'),(20,f'),(21,h'),(22,i'),(23,j'),(24,k'),(25,l'),(26,m'),(27,(e 6)),(28,E'),(6,E')]) C' (D'+4)) (Q (.exit 2) (puts e [(12,(e 6)),(13,(e 4)),(14,b'),(15,a'),(16,a'),(17,c'),(18,d'),(19,e'),(20,f'),(21,h'),(22,i'),(23,j'),(24,k'),(25,l'),(26,m')]) C' (D'+1))
@[irreducible] def aFB (ro:Ro):PT:=fun e h nx Q=>aA (aP .lss (e 5) (Value.int IntKind.i64 256)) fun d'=>aV d' (dC (aFC ro) (puts e [(8,(e 5)),(9,d'),(6,(Value.int IntKind.i64 0))]) h (nx+3) fun f' a' b' c'=>iM f' (wO ro Q a' b' c') (fun e'=>dE (Nat.beq e' 2) (wO ro Q a' b' c') (dE (Nat.beq e' 1) (aAn ro Q a' b' c') (Q (.exit e') a' b' c'))) (Q .ret a' b' c')) (Q (.exit 0) (puts e [(8,(e 5)),(9,d')]) h (nx+2))
@[irreducible] def aLq (ro:Ro) (v0:Value) (h:T Obj) (nx:Nat) (K:KV):Prop:=aA (i8 Tryz.prog cT) fun z1=>dL h nx (.cells z1.cells cT) fun h2=>aA (cX Tryz.prog cT []) fun d'=>aA (i8 Tryz.prog cT) fun z4=>dL h2 (nx+2) (.cells z4.cells cT) fun h5=>aA (bH 257 h5 (ptr (nx+2)) d') fun h6=>dC (aFB ro) (puts (gS [v0]) [(2,(ptr nx)),(7,d'),(3,(ptr (nx+2))),(4,(Value.slice none 0 0)),(5,(Value.int IntKind.i64 0))]) h6 (nx+6) fun f' b' a' c'=>iM f' (aAm ro K b' a' c') (fun g'=>dE (Nat.beq g' 0) (aAm ro K b' a' c') (False)) (aA (loadA ro a' 257 (b' 2)) fun h'=>∃ e',aU e' a'∧K h' e' c')
theorem aLr {ro:Ro}{v0:Value}{h:T Obj}{nx:Nat}{K:KV} (hw:aLq ro v0 h nx K):aN Tryz.prog ro aC7 [v0] h nx K:=zzO (fn:=Tryz.f44) hw
@[irreducible] def mU (ro:Ro) (K:KV):dF→T Obj→Nat→Prop:=fun e h nx=>∃ h2,aU h2 h∧K (e 7) h2 (nx+2)
@[irreducible] def jO (ro:Ro) (Q:KE):dF→T Obj→Nat→Prop:=fun e h nx=>aA (aP .add (e 8) (Value.int IntKind.i64 1)) fun a'=>Q .normal (puts e [(15,(e 8)),(16,a'),(8,a')]) h (nx+3)
@[irreducible] def rF (ro:Ro):PT:=fun e h nx Q=>aA (aT 0 (e 4)) fun d'=>aA (load1 ro h d') fun e'=>aA (bM e') fun f'=>aA (aP .lss (e 8) f') fun g'=>aV g' (aA (bZ (e 0)) fun h'=>aA (aT 0 h') fun i'=>aA (aT 1 i') fun j'=>aA (load1 ro h j') fun k'=>aA (aT 0 (e 4)) fun l'=>aA (load1 ro h l') fun m'=>aA (cD 1 m' (e 8)) fun n'=>aA (load1 ro h n') fun o'=>aA (cD 9 k' o') fun p'=>aA (loadA ro h 9 p') fun q'=>aA (i8 Tryz.prog cJ) fun au'=>dL h (nx+17) (.cells au'.cells cJ) fun av'=>aA (bH 9 av' (ptr (nx+17)) q') fun r'=>aA (aT 7 (ptr (nx+17))) fun s'=>aA (load1 ro r' s') fun a'=>bF a' true r' (nx+42) (fun aw'=>aw' (e 0) r' (nx+42)) fun t' u' P'=>bF a' true u' P' (fun ax'=>aA (loadA ro u' 4 (e 4)) fun ay'=>ax' ay' u' P') fun v' Q' R'=>bF a' true Q' R' (fun az'=>az' (e 2) Q' R') fun w' S' T'=>bF a' true S' T' (fun aA'=>aA (aT 0 (e 4)) fun aB'=>aA' aB' S' T') fun x' y' U'=>bF a' true y' U' (fun aC'=>aA (load1 ro y' x') fun aD'=>aC' aD' y' U') fun z' V' W'=>bF a' true V' W' (fun aE'=>aE' (e 8) V' W') fun A' X' Y'=>bF a' true X' Y' (fun aF'=>aA (cD 1 z' A') fun aG'=>aF' aG' X' Y') fun B' C' Z'=>bF a' true C' Z' (fun aH'=>aA (load1 ro C' B') fun aI'=>aH' aI' C' Z') fun D' aa' ab'=>bF a' true aa' ab' (fun aJ'=>aN Tryz.prog ro kA [t',v',w',D'] aa' ab' fun aK' aL' aM'=>aJ' aK' aL' aM') fun E' ac' ad'=>aA (b7 a' E' (Value.bool false)) fun b'=>bF b' true ac' ad' (fun aN'=>aN' (e 7) ac' ad') fun F' ae' af'=>bF b' true ae' af' (fun aO'=>aA (aP .lss F' (Value.int IntKind.i64 0)) fun aP'=>aO' aP' ae' af') fun G' ag' ah'=>bF b' true ag' ah' (fun aQ'=>aQ' G' ag' ah') fun c' ai' aj'=>bF c' false ai' aj' (fun aR'=>aA (aT 6 (ptr (nx+17))) fun aS'=>aR' aS' ai' aj') fun H' I' ak'=>bF c' false I' ak' (fun aT'=>aA (load1 ro I' H') fun aU'=>aT' aU' I' ak') fun J' al' am'=>bF c' false al' am' (fun aV'=>aV' (e 7) al' am') fun K' an' ao'=>bF c' false an' ao' (fun aW'=>aA (aP .lss J' K') fun aX'=>aW' aX' an' ao') fun L' ap' aq'=>bF b' true ap' aq' (fun aY'=>aA (b7 c' (Value.bool true) L') fun aZ'=>aY' aZ' ap' aq') fun M' N' ar'=>aA (b7 b' M' (Value.bool false)) fun O'=>aV O' (aA (aT 6 (ptr (nx+17))) fun as'=>aA (load1 ro N' as') fun at'=>jO ro Q (puts e [(10,(e 8)),(11,d'),(12,e'),(13,f'),(14,g'),(17,(e 0)),(18,h'),(19,i'),(20,j'),(21,k'),(22,l'),(23,m'),(24,(e 8)),(25,n'),(26,o'),(27,p'),(28,q'),(9,(ptr (nx+17))),(29,s'),(30,a'),(31,a'),(32,t'),(33,v'),(34,w'),(35,x'),(36,z'),(37,A'),(38,B'),(39,D'),(40,E'),(41,b'),(42,b'),(43,F'),(44,G'),(45,c'),(46,H'),(47,J'),(48,K'),(49,L'),(50,M'),(51,O'),(52,as'),(53,at'),(7,at')]) N' (ar'+3)) (jO ro Q (puts e [(10,(e 8)),(11,d'),(12,e'),(13,f'),(14,g'),(17,(e 0)),(18,h'),(19,i'),(20,j'),(21,k'),(22,l'),(23,m'),(24,(e 8)),(25,n'),(26,o'),(27,p'),(28,q'),(9,(ptr (nx+17))),(29,s'),(30,a'),(31,a'),(32,t'),(33,v'),(34,w'),(35,x'),(36,z'),(37,A'),(38,B'),(39,D'),(40,E'),(41,b'),(42,b'),(43,F'),(44,G'),(45,c'),(46,H'),(47,J'),(48,K'),(49,L'),(50,M'),(51,O')]) N' ar')) (Q (.exit 0) (puts e [(10,(e 8)),(11,d'),(12,e'),(13,f'),(14,g')]) h (nx+5))
@[irreducible] def vP (ro:Ro) (v0 v1 v2:Value) (h:T Obj) (nx:Nat) (K:KV):Prop:=dL h nx (.cells (Value.cells v1) aR) fun h1=>dC (rF ro) (puts (gS [v0,v1,v2]) [(4,(ptr nx)),(6,(Value.int IntKind.i64 0)),(7,(Value.int IntKind.i64 (-1))),(8,(Value.int IntKind.i64 0))]) h1 (nx+4) fun x111 e108 h109 n110=>iM x111 (mU ro K e108 h109 n110) (fun i112=>dE (Nat.beq i112 0) (mU ro K e108 h109 n110) (False)) (∃ h113,aU h113 h109∧K (e108 6) h113 n110)
theorem aAV {ro:Ro}{v0 v1 v2:Value}{h:T Obj}{nx:Nat}{K:KV} (hw:vP ro v0 v1 v2 h nx K):aN Tryz.prog ro nS [v0,v1,v2] h nx K:=zzO (fn:=Tryz.f46) hw
@[irreducible] def jN (ro:Ro) (K:KV):dF→T Obj→Nat→Prop:=fun e h nx=>aA (bM (e 11)) fun e'=>aA (aP .eql e' (Value.int IntKind.i64 0)) fun f'=>aV f' (aA (cX Tryz.prog bK [(0,(Value.int IntKind.i64 (-1)))]) fun g'=>aA (bH 2 h (e 8) g') fun a'=>aA (loadA ro a' 2 (e 8)) fun h'=>∃ b',aU b' a'∧K h' b' (nx+5)) (aN Tryz.prog ro nQ [(e 0),(e 11)] h (nx+6) fun i' j' k'=>aA (cX Tryz.prog bK [(0,i'),(1,(e 12))]) fun l'=>aA (bH 2 j' (e 8) l') fun c'=>aA (loadA ro c' 2 (e 8)) fun m'=>∃ d',aU d' c'∧K m' d' (k'+3))
@[irreducible] def eN (ro:Ro) (Q:KE):dF→T Obj→Nat→Prop:=fun e h nx=>aA (aP .add (e 13) (Value.int IntKind.i64 1)) fun a'=>Q .normal (puts e [(41,(e 13)),(42,a'),(13,a')]) h (nx+3)
@[irreducible] def rE (ro:Ro):PT:=fun e h nx Q=>aA (bZ (e 0)) fun f'=>aA (aT 0 f') fun g'=>aA (aT 1 g') fun h'=>aA (load1 ro h h') fun i'=>aA (bM i') fun j'=>aA (aP .lss (e 13) j') fun k'=>aV k' (aA (bZ (e 0)) fun l'=>aA (aT 0 l') fun m'=>aA (aT 1 m') fun n'=>aA (load1 ro h n') fun o'=>aA (cD 9 o' (e 13)) fun p'=>aA (aT 0 p') fun q'=>aA (loadA ro h 4 q') fun r'=>aN Tryz.prog ro lM [r',(e 10)] h (nx+19) fun s' M' R'=>aA (unV .not s') fun t'=>aV t' (eN ro Q (puts e [(33,(e 13)),(34,(e 0)),(35,f'),(36,g'),(37,h'),(38,i'),(39,j'),(40,k'),(43,(e 0)),(44,l'),(45,m'),(46,n'),(47,o'),(48,(e 13)),(49,p'),(50,q'),(51,r'),(52,(e 10)),(53,s'),(54,t')]) M' (R'+1)) (aA (loadA ro M' 4 (e 9)) fun v'=>aN Tryz.prog ro lT [(e 0),(e 1),v',(e 2),(e 13)] M' (R'+7) fun a' S' Y'=>aA (loadA ro S' 4 (e 9)) fun w'=>aN Tryz.prog ro mN [(e 0),w',(e 2),(e 13)] S' (Y'+6) fun b' T' U'=>aA (unV .not a') fun d'=>bF d' true T' (U'+4) (fun Z'=>Z' b' T' (U'+5)) fun x' V' W'=>bF d' true V' W' (fun aa'=>aA (unV .not x') fun ab'=>aa' ab' V' (W'+1)) fun y' X' H'=>aA (b7 d' y' (Value.bool false)) fun z'=>aV z' (eN ro Q (puts e [(33,(e 13)),(34,(e 0)),(35,f'),(36,g'),(37,h'),(38,i'),(39,j'),(40,k'),(43,(e 0)),(44,l'),(45,m'),(46,n'),(47,o'),(48,(e 13)),(49,p'),(50,q'),(51,r'),(52,(e 10)),(53,s'),(54,t'),(55,(e 0)),(56,(e 1)),(57,v'),(58,(e 2)),(59,(e 13)),(60,a'),(14,a'),(61,(e 0)),(62,w'),(63,(e 2)),(64,(e 13)),(65,b'),(15,b'),(66,a'),(67,d'),(68,d'),(69,x'),(70,y'),(71,z')]) X' (H'+1)) (aA (bC Tryz.prog cR (H'+3) 1 [(0,(e 13))]) fun A'=>eJ X' (H'+3) A'.2 fun ac'=>aA (bY Tryz.prog ro ac' (H'+5) #[cR,cR] [(e 11),A'.1]) fun c'=>aA (bZ (e 0)) fun B'=>aA (aT 2 B') fun C'=>aA (load1 ro c'.2.1 C') fun D'=>aA (cD 1 D' (e 13)) fun E'=>aA (load1 ro c'.2.1 E') fun F'=>aA (aP .lss F' (Value.int IntKind.i64 0)) fun G'=>aV G' (eN ro Q (puts e [(33,(e 13)),(34,(e 0)),(35,f'),(36,g'),(37,h'),(38,i'),(39,j'),(40,k'),(43,(e 0)),(44,l'),(45,m'),(46,n'),(47,o'),(48,(e 13)),(49,p'),(50,q'),(51,r'),(52,(e 10)),(53,s'),(54,t'),(55,(e 0)),(56,(e 1)),(57,v'),(58,(e 2)),(59,(e 13)),(60,a'),(14,a'),(61,(e 0)),(62,w'),(63,(e 2)),(64,(e 13)),(65,b'),(15,b'),(66,a'),(67,d'),(68,d'),(69,x'),(70,y'),(71,z'),(72,(e 11)),(73,(e 13)),(74,A'.1),(75,c'.1),(11,c'.1),(76,(e 0)),(77,B'),(78,C'),(79,D'),(80,(e 13)),(81,E'),(82,F'),(83,G')]) c'.2.1 (c'.2.2+9)) (bF a' true c'.2.1 (c'.2.2+11) (fun ad'=>ad' b' c'.2.1 (c'.2.2+12)) fun I' N' e'=>aA (b7 a' I' (Value.bool false)) fun u'=>aV u' (aA (bC Tryz.prog cB (e'+3) 1 [(0,(Value.int IntKind.u8 2))]) fun O'=>eJ N' (e'+3) O'.2 fun ae'=>aA (bY Tryz.prog ro ae' (e'+5) #[cB,cB] [(e 12),O'.1]) fun J'=>eN ro Q (puts e [(33,(e 13)),(34,(e 0)),(35,f'),(36,g'),(37,h'),(38,i'),(39,j'),(40,k'),(43,(e 0)),(44,l'),(45,m'),(46,n'),(47,o'),(48,(e 13)),(49,p'),(50,q'),(51,r'),(52,(e 10)),(53,s'),(54,t'),(55,(e 0)),(56,(e 1)),(57,v'),(58,(e 2)),(59,(e 13)),(60,a'),(14,a'),(61,(e 0)),(62,w'),(63,(e 2)),(64,(e 13)),(65,b'),(15,b'),(66,a'),(67,d'),(68,d'),(69,x'),(70,y'),(71,z'),(72,(e 11)),(73,(e 13)),(74,A'.1),(75,c'.1),(11,c'.1),(76,(e 0)),(77,B'),(78,C'),(79,D'),(80,(e 13)),(81,E'),(82,F'),(83,G'),(88,a'),(89,a'),(90,I'),(91,u'),(87,u'),(92,(e 12)),(93,O'.1),(94,J'.1),(12,J'.1)]) J'.2.1 (J'.2.2+1)) (aV b' (aA (bC Tryz.prog cB (e'+5) 1 [(0,(Value.int IntKind.u8 1))]) fun P'=>eJ N' (e'+5) P'.2 fun af'=>aA (bY Tryz.prog ro af' (e'+7) #[cB,cB] [(e 12),P'.1]) fun K'=>eN ro Q (puts e [(33,(e 13)),(34,(e 0)),(35,f'),(36,g'),(37,h'),(38,i'),(39,j'),(40,k'),(43,(e 0)),(44,l'),(45,m'),(46,n'),(47,o'),(48,(e 13)),(49,p'),(50,q'),(51,r'),(52,(e 10)),(53,s'),(54,t'),(55,(e 0)),(56,(e 1)),(57,v'),(58,(e 2)),(59,(e 13)),(60,a'),(14,a'),(61,(e 0)),(62,w'),(63,(e 2)),(64,(e 13)),(65,b'),(15,b'),(66,a'),(67,d'),(68,d'),(69,x'),(70,y'),(71,z'),(72,(e 11)),(73,(e 13)),(74,A'.1),(75,c'.1),(11,c'.1),(76,(e 0)),(77,B'),(78,C'),(79,D'),(80,(e 13)),(81,E'),(82,F'),(83,G'),(88,a'),(89,a'),(90,I'),(91,u'),(87,u'),(96,b'),(95,b'),(97,(e 12)),(98,P'.1),(99,K'.1),(12,K'.1)]) K'.2.1 (K'.2.2+1)) (aA (bC Tryz.prog cB (e'+5) 1 [(0,(Value.int IntKind.u8 3))]) fun Q'=>eJ N' (e'+5) Q'.2 fun ag'=>aA (bY Tryz.prog ro ag' (e'+7) #[cB,cB] [(e 12),Q'.1]) fun L'=>eN ro Q (puts e [(33,(e 13)),(34,(e 0)),(35,f'),(36,g'),(37,h'),(38,i'),(39,j'),(40,k'),(43,(e 0)),(44,l'),(45,m'),(46,n'),(47,o'),(48,(e 13)),(49,p'),(50,q'),(51,r'),(52,(e 10)),(53,s'),(54,t'),(55,(e 0)),(56,(e 1)),(57,v'),(58,(e 2)),(59,(e 13)),(60,a'),(14,a'),(61,(e 0)),(62,w'),(63,(e 2)),(64,(e 13)),(65,b'),(15,b'),(66,a'),(67,d'),(68,d'),(69,x'),(70,y'),(71,z'),(72,(e 11)),(73,(e 13)),(74,A'.1),(75,c'.1),(11,c'.1),(76,(e 0)),(77,B'),(78,C'),(79,D'),(80,(e 13)),(81,E'),(82,F'),(83,G'),(88,a'),(89,a'),(90,I'),(91,u'),(87,u'),(96,b'),(95,b'),(84,(e 12)),(85,Q'.1),(86,L'.1),(12,L'.1)]) L'.2.1 (L'.2.2+1))))))) (Q (.exit 0) (puts e [(33,(e 13)),(34,(e 0)),(35,f'),(36,g'),(37,h'),(38,i'),(39,j'),(40,k')]) h (nx+8))
@[irreducible] def vN (ro:Ro) (v0 v1 v2 v3:Value) (h:T Obj) (nx:Nat) (K:KV):Prop:=aA (i8 Tryz.prog bK) fun z1=>dL h nx (.cells z1.cells bK) fun h2=>aA (bZ v0) fun d'=>aA (aT 3 d') fun e'=>aA (aT 258 e') fun f'=>aA (load1 ro h2 f') fun g'=>aA (cD 4 g' v1) fun h'=>aA (loadA ro h2 4 h') fun i'=>aA (i8 Tryz.prog aR) fun z9=>dL h2 (nx+9) (.cells z9.cells aR) fun t'=>aA (bH 4 t' (ptr (nx+9)) i') fun j'=>aA (bZ v0) fun k'=>aA (aT 3 k') fun l'=>aA (aT 0 l') fun m'=>aA (loadA ro j' 257 m') fun n'=>aN Tryz.prog ro oZ [n'] j' (nx+17) fun o' p' u'=>aA (cD 1 o' v3) fun q'=>aA (load1 ro p' q') fun r'=>dC (rE ro) (puts (gS [v0,v1,v2,v3]) [(8,(ptr nx)),(16,v0),(17,d'),(18,e'),(19,f'),(20,g'),(21,v1),(22,h'),(23,i'),(9,(ptr (nx+9))),(24,v0),(25,k'),(26,l'),(27,m'),(28,n'),(29,o'),(30,v3),(31,q'),(32,r'),(10,r'),(11,(Value.slice none 0 0)),(12,(Value.slice none 0 0)),(13,(Value.int IntKind.i64 0))]) p' (u'+7) fun v' b' a' c'=>iM v' (jN ro K b' a' c') (fun w'=>dE (Nat.beq w' 0) (jN ro K b' a' c') (False)) (aA (loadA ro a' 2 (b' 8)) fun x'=>∃ s',aU s' a'∧K x' s' c')
theorem aAT {ro:Ro}{v0 v1 v2 v3:Value}{h:T Obj}{nx:Nat}{K:KV} (hw:vN ro v0 v1 v2 v3 h nx K):aN Tryz.prog ro nR [v0,v1,v2,v3] h nx K:=zzO (fn:=Tryz.f47) hw
@[irreducible] def vB (ro:Ro) (K:KV):dF→T Obj→Nat→Prop:=fun e h nx=>∃ h1,aU h1 h∧K (Value.bool true) h1 (nx+1)
@[irreducible] def aAo (ro:Ro):PT:=fun e h nx Q=>aA (bM (e 0)) fun a'=>aA (aP .lss (e 7) a') fun b'=>aV b' (aA (cD 4 (e 0) (e 7)) fun d'=>aA (loadA ro h 4 d') fun e'=>aN Tryz.prog ro lM [e',(e 1)] h (nx+17) fun f' h7 n8=>aA (cD 4 (e 0) (e 7)) fun c'=>aA (loadA ro h7 4 c') fun g'=>(pC c' h h7)∧(aN Tryz.prog ro lM [g',(e 2)] h7 n8 fun h' j' k'=>aA (aCw .neq f' h') fun i'=>aV i' (Q .ret (puts e [(8,(e 7)),(9,(e 0)),(10,a'),(11,b'),(14,(e 0)),(15,(e 7)),(16,d'),(17,e'),(18,(e 1)),(19,f'),(20,(e 0)),(21,(e 7)),(22,c'),(23,g'),(24,(e 2)),(25,h'),(26,i'),(6,(Value.bool false))]) j' (k'+1)) (aA (aP .add (e 7) (Value.int IntKind.i64 1)) fun l'=>Q .normal (puts e [(8,(e 7)),(9,(e 0)),(10,a'),(11,b'),(14,(e 0)),(15,(e 7)),(16,d'),(17,e'),(18,(e 1)),(19,f'),(20,(e 0)),(21,(e 7)),(22,c'),(23,g'),(24,(e 2)),(25,h'),(26,i'),(12,(e 7)),(13,l'),(7,l')]) j' (k'+3)))) (Q (.exit 0) (puts e [(8,(e 7)),(9,(e 0)),(10,a'),(11,b')]) h (nx+4))
@[irreducible] def aFD (ro:Ro) (v0 v1 v2:Value) (h:T Obj) (nx:Nat) (K:KV):Prop:=dC (aAo ro) (puts (gS [v0,v1,v2]) [(6,(Value.bool false)),(7,(Value.int IntKind.i64 0))]) h (nx+2) fun x19 e16 h17 n18=>iM x19 (vB ro K e16 h17 n18) (fun i20=>dE (Nat.beq i20 0) (vB ro K e16 h17 n18) (False)) (∃ h21,aU h21 h17∧K (e16 6) h21 n18)
theorem aGr {ro:Ro}{v0 v1 v2:Value}{h:T Obj}{nx:Nat}{K:KV} (hw:aFD ro v0 v1 v2 h nx K):aN Tryz.prog ro xK [v0,v1,v2] h nx K:=zzO (fn:=Tryz.f84) hw
@[irreducible] def vO (ro:Ro) (v0 v1 v2 v3:Value) (h:T Obj) (nx:Nat) (K:KV):Prop:=dL h nx (.cells (Value.cells v1) aR) fun h1=>aA (loadA ro h1 4 (ptr nx)) fun a'=>aN Tryz.prog ro jJ [v0,a',v2,v3] h1 (nx+7) fun b' h4 n5=>aA (aP .neq b' (Value.int IntKind.i64 0)) fun c'=>∃ h7,aU h7 h4∧K c' h7 (n5+2)
theorem aAU {ro:Ro}{v0 v1 v2 v3:Value}{h:T Obj}{nx:Nat}{K:KV} (hw:vO ro v0 v1 v2 v3 h nx K):aN Tryz.prog ro kA [v0,v1,v2,v3] h nx K:=zzO (fn:=Tryz.f85) hw
@[irreducible] def lD (ro:Ro) (K:KV):dF→T Obj→Nat→Prop:=fun e h nx=>∃ h11,aU h11 h∧K (Value.bool false) h11 (nx+1)
@[irreducible] def pZ (ro:Ro):PT:=fun e h nx Q=>aA (aT 0 (e 7)) fun b'=>aA (load1 ro h b') fun c'=>aA (bM c') fun d'=>aA (aP .lss (e 11) d') fun e'=>aV e' (aA (loadA ro h 4 (e 7)) fun f'=>aA (aT 0 (e 7)) fun g'=>aA (load1 ro h g') fun h'=>aA (cD 1 h' (e 11)) fun i'=>aA (load1 ro h i') fun j'=>aN Tryz.prog ro kA [(e 0),f',(e 3),j'] h (nx+31) fun a' E' F'=>bF a' true E' F' (fun ah'=>ah' (e 0) E' F') fun k' G' H'=>bF a' true G' H' (fun ai'=>aA (bZ k') fun aj'=>ai' aj' G' H') fun l' I' J'=>bF a' true I' J' (fun ak'=>aA (aT 0 l') fun al'=>ak' al' I' J') fun m' K' L'=>bF a' true K' L' (fun am'=>aA (aT 1 m') fun an'=>am' an' K' L') fun n' o' M'=>bF a' true o' M' (fun ao'=>aA (load1 ro o' n') fun ap'=>ao' ap' o' M') fun p' N' O'=>bF a' true N' O' (fun aq'=>aA (aT 0 (e 7)) fun ar'=>aq' ar' N' O') fun q' r' P'=>bF a' true r' P' (fun as'=>aA (load1 ro r' q') fun at'=>as' at' r' P') fun s' Q' R'=>bF a' true Q' R' (fun au'=>au' (e 11) Q' R') fun t' S' T'=>bF a' true S' T' (fun av'=>aA (cD 1 s' t') fun aw'=>av' aw' S' T') fun u' v' U'=>bF a' true v' U' (fun ax'=>aA (load1 ro v' u') fun ay'=>ax' ay' v' U') fun w' V' W'=>bF a' true V' W' (fun az'=>aA (cD 9 p' w') fun aA'=>az' aA' V' W') fun x' X' Y'=>bF a' true X' Y' (fun aB'=>aA (aT 8 x') fun aC'=>aB' aC' X' Y') fun y' z' Z'=>bF a' true z' Z' (fun aD'=>aA (load1 ro z' y') fun aE'=>aD' aE' z' Z') fun A' aa' ab'=>bF a' true aa' ab' (fun aF'=>aF' (e 4) aa' ab') fun B' ac' ad'=>bF a' true ac' ad' (fun aG'=>aN Tryz.prog ro uR [A',B'] ac' ad' fun aH' aI' aJ'=>aG' aH' aI' aJ') fun C' ae' af'=>aA (b7 a' C' (Value.bool false)) fun D'=>aV D' (Q .ret (puts e [(21,(e 11)),(22,b'),(23,c'),(24,d'),(25,e'),(28,(e 0)),(29,f'),(30,(e 3)),(31,g'),(32,h'),(33,(e 11)),(34,i'),(35,j'),(36,a'),(37,a'),(38,k'),(39,l'),(40,m'),(41,n'),(42,p'),(43,q'),(44,s'),(45,t'),(46,u'),(47,w'),(48,x'),(49,y'),(50,A'),(51,B'),(52,C'),(53,D'),(10,(Value.bool true))]) ae' (af'+1)) (aA (aP .add (e 11) (Value.int IntKind.i64 1)) fun ag'=>Q .normal (puts e [(21,(e 11)),(22,b'),(23,c'),(24,d'),(25,e'),(28,(e 0)),(29,f'),(30,(e 3)),(31,g'),(32,h'),(33,(e 11)),(34,i'),(35,j'),(36,a'),(37,a'),(38,k'),(39,l'),(40,m'),(41,n'),(42,p'),(43,q'),(44,s'),(45,t'),(46,u'),(47,w'),(48,x'),(49,y'),(50,A'),(51,B'),(52,C'),(53,D'),(26,(e 11)),(27,ag'),(11,ag')]) ae' (af'+3))) (Q (.exit 0) (puts e [(21,(e 11)),(22,b'),(23,c'),(24,d'),(25,e')]) h (nx+5))
@[irreducible] def sQ (ro:Ro) (v0 v1 v2 v3 v4:Value) (h:T Obj) (nx:Nat) (K:KV):Prop:=dL h nx (.cells (Value.cells v2) aR) fun h1=>aA (aP .eql v1 (Value.int IntKind.i64 0)) fun d'=>aV d' (aA (bZ v0) fun g'=>aA (aT 0 g') fun h'=>aA (aT 0 h') fun i'=>aA (load1 ro h1 i') fun j'=>aN Tryz.prog ro uR [j',v4] h1 (nx+11) fun k' h8 n9=>∃ e',aU e' h8∧K k' e' (n9+1)) (dC (pZ ro) (puts (gS [v0,v1,v2,v3,v4]) [(7,(ptr nx)),(10,(Value.bool false)),(12,v1),(13,d'),(11,(Value.int IntKind.i64 0))]) h1 (nx+5) fun l' a' b' c'=>iM l' (lD ro K a' b' c') (fun m'=>dE (Nat.beq m' 0) (lD ro K a' b' c') (False)) (∃ f',aU f' b'∧K (a' 10) f' c'))
theorem yQ {ro:Ro}{v0 v1 v2 v3 v4:Value}{h:T Obj}{nx:Nat}{K:KV} (hw:sQ ro v0 v1 v2 v3 v4 h nx K):aN Tryz.prog ro lT [v0,v1,v2,v3,v4] h nx K:=zzO (fn:=Tryz.f88) hw
@[irreducible] def tG (ro:Ro) (v0 v1 v2 v3:Value) (h:T Obj) (nx:Nat) (K:KV):Prop:=dL h nx (.cells (Value.cells v1) aR) fun h1=>aA (loadA ro h1 4 (ptr nx)) fun p'=>aN Tryz.prog ro jJ [v0,p',v2,v3] h1 (nx+7) fun c' h4 n5=>aA (aT 0 (ptr nx)) fun q'=>aA (load1 ro h4 q') fun r'=>aN Tryz.prog ro uR [r',v3] h4 (n5+5) fun a' h9 d'=>bF a' true h9 (d'+1) (fun s'=>s' c' h9 (d'+2)) fun t' e' f'=>bF a' true e' f' (fun u'=>aA (aP .eql t' (Value.int IntKind.i64 0)) fun v'=>u' v' e' (f'+1)) fun w' g' h'=>bF a' true g' h' (fun x'=>x' w' g' (h'+1)) fun b' i' j'=>bF b' false i' j' (fun y'=>y' c' i' (j'+1)) fun z' k' l'=>bF b' false k' l' (fun A'=>aA (aP .eql z' (Value.int IntKind.i64 2)) fun B'=>A' B' k' (l'+1)) fun C' m' n'=>bF a' true m' n' (fun D'=>aA (b7 b' (Value.bool true) C') fun E'=>D' E' m' (n'+1)) fun F' G' H'=>aA (b7 a' F' (Value.bool false)) fun I'=>∃ o',aU o' G'∧K I' o' (H'+2)
theorem zW {ro:Ro}{v0 v1 v2 v3:Value}{h:T Obj}{nx:Nat}{K:KV} (hw:tG ro v0 v1 v2 v3 h nx K):aN Tryz.prog ro mN [v0,v1,v2,v3] h nx K:=zzO (fn:=Tryz.f89) hw
@[irreducible] def jL (ro:Ro) (K:KV):dF→T Obj→Nat→Prop:=fun e h nx=>aA (bM (e 9)) fun f'=>aA (aP .gtr f' (Value.int IntKind.i64 3)) fun g'=>aV g' (aA (bZ (e 0)) fun h'=>aA (aT 262 h') fun i'=>aA (bH 1 h i' (Value.int IntKind.i64 110)) fun h5=>∃ h6,aU h6 h5∧K (Value.int IntKind.i64 0) h6 (nx+8)) (aA (bZ (e 0)) fun j'=>aA (aT 3 j') fun k'=>aA (aT 258 k') fun l'=>aA (load1 ro h l') fun m'=>aA (bM m') fun n'=>aA (aP .geq n' (Value.int IntKind.i64 256)) fun o'=>aV o' (aA (bZ (e 0)) fun p'=>aA (aT 262 p') fun q'=>aA (bH 1 h q' (Value.int IntKind.i64 3)) fun r'=>∃ b',aU b' r'∧K (Value.int IntKind.i64 0) b' (nx+15)) (aA (bZ (e 0)) fun s'=>aA (aT 3 s') fun t'=>aA (aT 258 t') fun u'=>aA (load1 ro h u') fun v'=>aA (cX Tryz.prog aR [(0,(e 1)),(1,(e 9))]) fun w'=>aA (bC Tryz.prog fL (nx+19) 1 [(0,w')]) fun c'=>eJ h (nx+19) c'.2 fun x'=>aA (bY Tryz.prog ro x' (nx+21) #[fL,fL] [v',c'.1]) fun a'=>aA (bZ (e 0)) fun y'=>aA (aT 3 y') fun z'=>aA (aT 258 z') fun A'=>aA (bH 1 a'.2.1 A' a'.1) fun d'=>aA (bZ (e 0)) fun B'=>aA (aT 3 B') fun C'=>aA (aT 258 C') fun D'=>aA (load1 ro d' D') fun E'=>aA (bM E') fun F'=>aA (aP .sub F' (Value.int IntKind.i64 1)) fun G'=>∃ e',aU e' d'∧K G' e' (a'.2.2+12)))
@[irreducible] def jM (ro:Ro) (Q:KE):dF→T Obj→Nat→Prop:=fun e h nx=>aA (aP .add (e 10) (Value.int IntKind.i64 1)) fun a'=>Q .normal (puts e [(59,(e 10)),(60,a'),(10,a')]) h (nx+3)
@[irreducible] def rD (ro:Ro):PT:=fun e h nx Q=>aA (bM (e 1)) fun a'=>aA (aP .lss (e 10) a') fun b'=>aV b' (aA (bZ (e 0)) fun d'=>aA (aT 2 d') fun e'=>aA (load1 ro h e') fun f'=>aA (cD 1 (e 1) (e 10)) fun g'=>aA (load1 ro h g') fun h'=>aA (cD 1 f' h') fun i'=>aA (load1 ro h i') fun j'=>aA (aP .geq j' (Value.int IntKind.i64 0)) fun k'=>aV k' (aA (bZ (e 0)) fun m'=>aA (aT 2 m') fun n'=>aA (load1 ro h n') fun o'=>aA (cD 1 (e 1) (e 10)) fun p'=>aA (load1 ro h p') fun q'=>aA (cD 1 o' q') fun r'=>aA (load1 ro h r') fun s'=>aA (bC Tryz.prog cR (nx+26) 1 [(0,s')]) fun l'=>eJ h (nx+26) l'.2 fun t'=>aA (bY Tryz.prog ro t' (nx+29) #[cR,cR] [(e 9),l'.1]) fun c'=>jM ro Q (puts e [(55,(e 10)),(56,(e 1)),(57,a'),(58,b'),(61,(e 0)),(62,d'),(63,e'),(64,f'),(65,(e 1)),(66,(e 10)),(67,g'),(68,h'),(69,i'),(70,j'),(71,k'),(72,(e 9)),(73,(e 0)),(74,m'),(75,n'),(76,o'),(77,(e 1)),(78,(e 10)),(79,p'),(80,q'),(81,r'),(82,s'),(83,l'.1),(84,c'.1),(9,c'.1)]) c'.2.1 c'.2.2) (jM ro Q (puts e [(55,(e 10)),(56,(e 1)),(57,a'),(58,b'),(61,(e 0)),(62,d'),(63,e'),(64,f'),(65,(e 1)),(66,(e 10)),(67,g'),(68,h'),(69,i'),(70,j'),(71,k')]) h (nx+15))) (Q (.exit 4) (puts e [(55,(e 10)),(56,(e 1)),(57,a'),(58,b')]) h (nx+4))
@[irreducible] def mS (ro:Ro) (K:KV):dF→T Obj→Nat→Prop:=fun e h nx=>dC (rD ro) (puts e [(9,(Value.slice none 0 0)),(10,(Value.int IntKind.i64 0))]) h (nx+2) fun x60 e57 h58 n59=>iM x60 (jL ro K e57 h58 n59) (fun i61=>dE (Nat.beq i61 4) (jL ro K e57 h58 n59) (False)) (∃ h62,aU h62 h58∧K (e57 4) h62 n59)
@[irreducible] def gX (ro:Ro) (Q:KE):dF→T Obj→Nat→Prop:=fun e h nx=>aA (aP .add (e 5) (Value.int IntKind.i64 1)) fun a'=>Q .normal (puts e [(19,(e 5)),(20,a'),(5,a')]) h (nx+3)
@[irreducible] def mT (ro:Ro) (Q:KE):dF→T Obj→Nat→Prop:=fun e h nx=>aV (e 7) (Q .ret (puts e [(53,(e 7)),(54,(e 5)),(4,(e 5))]) h (nx+3)) (gX ro Q (puts e [(53,(e 7))]) h (nx+1))
@[irreducible] def mR (ro:Ro):PT:=fun e h nx Q=>aA (bM (e 1)) fun a'=>aA (aP .lss (e 8) a') fun b'=>aV b' (bF (e 7) true h (nx+17) (fun D'=>D' (e 6) h (nx+17)) fun e' f' g'=>bF (e 7) true f' g' (fun E'=>E' (e 8) f' g') fun h' i' j'=>bF (e 7) true i' j' (fun F'=>aA (cD 1 e' h') fun G'=>F' G' i' j') fun k' c' l'=>bF (e 7) true c' l' (fun H'=>aA (load1 ro c' k') fun I'=>H' I' c' l') fun m' n' o'=>bF (e 7) true n' o' (fun J'=>J' (e 1) n' o') fun p' q' r'=>bF (e 7) true q' r' (fun K'=>K' (e 8) q' r') fun s' t' u'=>bF (e 7) true t' u' (fun L'=>aA (cD 1 p' s') fun M'=>L' M' t' u') fun v' d' w'=>bF (e 7) true d' w' (fun N'=>aA (load1 ro d' v') fun O'=>N' O' d' w') fun x' y' z'=>bF (e 7) true y' z' (fun P'=>aA (aP .eql m' x') fun Q'=>P' Q' y' z') fun A' R' S'=>aA (b7 (e 7) A' (Value.bool false)) fun B'=>aA (aP .add (e 8) (Value.int IntKind.i64 1)) fun C'=>Q .normal (puts e [(35,(e 8)),(36,(e 1)),(37,a'),(38,b'),(41,(e 7)),(42,(e 7)),(43,e'),(44,h'),(45,k'),(46,m'),(47,p'),(48,s'),(49,v'),(50,x'),(51,A'),(52,B'),(7,B'),(39,(e 8)),(40,C'),(8,C')]) R' (S'+3)) (Q (.exit 2) (puts e [(35,(e 8)),(36,(e 1)),(37,a'),(38,b')]) h (nx+4))
@[irreducible] def mQ (ro:Ro):PT:=fun e h nx Q=>aA (bZ (e 0)) fun e'=>aA (aT 3 e') fun f'=>aA (aT 258 f') fun g'=>aA (load1 ro h g') fun h'=>aA (bM h') fun i'=>aA (aP .lss (e 5) i') fun j'=>aV j' (aA (bZ (e 0)) fun k'=>aA (aT 3 k') fun l'=>aA (aT 258 l') fun m'=>aA (load1 ro h m') fun n'=>aA (cD 4 n' (e 5)) fun o'=>aA (aT 0 o') fun p'=>aA (load1 ro h p') fun a'=>aA (bM a') fun q'=>aA (bM (e 1)) fun r'=>aA (aP .eql q' r') fun s'=>aV s' (dC (mR ro) (puts e [(11,(e 5)),(12,(e 0)),(13,e'),(14,f'),(15,g'),(16,h'),(17,i'),(18,j'),(21,(e 0)),(22,k'),(23,l'),(24,m'),(25,n'),(26,(e 5)),(27,o'),(28,p'),(29,a'),(6,a'),(30,a'),(31,q'),(32,(e 1)),(33,r'),(34,s'),(7,(Value.bool true)),(8,(Value.int IntKind.i64 0))]) h (nx+25) fun u' b' c' d'=>iM u' (mT ro Q b' c' d') (fun t'=>dE (Nat.beq t' 2) (mT ro Q b' c' d') (dE (Nat.beq t' 1) (gX ro Q b' c' d') (Q (.exit t') b' c' d'))) (Q .ret b' c' d')) (gX ro Q (puts e [(11,(e 5)),(12,(e 0)),(13,e'),(14,f'),(15,g'),(16,h'),(17,i'),(18,j'),(21,(e 0)),(22,k'),(23,l'),(24,m'),(25,n'),(26,(e 5)),(27,o'),(28,p'),(29,a'),(6,a'),(30,a'),(31,q'),(32,(e 1)),(33,r'),(34,s')]) h (nx+23))) (Q (.exit 0) (puts e [(11,(e 5)),(12,(e 0)),(13,e'),(14,f'),(15,g'),(16,h'),(17,i'),(18,j')]) h (nx+8))
@[irreducible] def vM (ro:Ro) (v0 v1:Value) (h:T Obj) (nx:Nat) (K:KV):Prop:=dC (mQ ro) (puts (gS [v0,v1]) [(4,(Value.int IntKind.i64 0)),(5,(Value.int IntKind.i64 1))]) h (nx+2) fun x133 e130 h131 n132=>iM x133 (mS ro K e130 h131 n132) (fun i134=>dE (Nat.beq i134 0) (mS ro K e130 h131 n132) (False)) (∃ h135,aU h135 h131∧K (e130 4) h135 n132)
theorem aAS {ro:Ro}{v0 v1:Value}{h:T Obj}{nx:Nat}{K:KV} (hw:vM ro v0 v1 h nx K):aN Tryz.prog ro nQ [v0,v1] h nx K:=zzO (fn:=Tryz.f90) hw
@[irreducible] def lX (ro:Ro) (K:KV):dF→T Obj→Nat→Prop:=fun e h nx=>∃ h2,aU h2 h∧K (Value.int IntKind.i64 (-1)) h2 (nx+1)
@[irreducible] def qU (ro:Ro):PT:=fun e h nx Q=>aA (aT 1 (e 5)) fun a'=>aA (load1 ro h a') fun b'=>aA (bM b') fun c'=>aA (aP .lss (e 9) c') fun d'=>aV d' (aA (aT 1 (e 5)) fun e'=>aA (load1 ro h e') fun f'=>aA (cD 1 f' (e 9)) fun g'=>aA (load1 ro h g') fun h'=>aA (bZ (e 0)) fun i'=>aA (aT 2 i') fun j'=>aA (load1 ro h j') fun k'=>aA (cD 1 k' (e 3)) fun l'=>aA (load1 ro h l') fun m'=>aA (aP .eql h' m') fun n'=>aV n' (aA (aP .rem (e 2) (Value.int IntKind.i64 3)) fun o'=>Q .ret (puts e [(10,(e 9)),(11,a'),(12,b'),(13,c'),(14,d'),(17,e'),(18,f'),(19,(e 9)),(20,g'),(21,h'),(22,(e 0)),(23,i'),(24,j'),(25,k'),(26,(e 3)),(27,l'),(28,m'),(29,n'),(30,(e 2)),(31,o'),(8,o')]) h (nx+21)) (aA (aP .quo (e 2) (Value.int IntKind.i64 3)) fun p'=>aA (aP .add (e 9) (Value.int IntKind.i64 1)) fun q'=>Q .normal (puts e [(10,(e 9)),(11,a'),(12,b'),(13,c'),(14,d'),(17,e'),(18,f'),(19,(e 9)),(20,g'),(21,h'),(22,(e 0)),(23,i'),(24,j'),(25,k'),(26,(e 3)),(27,l'),(28,m'),(29,n'),(32,(e 2)),(33,p'),(2,p'),(15,(e 9)),(16,q'),(9,q')]) h (nx+24))) (Q (.exit 0) (puts e [(10,(e 9)),(11,a'),(12,b'),(13,c'),(14,d')]) h (nx+5))
@[irreducible] def tF (ro:Ro) (v0 v1 v2 v3:Value) (h:T Obj) (nx:Nat) (K:KV):Prop:=dL h nx (.cells (Value.cells v1) aR) fun h1=>dC (qU ro) (puts (gS [v0,v1,v2,v3]) [(5,(ptr nx)),(8,(Value.int IntKind.i64 0)),(9,(Value.int IntKind.i64 0))]) h1 (nx+3) fun x23 e20 h21 n22=>iM x23 (lX ro K e20 h21 n22) (fun i24=>dE (Nat.beq i24 0) (lX ro K e20 h21 n22) (False)) (∃ h25,aU h25 h21∧K (e20 8) h25 n22)
theorem zV {ro:Ro}{v0 v1 v2 v3:Value}{h:T Obj}{nx:Nat}{K:KV} (hw:tF ro v0 v1 v2 v3 h nx K):aN Tryz.prog ro jJ [v0,v1,v2,v3] h nx K:=zzO (fn:=Tryz.f118) hw
end V
end Go.Proofs.YtjndkdmkecpllaaGreat
namespace Go.Proofs.YtjndkdmkecpllaaGreat
namespace V
section
variable {α β:Type} [DecidableEq α] [DecidableEq β]
theorem aSR (s:List α) (p:α):pos (p::s) p=0:=by simp[pos]
theorem aVn {s:List α}{p q:α} (h:q≠p):pos (q::s) p=pos s p+1:=by
 unfold pos; rw[List.idxOf_cons,beq_eq_false_iff_ne.2 h]; rfl
theorem aSQ {s:List α}{p:α}{k:Nat} (hk:s[k]?=some p) (hn:∀ j,j < k→s[j]?≠some p):pos s p=k:=by
 induction s generalizing k with
 | nil=>simp at hk
 | cons q s ih =>
  cases k with
  | zero=>simp at hk; subst hk; exact aSR _ _
  | succ k =>
   have h0:=hn 0 (by omega)
   rw[aVn (fun e=>h0 (by simp[e]))]
   rw[ih (by simpa using hk) fun j hj=>by have:=hn (j+1) (by omega); simpa using this]
def num (l:List α):List Nat:=l.map (ix l)
theorem yF (l:List α) (p:α):dd (l++[p])=xB (dd l) p:=by simp[dd]
theorem aR8 {s:List α}{p q:α}:q∈xB s p ↔ q∈s∨q=p:=by
 unfold xB
 by_cases h:p∈s
 ·rw[if_pos h]
  constructor
  ·exact .inl
  ·rintro (h1 | rfl)
   ·exact h1
   ·exact h
 ·rw[if_neg h]; simp
theorem aRa {l s:List α}{q:α}:q∈l.foldl xB s ↔ q∈s∨q∈l:=by
 induction l generalizing s with
 | nil=>simp
 | cons p l ih=>rw[List.foldl_cons,ih,aR8]; simp[or_assoc]
theorem aG6 {l:List α}{q:α}:q∈dd l ↔ q∈l:=by unfold dd; rw[aRa]; simp
theorem aKO (s:List α) (p:α):∃ r,xB s p=s++r:=by
 unfold xB
 by_cases h:p∈s
 ·exact⟨[],by rw[if_pos h]; simp⟩
 ·exact⟨[p],by rw[if_neg h]⟩
theorem aKx (l s:List α):∃ r,l.foldl xB s=s++r:=by
 induction l generalizing s with
 | nil=>exact⟨[],by simp⟩
 | cons p l ih =>
  obtain⟨r,h⟩:=aKO s p
  obtain⟨r',h'⟩:=ih (xB s p)
  exact⟨r++r',by rw[List.foldl_cons,h',h,List.append_assoc]⟩
theorem aPB (l m:List α):∃ r,dd (l++m)=dd l++r:=by
 unfold dd
 rw[List.foldl_append]
 exact aKx m _
theorem zK {l m:List α}{p:α} (h:p∈l):ix (l++m) p=ix l p:=by
 unfold ix pos
 obtain⟨r,hr⟩:=aPB l m
 rw[hr,List.idxOf_append,if_pos (aG6.2 h)]
theorem aEi (s:List α) (p:α):(xB s p).length≤s.length+1:=by
 unfold xB
 by_cases h:p∈s
 ·rw[if_pos h]; omega
 ·rw[if_neg h]; simp
theorem aKw (l s:List α):(l.foldl xB s).length≤s.length+l.length:=by
 induction l generalizing s with
 | nil=>simp
 | cons p l ih=>rw[List.foldl_cons]; have:=ih (xB s p); have:=aEi s p; simp; omega
theorem aIO (l:List α):(dd l).length≤l.length:=by have:=aKw l []; unfold dd; simpa using this
theorem aRP {l:List α}{p:α} (h:¬ p∈dd l):ix (l++[p]) p=(dd l).length:=by
 unfold ix pos
 rw[yF]
 unfold xB
 rw[if_neg h,List.idxOf_append,if_neg h]
 simp
theorem aNM (l:List α):(num l).length=l.length:=by simp[num]
end
theorem aOn:bs.length=256:=by unfold bs; simp
theorem aVP {b:Nat} (hb:b < 256):bs[b]?=some b:=by unfold bs; rw[List.getElem?_range hb]
def cls (l:List Nat):List Nat:=num (iB l)
theorem oA (l:List Nat):(iB l).length=256:=by rw[iB,List.length_map,aOn]
theorem y9 (l:List Nat):(cls l).length=256:=by rw[cls,aNM,oA]
theorem aDm {l:List Nat}{b:Nat} (hb:b < 256):(iB l)[b]?=some (sig l b):=by rw[iB,List.getElem?_map,aVP hb]; rfl
theorem aJQ {l:List Nat}{b:Nat} (hb:b < 256):(cls l)[b]?=some (ix (iB l) (sig l b)):=by
 rw[cls,num,List.getElem?_map,aDm hb]; rfl
theorem aSn (l:List Nat) (x b:Nat):sig (l++[x]) b=sig l b++[x.testBit b]:=by simp[sig]
set_option maxRecDepth 20000
set_option maxRecDepth 20000
set_option maxRecDepth 20000
def lI (c:List Nat) (m:Nat):List Value:=u8s c++[.int .i64 (m:Int)]
def aEc (c:List Nat) (m:Nat):Value:=.agg (lI c m).toArray
theorem rQ {c:List Nat}{m:Nat} (hc:c.length=256):(lI c m).length=257:=by simp[lI,sB,hc]
theorem aIs (c:List Nat) (m:Nat):(lI c m).all bV=true:=by simp[lI,u8s,bV]
theorem aNe {c:List Nat}{m i:Nat} (v:Nat) (hi:i < c.length):(lI c m).set i (.int .u8 (v:Int))=lI (c.set i v) m:=by
 unfold lI
 rw[List.set_append_left _ _ (by rw[sB]; exact hi)]
 simp[u8s,List.map_set]
theorem aMY {c:List Nat}{m:Nat} (v:Nat) (hc:c.length=256):(lI c m).set 256 (.int .i64 (v:Int))=lI c v:=by
 unfold lI
 rw[List.set_append_right _ _ (by rw[sB]; omega)]
 simp[sB,hc]
theorem aKF (c:List Nat) (m:Nat):(aEc c m).cells=(lI c m).toArray:=rfl
theorem aQZ:i8 Tryz.prog cT=some (aEc (List.replicate 256 0) 0):=by kernel_rfl
theorem aDs {K:Value→Prop} (k:K (aEc (List.replicate 256 0) 0)):aA (i8 Tryz.prog cT) K:=by rw[aQZ]; exact k
theorem aJy:(List.replicate 256 0:List Nat).length=256:=List.length_replicate
set_option maxRecDepth 20000
def part (l:List Nat) (i:Nat):List Nat:=l.take i++List.replicate (256 - i) 0
theorem aSN {l:List Nat} (hl:l.length=256) {i:Nat} (hi:i≤256):(part l i).length=256:=by simp[part,hl]; omega
theorem aSO {l:List Nat} (hl:l.length=256) {i:Nat} (hi:i < 256):(part l i).set i (l[i]'(by omega))=part l (i+1):=by
 unfold part
 rw[List.set_append_right _ _ (by simp; omega)]
 have e:256 - i=(256 - (i+1))+1:=by omega
 rw[e,List.replicate_succ]
 have e2:i - (List.take i l).length=0:=by simp; omega
 rw[e2,List.set_cons_zero,List.take_succ_eq_append_getElem (by omega),List.append_assoc]
 rfl
theorem aSM {l:List Nat} (hl:l.length=256):part l 256=l:=by
 unfold part
 rw[List.take_of_length_le (by omega)]; simp
set_option maxRecDepth 20000
def vV (l:List Nat):List (List Value):=l.map gA
theorem aBc (l:List Nat):(vV l).length=l.length:=by simp[vV]
theorem aQI {l:List Nat}{i:Nat} (hi:i < l.length):(vV l)[i]?=some (gA l[i]):=by simp[vV,hi]
theorem aHb:cX Tryz.prog cT []=some (aEc (List.replicate 256 0) 0):=by kernel_rfl
set_option maxRecDepth 20000
theorem aCS {l:List Nat}{i:Nat} (hi:i < l.length) (b:Nat):sig (l.take (i+1)) b=sig (l.take i) b++[l[i].testBit b]:=by
 rw[List.take_succ_eq_append_getElem hi,aSn]
theorem aNc {l:List Nat}{i a b:Nat} (hi:i < l.length) (h:l[i].testBit a≠l[i].testBit b):sig l a≠sig l b:=by
 intro e
 have h1:(sig l a)[i]?=some (l[i].testBit a):=by simp[sig,hi]
 have h2:(sig l b)[i]?=some (l[i].testBit b):=by simp[sig,hi]
 rw[e,h2] at h1
 exact h (Option.some.inj h1).symm
theorem aHl {ro:Ro}{v:Value}{l:List Nat}{a b:Nat} (ha:a < 256) (hb:b < 256) (hlen:l.length≤1000000) {h:T Obj}{nx:Nat}{K:KV} (hf:Fr h nx) (hv:Sl ro h v 4 (vV l)) (hK:∀ nx',nx≤nx'→K (.bool (decide (sig l a=sig l b))) h nx') :
  aN Tryz.prog ro xK [v,.int .u8 a,.int .u8 b] h nx K:=by
 apply aGr
 unfold aFD
 refine bD (fun n e h' nx'=>∃ i:Nat,i+n=l.length∧nx≤nx'∧e 0=v∧e 1=.int .u8 a∧e 2=.int .u8 b∧e 7=.int .i64 i∧h'=h∧sig (l.take i) a=sig (l.take i) b) ?_ (n:=l.length) ⟨0,by omega,by omega,rfl,rfl,rfl,rfl,rfl,rfl⟩
 rintro n e h' nx' ⟨i,hin,hnx,e0,e1,e2,e7,rfl,hsig⟩ Q' hc hx
 unfold aAo
 rw[e0,e1,e2,e7]
 have hl:=hv.len
 rw[aBc] at hl
 refine aB hl ?_
 (repeat refine zzI ?_)
 by_cases hi:i < l.length
 ·refine iF (by simp; omega) ?_
  have hix:=hv.ix .i64 (i:=i) (by rw[aBc]; exact hi)
  have hld:=hv.loadA (aQI hi)
  refine aB hix (aB hld ?_)
  refine pY ha (hf.mono (by omega)) fun n1 hn1=>?_
  refine aB hix (aB hld ?_)
  refine⟨hv.same (aU.refl _) (by rw[aBc]; exact hi),?_⟩
  refine pY hb (hf.mono (by omega)) fun n2 hn2=>?_
  (repeat refine zzI ?_)
  by_cases he:l[i].testBit a=l[i].testBit b
  ·refine iE (by simp[he]) ?_
   (repeat refine zzI ?_)
   refine hc (n - 1) _ _ _ _ (by omega) ⟨i+1,by omega,by omega,e0,e1,e2,rfl,rfl,?_⟩ (aU.refl _)
   rw[aCS hi,aCS hi,hsig,he]
  ·refine iF (by simp[he]) ?_
   refine hx _ _ _ _ (fun e=>by cases e) (kW ?_)
   refine⟨h',aU.refl _,?_⟩
   have:=hK (n2+1) (by omega)
   rw[decide_eq_false (aNc hi he)] at this
   exact this
 ·refine iE (by simp; omega) ?_
  refine hx _ _ _ _ (fun e=>by cases e) (d3 (cU ?_))
  unfold vB
  refine⟨h',aU.refl _,?_⟩
  have ht:l.take i=l:=List.take_of_length_le (by omega)
  rw[ht] at hsig
  have:=hK (nx'+4+1) (by omega)
  rw[decide_eq_true hsig] at this
  exact this
set_option maxRecDepth 20000
set_option maxRecDepth 4000 in
theorem aNY {ro:Ro}{v:Value}{l:List Nat} (hlen:l.length≤1000000) {h:T Obj}{nx:Nat}{K:KV} (hf:Fr h nx) (hv:Sl ro h v 4 (vV l)) (hK:∀ nx',nx≤nx'→K (aEc (cls l) (many l)) h nx'):aN Tryz.prog ro aC7 [v] h nx K:=by
 apply aLr
 unfold aLq
 refine aDs (aD (aB aHb (aDs (aD ?_))))
 refine aB (eF (l:=lI (List.replicate 256 0) 0) (vs:=lI (List.replicate 256 0) 0) (by rw[T.get_upd_same]; rfl) rfl (rQ aJy) (rQ aJy) (aIs _ _)) ?_
 have hN:=y9 l
 refine bD (fun n e h' nx'=>∃ (i:Nat) (reps:List Nat) (fv:Value),i+n=256∧nx+6≤nx'∧e 0=v∧e 2=ptr nx∧e 3=ptr (nx+2)∧e 4=fv∧e 5=.int .i64 i∧aU h h'∧Fr h' nx' ∧
  h'.get nx=some (.cells (lI (List.replicate 256 0) 0).toArray cT)∧h'.get (nx+2)=some (.cells (lI (part (cls l) i) 0).toArray cT) ∧
  Own h' fv 1 bS (eS reps) (nx+3) nx'∧reps.map (sig l)=dd ((iB l).take i)∧∀ r∈reps,r < 256) ?_ (n:=256)
  ⟨0,[],_,by omega,by omega,rfl,rfl,rfl,rfl,rfl,?_,?_,?_,?_,Own.nil,rfl,by simp⟩
 ·rintro n e h' nx' ⟨i,reps,fv,hin,hnx,e0,e2,e3,e4,e5,hs,hf',g1,g2,ho,hreps,hr⟩ Q' hc hx
  unfold aFB
  rw[e5]
  (repeat refine zzI ?_)
  by_cases hi:i < 256
  ·refine iF (by simp; omega) ?_
   have hrl:reps.length≤i:=by
    have:=congrArg List.length hreps
    rw[List.length_map] at this
    rw[this]
    refine Nat.le_trans (aIO _) ?_
    rw[List.length_take]; omega
   have hsl:i < (iB l).length:=by rw[oA]; exact hi
   have hse:(iB l)[i]=sig l i:=by have:=aDm (l:=l) hi; rw[List.getElem?_eq_getElem hsl] at this; exact Option.some.inj this
   have htake:(iB l).take (i+1)=(iB l).take i++[sig l i]:=by rw[List.take_succ_eq_append_getElem hsl,hse]
   have hNi:(cls l)[i]'(by omega)=ix ((iB l).take (i+1)) (sig l i):=by
    have h1:=aJQ (l:=l) hi
    rw[List.getElem?_eq_getElem (by omega)] at h1
    rw[Option.some.inj h1]
    have h2:=zK (l:=(iB l).take (i+1)) (m:=(iB l).drop (i+1)) (p:=sig l i) (by rw[htake]; simp)
    rw[List.take_append_drop] at h2
    exact h2
   have hrg:∀ j,(dd ((iB l).take i))[j]?=(reps[j]?).map (sig l):=fun j=>by rw[← hreps,List.getElem?_map]
   have hj4:∀ (k:Nat) (reps':List Nat),k=ix ((iB l).take (i+1)) (sig l i)→k≤i→reps'.map (sig l)=dd ((iB l).take (i+1))→(∀ r∈reps',r < 256)→∀ (e:dF) (h1:T Obj) (n2:Nat) (fv:Value),nx'≤n2→e 0=v→e 2=ptr nx→e 3=ptr (nx+2)→e 4=fv→e 5=.int .i64 i→e 6=.int .i64 k →
     aU h h1→Fr h1 n2→h1.get nx=some (.cells (lI (List.replicate 256 0) 0).toArray cT)→h1.get (nx+2)=some (.cells (lI (part (cls l) i) 0).toArray cT)→Own h1 fv 1 bS (eS reps') (nx+3) n2→wP ro Q' e h1 n2:=by
    intro k reps' hk hki hreps' hr' e h1 n2 fv hn2 e0 e2 e3 e4 e5 e6 hs1 hf1 g1 g2 ho'
    unfold wP
    rw[e3,e5,e6]
    (repeat refine zzI ?_)
    have hpl2:(part (cls l) i).length=256:=aSN hN (by omega)
    refine aB (cE g2 (by rw[rQ hpl2]; omega) rfl rfl) ?_
    rw[aNe _ (by omega),hk,← hNi,aSO hN hi]
    unfold aAn
    show aA (aP .add (e 5) _) _
    rw[e5]
    (repeat refine zzI ?_)
    refine hc (n - 1) _ _ _ _ (by omega) ⟨i+1,reps',fv,by omega,?_,e0,e2,e3,e4,rfl,hs1.new hf (by omega),(hf1.mono (by omega)).upd (Nat.le_refl _) (by omega),?_,?_,?_,hreps',hr'⟩ (aU.refl _)
    ·omega
    ·simp (disch:=first | omega | exact Int.natCast_nonneg _ | assumption) only [BB,B2,↓reduceIte,Nat.reduceLeDiff,Nat.reduceAdd,aW,aX,bA,a9,aZ,aY,g1]
    ·rw[T.get_upd_same]
    ·exact ho'.keep (by omega) fun id hid1 hid2 o hg=>by rw[T.get_upd_ne _ _ (by omega)]; exact hg
   have hj3:∀ (k:Nat),k≤reps.length→(∀ j,j < k→∀ r,reps[j]?=some r→sig l r≠sig l i)→(∀ r,reps[k]?=some r→sig l r=sig l i)→∀ (e:dF) (n2:Nat),nx'≤n2→e 0=v→e 2=ptr nx→e 3=ptr (nx+2)→e 4=fv→e 5=.int .i64 i→e 6=.int .i64 k→wO ro Q' e h' n2:=by
    intro k hkl hk1 hk2 e n2 hn2 e0 e2 e3 e4 e5 e6
    unfold wO
    rw[e4,e5,e6]
    have hl:=(ho.sl (ro:=ro)).len
    rw[i9] at hl
    refine aB hl ?_
    (repeat refine zzI ?_)
    by_cases hkk:k=reps.length
    ·refine iF (by simp[hkk]) ?_
     (repeat refine zzI ?_)
     refine aB (aRX _ _) (aF ?_)
     have hnm:¬ sig l i∈dd ((iB l).take i):=by
      rw[← hreps]
      intro hm
      obtain⟨r,hr1,hr2⟩:=List.mem_map.1 hm
      obtain⟨j,hj⟩:=List.mem_iff_getElem?.1 hr1
      exact hk1 j (by have:=(List.getElem?_eq_some_iff.1 hj).1; omega) r hj hr2
     have ho2:Own (h'.upd (n2+7) (some (.cells #[.int .u8 (i:Int)] bS))) fv 1 bS (eS reps) (nx+3) (n2+7):=ho.keep (by omega) fun id h1 h2 o hg=>by rw[T.get_upd_ne _ _ (by omega)]; exact hg
     have hx1:Sl ro (h'.upd (n2+7) (some (.cells #[.int .u8 (i:Int)] bS))) (.slice (some (own (n2+7) 1)) 1 1) 1 (eS [i]):=Sl.own (l:=eS [i]) (by rw[T.get_upd_same]; rfl) (by simp[eS]) (Nat.le_refl _)
     obtain⟨h2,r,q1,q2,q3,q4⟩:=aIE (nx:=n2+9) ho2 hx1 (by omega) (by omega) (by omega)
     refine aB q1 ?_
     dsimp only
     have hS2:aU h h2:=fun b o hb=>by
      have hbn:b < nx:=by
       rcases Nat.lt_or_ge b nx with h9 | h9
       ·exact h9
       ·rw[hf b h9] at hb; cases hb
      rw[q3 b (.inl (by omega)) (by omega),T.get_upd_ne _ _ (by omega)]
      exact hs b o hb
     have hF2:Fr h2 (n2+9+1+1):=fun b hb=>by
      rw[q3 b (.inr (by omega)) (by omega),T.get_upd_ne _ _ (by omega)]
      exact hf' b (by omega)
     refine hj4 k (reps++[i]) ?_ (by omega) ?_ ?_ _ _ _ r (by omega) e0 e2 e3 rfl e5 e6 hS2 hF2 ?_ ?_ (q2.keep (by omega) fun _ _ _ _ hg=>hg)
     ·rw[htake,aRP hnm,hkk,← hreps,List.length_map]
     ·rw[htake,yF]; unfold xB; rw[if_neg hnm,List.map_append,hreps]; rfl
     ·intro r hr3
      rcases List.mem_append.1 hr3 with h9 | h9
      ·exact hr r h9
      ·simp at h9; omega
     ·rw[q3 nx (.inl (by omega)) (by omega),T.get_upd_ne _ _ (by omega)]; exact g1
     ·rw[q3 (nx+2) (.inl (by omega)) (by omega),T.get_upd_ne _ _ (by omega)]; exact g2
    ·refine iE (by simp; omega) ?_
     have hkl2:k < reps.length:=by omega
     have hkr:reps[k]?=some reps[k]:=List.getElem?_eq_getElem hkl2
     have hkm:=hk2 _ hkr
     have hdk:(dd ((iB l).take i))[k]?=some (sig l i):=by rw[hrg,hkr,← hkm]; rfl
     have hmem:sig l i∈dd ((iB l).take i):=List.mem_of_getElem? hdk
     have hdd:dd ((iB l).take (i+1))=dd ((iB l).take i):=by rw[htake,yF]; unfold xB; rw[if_pos hmem]
     refine hj4 k reps ?_ (by omega) (by rw[hdd]; exact hreps) hr _ _ _ fv (by omega) e0 e2 e3 e4 e5 e6 hs (hf'.mono (by omega)) g1 g2 (ho.keep (by omega) fun _ _ _ _ hg=>hg)
     unfold ix
     rw[hdd]
     refine (aSQ hdk fun j hj=>?_).symm
     rw[hrg]
     cases hj2:reps[j]? with
     | none=>intro h9; cases h9
     | some r=>intro h9; exact hk1 j hj r hj2 (Option.some.inj h9)
   refine bD (fun n2 e1 h1 n1=>∃ k:Nat,k+n2=reps.length∧nx'≤n1∧e1 0=v∧e1 2=ptr nx∧e1 3=ptr (nx+2)∧e1 4=fv∧e1 5=.int .i64 i∧e1 6=.int .i64 k∧h1=h'∧∀ j,j < k→∀ r,reps[j]?=some r→sig l r≠sig l i) ?_ (n:=reps.length)
    ⟨0,by omega,by omega,e0,e2,e3,e4,e5,rfl,rfl,fun j hj=>by omega⟩
   rintro n2 e1 h1 n1 ⟨k,hkn,hn1,f0,f2,f3,f4,f5,f6,rfl,hk1⟩ Q2 hc2 hx2
   unfold aFC
   rw[f0,f4,f5,f6]
   have hl:=(ho.sl (ro:=ro)).len
   rw[i9] at hl
   refine aB hl ?_
   (repeat refine zzI ?_)
   by_cases hk:k < reps.length
   ·have e9:decide ((k:Int) < (reps.length:Int))=true:=by simp; omega
    rw[e9]
    (repeat refine zzI ?_)
    refine aB ((ho.sl (ro:=ro)).ix _ (by rw[i9]; exact hk)) ?_
    (repeat refine zzI ?_)
    refine aB ((ho.sl (ro:=ro)).load1 (y7 hk)) ?_
    (repeat refine zzI ?_)
    refine aHl (hr _ (List.getElem_mem hk)) hi hlen (hf'.mono (by omega)) (hv.sub hs) fun n3 hn3=>?_
    (repeat refine zzI ?_)
    by_cases he:sig l reps[k]=sig l i
    ·refine iE (by simp[he]) ?_
     refine hx2 _ _ _ _ (fun e=>by cases e) (d3 (cU ?_))
     exact hj3 k (by omega) hk1 (fun r hr9=>by rw[List.getElem?_eq_getElem hk] at hr9; cases hr9; exact he) _ _ (by omega) f0 f2 f3 f4 f5 f6
    ·refine iF (by simp[he]) ?_
     (repeat refine zzI ?_)
     refine hc2 (n2 - 1) _ _ _ _ (by omega) ⟨k+1,by omega,by omega,f0,f2,f3,f4,f5,rfl,rfl,fun j hj r hr9=>?_⟩ (aU.refl _)
     rcases Nat.lt_or_eq_of_le (Nat.le_of_lt_succ hj) with h9 | rfl
     ·exact hk1 j h9 r hr9
     ·rw[List.getElem?_eq_getElem hk] at hr9; cases hr9; exact he
   ·have e9:decide ((k:Int) < (reps.length:Int))=false:=by simp; omega
    rw[e9]
    (repeat refine zzI ?_)
    refine hx2 _ _ _ _ (fun e=>by cases e) (d3 (cU ?_))
    exact hj3 k (by omega) hk1 (fun r hr9=>by rw[List.getElem?_eq_none (by omega)] at hr9; cases hr9) _ _ (by omega) f0 f2 f3 f4 f5 f6
  ·refine iE (by simp; omega) ?_
   refine hx _ _ _ _ (fun e=>by cases e) (d3 (cU ?_))
   have hi2:i=256:=by omega
   subst hi2
   unfold aAm
   have hl:=(ho.sl (ro:=ro)).len
   rw[i9] at hl
   have hmany:reps.length=many l:=by
    have:=congrArg List.length hreps
    rw[List.length_map,List.take_of_length_le (by rw[oA]; omega)] at this
    exact this
   show aA (bM (e 4)) _
   rw[e4]
   refine aB hl ?_
   show aA (aT 256 (e 3)) _
   rw[e3,hmany]
   (repeat refine zzI ?_)
   rw[aSM hN] at g2
   refine aB (cE g2 (by rw[rQ hN]; omega) rfl rfl) ?_
   rw[aMY _ hN]
   show aA _ fun t=>aA (bH 257 _ (e 2) t) fun h8=>aA (loadA ro h8 257 (e 2)) _
   rw[e2]
   show aA (loadA ro _ 257 (e 3)) _
   rw[e3]
   refine aS5 (l1:=lI (cls l) (many l)) (l2:=lI (List.replicate 256 0) 0) (id1:=nx+2) (id2:=nx) (n0:=nx) (e1:=cT) (f1:=(0,0)) (e2:=cT) (f2:=(0,0)) (h0:=h) ?_ ?_ (rQ hN) (rQ aJy) (aIs _ _) hf ?_ (Nat.le_refl _) ?_
   ·rw[T.get_upd_same]
   ·simp (disch:=first | omega | exact Int.natCast_nonneg _ | assumption) only [BB,B2,↓reduceIte,Nat.reduceLeDiff,Nat.reduceAdd,aW,aX,bA,a9,aZ,aY,g1]
   ·exact hs.new hf (by omega)
   ·exact hK _ (by omega)
 ·exact (((aU.refl h).new hf (Nat.le_refl _)).new hf (by omega)).new hf (by omega)
 ·exact ((hf.upd (m:=nx+6) (by omega) (by omega)).upd (Nat.le_refl _) (by omega)).upd (Nat.le_refl _) (by omega)
 ·simp (disch:=first | omega | exact Int.natCast_nonneg _ | assumption) only [BB,B2,↓reduceIte,Nat.reduceLeDiff,Nat.reduceAdd,aW,aX,bA,a9,aZ,aY,aKF]
 ·rw[T.get_upd_same]; rfl
set_option maxRecDepth 20000
set_option maxRecDepth 20000
set_option maxRecDepth 20000
set_option maxRecDepth 20000
end V
end Go.Proofs.YtjndkdmkecpllaaGreat
namespace Go.Proofs.YtjndkdmkecpllaaGreat
namespace V
attribute [local irreducible] aA bF aV dL eJ iM dE
theorem aU6 {m n:Nat} (hm:m < 2 ^ 256) (hn:n < 2 ^ 256) (h:∀ b,b < 256→m.testBit b=n.testBit b):m=n:=by
 apply Nat.eq_of_testBit_eq
 intro j
 by_cases hj:j < 256
 ·exact h j hj
 ·rw[Nat.testBit_lt_two_pow (Nat.lt_of_lt_of_le hm (Nat.pow_le_pow_right (by decide) (by omega))),Nat.testBit_lt_two_pow (Nat.lt_of_lt_of_le hn (Nat.pow_le_pow_right (by decide) (by omega)))]
theorem aTH {m n:Nat} (hm:m < 2 ^ 256) (hn:n < 2 ^ 256) (h:∀ i,i < 4→kJ m i=kJ n i):m=n:=by
 refine aU6 hm hn fun b hb=>?_
 have h1:=mB m (b / 64) (b % 64)
 have h2:=mB n (b / 64) (b % 64)
 rw[h (b / 64) (by omega),h2,Nat.div_add_mod] at h1
 have h3:b % 64 < 64:=Nat.mod_lt _ (by decide)
 simpa [h3] using h1.symm
section
variable {α β:Type} [DecidableEq α] [DecidableEq β]
theorem aJ1 {l:List α}{p:α} (h:p∈l):ix l p < (dd l).length:=List.idxOf_lt_length_iff.2 (aG6.2 h)
theorem aOM {l:List α}{p:α} (h:p∈l):(dd l)[ix l p]?=some p:=by
 have h1:=aJ1 h
 unfold ix pos at h1 ⊢
 rw[List.getElem?_eq_getElem h1,List.getElem_idxOf]
theorem aTb {l:List α}{p q:α} (hp:p∈l) (hq:q∈l) (h:ix l p=ix l q):p=q:=by
 have h1:=aOM hp
 rw[h,aOM hq] at h1
 exact (Option.some.inj h1).symm
theorem aNK {s:List α}{p:α} (h:s.Nodup):(xB s p).Nodup:=by
 unfold xB
 by_cases hp:p∈s
 ·rw[if_pos hp]; exact h
 ·rw[if_neg hp]
  rw[List.nodup_append]
  refine⟨h,by simp,?_⟩
  intro a ha b hb e
  simp at hb
  subst hb; subst e
  exact hp ha
theorem aRs (l:List α):(dd l).Nodup:=by
 have key:∀ (l s:List α),s.Nodup→(l.foldl xB s).Nodup:=by
  intro l
  induction l with
  | nil=>intro s h; exact h
  | cons p l ih=>intro s h; exact ih _ (aNK h)
 exact key l [] (by simp)
end
theorem aR9 {b:Nat}:b∈bs ↔ b < 256:=by unfold bs; exact List.mem_range
theorem aKE {l:List Nat}{b:Nat} (hb:b < 256):sig l b∈iB l:=List.mem_map_of_mem (aR9.2 hb)
theorem aJ7 (l:List Nat):many l≤256:=by have:=aIO (iB l); rw[oA] at this; exact this
theorem aQi {l:List Nat}{b:Nat} (hb:b < 256):ix (iB l) (sig l b) < many l:=aJ1 (aKE hb)
def aDT (many:Int) (p:PosD):Bool:=decide (p.s≠0)&&(decide (1≤p.lo)&&(decide (p.lo≤p.hi)&&(decide (p.hi≤4096)&&(decide (0≤p.rule)&&(decide (p.rule < 512)&&rz (-1) many p.next)))))
def dJ (g:GlD):Bool:=decide (g.p.length≤512)&&(rz (-1) g.p.length g.first&&g.p.all (aDT g.p.length))
theorem aDE {m n:Nat} (hm:m < 2 ^ 256) (hn:n < 2 ^ 256):dY [1,1,1,1] (gA m) (gA n)=some (decide (m=n)):=by
 have h:(gA m=gA n) ↔ m=n:=by
  constructor
  ·intro h
   refine aTH hm hn fun i hi=>?_
   have h1:=aDl (m:=m) hi
   rw[h,aDl hi] at h1
   have:=Option.some.inj h1
   simp only[Value.int.injEq,true_and] at this
   omega
  ·rintro rfl; rfl
 have h2:dY [1,1,1,1] (gA m) (gA n)=some (decide (((kJ m 0:Nat):Int)=(kJ n 0:Nat))&&(decide (((kJ m 1:Nat):Int)=(kJ n 1:Nat))&&(decide (((kJ m 2:Nat):Int)=(kJ n 2:Nat))&&(decide (((kJ m 3:Nat):Int)=(kJ n 3:Nat))&&true)))):=rfl
 rw[h2]
 congr 1
 by_cases e:m=n
 ·subst e; simp
 ·rw[decide_eq_false e]
  rw[← h] at e
  simp only[gA,List.cons.injEq,Value.int.injEq,true_and,and_true] at e
  simp only[Bool.and_true,← Bool.decide_and]
  exact decide_eq_false e
theorem aQt {m:Nat} (hm:m < 2 ^ 256):aH6 [1,1,1,1] .eql (.agg (gA m).toArray) (qV 0)=some (.bool (decide (m=0))):=by
 have e2:qV 0=.agg (gA 0).toArray:=rfl
 rw[e2]
 unfold aH6
 simp only[tl,aDE hm (show (0:Nat) < 2 ^ 256 by decide),Option.bind]
theorem aMu {m:Nat} (hm:m < 2 ^ 256) {K:Value→Prop} (h1:m=0→K (.bool true)) (h2:m≠0→K (.bool false)):aA (aH6 [1,1,1,1] .eql (.agg (gA m).toArray) (qV 0)) K:=by
 rw[aQt hm]
 by_cases h:m=0
 ·rw[decide_eq_true h]; exact aB rfl (h1 h)
 ·rw[decide_eq_false h]; exact aB rfl (h2 h)
theorem aIc:eE Tryz.prog 20 bR=some [1,1,1,1]:=by kernel_rfl
theorem aFy:cX Tryz.prog bR []=some (qV 0):=by kernel_rfl
theorem aOX {p:PosD}{nv:Value} (h:bV nv=true):(oF p nv).all bV=true:=by
 have:(oF p nv).all bV=(bV nv&&true):=rfl
 rw[this,h]; rfl
theorem aPq (p:PosD) (nv:Value):((oF p nv).drop 0).take 4=gA p.s:=rfl
set_option maxRecDepth 4000 in
theorem aCL {ro:Ro}{v:Value}{l:List Int}{many:Int} (hm:many≤1000000) {h:T Obj}{nx:Nat}{K:KV} (hv:ZI ro h v l) (hK:∀ nx',nx≤nx'→K (.bool (rz (-1) many l)) h nx'):aN Tryz.prog ro rV [v,.int .i64 many] h nx K:=by
 apply aHD
 unfold aFN
 generalize hR:rz (-1) many l=R at hK
 refine bD (fun j e h' nx'=>∃ (k:Nat) (last:Int),k+j=l.length∧nx≤nx'∧h'=h∧e 0=v∧e 1=.int .i64 many∧e 5=.int .i64 k∧(k:Int)≤last+1∧last≤1000000∧(k=0→last=-1)∧(∀ q,q+1=k→l[q]?=some last)∧rz last many (l.drop k)=R) ?_ (n:=l.length) ⟨0,-1,by omega,by omega,rfl,rfl,rfl,rfl,by omega,by omega,fun _=>rfl,fun q hq=>by omega,hR⟩
 rintro j e h' nx' ⟨k,last,hj,hnx,rfl,e0,e1,e5,hk1,hk2,hk0,hkp,hr⟩ Q' hq hx
 unfold aBA
 rw[e0,e1,e5]
 refine aB hv.len ?_
 refine cM (fun hk=>?_) (fun hk=>?_)
 ·have hk:k < l.length:=by omega
  have hxk:l[k]?=some l[k]:=List.getElem?_eq_getElem hk
  rw[cP hk,iA] at hr
  (repeat refine zzC ?_)
  refine aB (hv.ix _ hk) (aB (hv.load hk) ?_)
  generalize l[k]=x at hr hxk
  have hfin:∀ (e':dF) n,e' 4=.bool false→(¬ last < x∨¬ x < many)→nx≤n→Q' .ret e' h' n:=fun e' n h4 hc hn=>by
   refine hx _ _ _ _ (fun e=>by cases e) (kW ?_)
   rw[h4]
   refine⟨_,aU.refl _,kb hK ?_ hn⟩
   rw[← hr]
   rcases hc with hc | hc
   ·rw[decide_eq_false hc]; rfl
   ·rw[decide_eq_false hc]; simp
  have hok:∀ (e':dF) n,e' 0=v→e' 1=.int .i64 many→e' 5=.int .i64 ((k:Int)+1)→last < x→x < many→nx≤n→Q' .normal e' h' n:=fun e' n g0 g1 g5 hc1 hc2 hn=>by
   refine hq (j - 1) _ _ _ _ (by omega) ⟨k+1,x,by omega,hn,rfl,g0,g1,g5,by omega,by omega,fun h=>by omega,fun q hq=>?_,?_⟩ (aU.refl _)
   ·have:q=k:=by omega
    subst this; exact hxk
   ·rw[← hr,decide_eq_true hc1,decide_eq_true hc2]; rfl
  (first | refine cM (fun hb=>?_) (fun hb=>?_) | refine tE (fun hb=>?_) (fun hb=>?_) | refine jT (fun hb=>?_) (fun hb=>?_) | refine mY (fun hb=>?_) (fun hb=>?_) | refine i4 (fun hb=>?_) (fun hb=>?_) | refine lN (fun hb=>?_) (fun hb=>?_))
  ·(repeat refine zzC ?_)
   exact hfin _ _ rfl (.inl (by omega)) (by omega)
  ·(repeat refine zzC ?_)
   refine aB (hv.ix _ hk) ?_
   (repeat refine zzC ?_)
   refine aB (hv.load' hxk) ?_
   (repeat refine zzC ?_)
   (first | refine cM (fun hb=>?_) (fun hb=>?_) | refine tE (fun hb=>?_) (fun hb=>?_) | refine jT (fun hb=>?_) (fun hb=>?_) | refine mY (fun hb=>?_) (fun hb=>?_) | refine i4 (fun hb=>?_) (fun hb=>?_) | refine lN (fun hb=>?_) (fun hb=>?_))
   ·(repeat refine zzC ?_)
    exact hfin _ _ rfl (.inr (by omega)) (by omega)
   ·(repeat refine zzC ?_)
    (first | refine cM (fun hb=>?_) (fun hb=>?_) | refine tE (fun hb=>?_) (fun hb=>?_) | refine jT (fun hb=>?_) (fun hb=>?_) | refine mY (fun hb=>?_) (fun hb=>?_) | refine i4 (fun hb=>?_) (fun hb=>?_) | refine lN (fun hb=>?_) (fun hb=>?_))
    ·have h2:=hkp (k - 1) (by omega)
     have h3:=(List.getElem?_eq_some_iff.1 h2).1
     have h4:((k:Int) - 1).toNat=k - 1:=by omega
     (repeat refine zzC ?_)
     refine aB (hv.ixI _ (by omega) (by omega)) ?_
     rw[h4]
     (repeat refine zzC ?_)
     refine aB (hv.load' h2) ?_
     (repeat refine zzC ?_)
     refine aB (hv.ix _ hk) ?_
     (repeat refine zzC ?_)
     refine aB (hv.load' hxk) ?_
     (repeat refine zzC ?_)
     (first | refine cM (fun hb=>?_) (fun hb=>?_) | refine tE (fun hb=>?_) (fun hb=>?_) | refine jT (fun hb=>?_) (fun hb=>?_) | refine mY (fun hb=>?_) (fun hb=>?_) | refine i4 (fun hb=>?_) (fun hb=>?_) | refine lN (fun hb=>?_) (fun hb=>?_))
     ·(repeat refine zzC ?_)
      exact hfin _ _ rfl (.inl (by omega)) (by omega)
     ·(repeat refine zzC ?_)
      exact hok _ _ e0 e1 rfl (by omega) (by omega) (by omega)
    ·(repeat refine zzC ?_)
     exact hok _ _ e0 e1 rfl (by omega) (by omega) (by omega)
 ·(repeat refine zzC ?_)
  refine hx _ _ _ _ (fun e=>by cases e) (d3 (cU ?_))
  unfold vK
  rw[eO (by omega)] at hr
  exact⟨_,aU.refl _,kb hK hr.symm (by omega)⟩
theorem aUs:i8 Tryz.prog cJ=some (.agg (oF aBm (.slice none 0 0)).toArray):=by kernel_rfl
set_option maxRecDepth 4000 in
theorem aHs {ro:Ro}{v:Value}{g:GlD}{h:T Obj}{nx:Nat}{K:KV} (hf:Fr h nx) (hg:RG ro h v g) (hK:∀ nx',nx≤nx'→K (.bool (dJ g)) h nx'):aN Tryz.prog ro xM [v] h nx K:=by
 obtain⟨a,b,rfl,ha,hb⟩:=hg
 apply aHB
 unfold aFL
 refine aD ?_
 have hs1:aU h (h.upd nx (some (.cells (Value.cells (.agg #[a,b])) cF))):=(aU.refl h).new hf (Nat.le_refl _)
 have hf1:Fr (h.upd nx (some (.cells (Value.cells (.agg #[a,b])) cF))) (nx+1):=hf.upd (by omega) (by omega)
 have g1:(h.upd nx (some (.cells (Value.cells (.agg #[a,b])) cF))).get nx=some (.cells #[a,b] cF):=by rw[T.get_upd_same]; rfl
 generalize h.upd nx (some (.cells (Value.cells (.agg #[a,b])) cF))=h1 at hs1 hf1 g1
 have hK':∀ (c:Bool) n,dJ g=c→nx≤n→∃ h',aU h' h1∧K (.bool c) h' n:=fun c n e hn=>⟨h,hs1,kb hK e hn⟩
 unfold dJ at hK'
 have hl:=hb.len
 have hb1:=hb.sub hs1 (oU.sub hs1)
 (have zy:=And.intro g1 hl;repeat refine zzCz ?_)
 (first | refine cM (fun hb=>?_) (fun hb=>?_) | refine tE (fun hb=>?_) (fun hb=>?_) | refine jT (fun hb=>?_) (fun hb=>?_) | refine mY (fun hb=>?_) (fun hb=>?_) | refine i4 (fun hb=>?_) (fun hb=>?_) | refine lN (fun hb=>?_) (fun hb=>?_))
 ·(have zy:=And.intro g1 hl;repeat refine zzCz ?_)
  exact hK' _ _ (by rw[decide_eq_false (by omega)]; rfl) (by omega)
 ·(have zy:=And.intro g1 hl;repeat refine zzCz ?_)
  refine aCL (by omega) (ha.sub hs1) fun n hn=>?_
  cases hr:rz (-1) g.p.length g.first with
  | false =>
   (have zy:=And.intro g1 hl;repeat refine zzCz ?_)
   exact hK' _ _ (by rw[hr]; simp) (by omega)
  | true =>
   (have zy:=And.intro g1 hl;repeat refine zzCz ?_)
   rw[hr,decide_eq_true (by omega)] at hK'
   simp only[Bool.true_and] at hK'
   generalize hR:g.p.all (aDT g.p.length)=R at hK'
   refine bD (fun j e h' nx'=>∃ (k:Nat),k+j=g.p.length∧nx+1≤nx'∧h'=h1∧e 1=ptr nx∧e 3=.int .i64 k∧(g.p.drop k).all (aDT g.p.length)=R) ?_ (n:=g.p.length) ⟨0,by omega,by omega,rfl,rfl,rfl,hR⟩
   rintro j e h' nx' ⟨k,hj,hnx,rfl,e1,e3,hr2⟩ Q' hq hx
   unfold aAx
   rw[e1,e3]
   (have zy:=And.intro g1 hl;repeat refine zzCz ?_)
   refine cM (fun hk=>?_) (fun hk=>?_)
   ·have hk:k < g.p.length:=by omega
    rw[cP hk,List.all_cons] at hr2
    obtain⟨x,⟨nv,rfl,hn1,hn2⟩,hx2,hx3,hx4,hx5⟩:=hb1.at hk
    generalize g.p[k]=p at hr2 hx2 hx3 hx5 hn1 hn2
    (have zy:=And.intro g1 hl;repeat refine zzCz ?_)
    refine aB (hb1.ix _ hk) (aB hx3 (aB aUs (aD ?_)))
    refine aB (eF (l:=oF aBm (.slice none 0 0)) (vs:=oF p nv) (e:=cJ) (f:=(0,0)) (by rw[T.get_upd_same]; rfl) rfl rfl rfl (aOX hn1.ok)) ?_
    have hs2:aU h' ((h'.upd (nx'+10) (some (.cells (Value.cells (.agg (oF aBm (.slice none 0 0)).toArray)) cJ))).upd (nx'+10) (some (.cells (oF p nv).toArray cJ))):=((aU.refl h').new hf1 (by omega)).new hf1 (by omega)
    have hf2:Fr ((h'.upd (nx'+10) (some (.cells (Value.cells (.agg (oF aBm (.slice none 0 0)).toArray)) cJ))).upd (nx'+10) (some (.cells (oF p nv).toArray cJ))) (nx'+11):=((hf1.mono (show nx+1≤nx'+11 by omega)).upd (Nat.le_refl _) (by omega)).upd (Nat.le_refl _) (by omega)
    have g2:((h'.upd (nx'+10) (some (.cells (Value.cells (.agg (oF aBm (.slice none 0 0)).toArray)) cJ))).upd (nx'+10) (some (.cells (oF p nv).toArray cJ))).get (nx'+10)=some (.cells (oF p nv).toArray cJ):=by rw[T.get_upd_same]
    have g3:=hs2 _ _ g1
    generalize (h'.upd (nx'+10) (some (.cells (Value.cells (.agg (oF aBm (.slice none 0 0)).toArray)) cJ))).upd (nx'+10) (some (.cells (oF p nv).toArray cJ))=h2 at hs2 hf2 g2 g3
    have hfin:∀ (e':dF) n,e' 2=.bool false→aDT g.p.length p=false→nx≤n→Q' .ret e' h2 n:=fun e' n h4 hc hn=>by
     refine hx _ _ _ _ (fun e=>by cases e) (kW ?_)
     rw[h4]
     obtain⟨h9,q1,q2⟩:=hK' false n (by rw[← hr2,hc]; rfl) hn
     exact⟨h9,q1.trans hs2,q2⟩
    have hok:∀ (e':dF) n,e' 1=ptr nx→e' 3=.int .i64 ((k:Int)+1)→aDT g.p.length p=true→nx+1≤n→Q' .normal e' h2 n:=fun e' n q1 q3 hc hn=>by
     refine hq (j - 1) _ h' _ _ (by omega) ⟨k+1,by omega,hn,rfl,q1,q3,?_⟩ hs2
     rw[← hr2,hc,Bool.true_and]
    unfold aDT at hfin hok
    (have zy:=And.intro g2 (And.intro g3 @aPq);repeat refine zzCz ?_)
    refine aB aFy (aB aIc (aMu hn2 (fun h0=>?_) (fun h0=>?_)))
    ·(have zy:=And.intro g2 g3;repeat refine zzCz ?_)
     exact hfin _ _ rfl (by simp[h0]) (by omega)
    ·(have zy:=And.intro g2 g3;repeat refine zzCz ?_)
     iterate 5 ((first | refine cM (fun hb=>?_) (fun hb=>?_) | refine tE (fun hb=>?_) (fun hb=>?_) | refine jT (fun hb=>?_) (fun hb=>?_) | refine mY (fun hb=>?_) (fun hb=>?_) | refine i4 (fun hb=>?_) (fun hb=>?_) | refine lN (fun hb=>?_) (fun hb=>?_)); (focus ((have zy:=And.intro g2 g3;repeat refine zzCz ?_); refine hfin _ _ rfl ?_ (by omega); simp only[Bool.and_eq_false_iff,decide_eq_false_iff_not]; omega)); (have zy:=And.intro g2 (And.intro g3 hl);repeat refine zzCz ?_))
     (have zy:=And.intro g2 (And.intro g3 hl);repeat refine zzCz ?_)
     refine aCL (by omega) (hn1.sub hs2) fun n hn=>?_
     cases hr3:rz (-1) g.p.length p.next with
     | false =>
      (repeat refine zzC ?_)
      exact hfin _ _ rfl (by rw[hr3]; simp) (by omega)
     | true =>
      (repeat refine zzC ?_)
      refine hok _ _ e1 rfl ?_ (by omega)
      rw[hr3,decide_eq_true h0]
      repeat rw[decide_eq_true (by omega),Bool.true_and]
      rfl
   ·(repeat refine zzC ?_)
    refine hx _ _ _ _ (fun e=>by cases e) (d3 (cU ?_))
    unfold vH
    rw[eO (by omega)] at hr2
    exact hK' _ _ (by exact hr2.symm) (by omega)
def ctd (g:GlD) (q:Int):Bool:=decide (1 < (g.at q).hi)
def aHe (p:PosD):Bool:=decide (1 < p.hi)
def i7 (g:GlD) (q:Int):Int:=(((g.p.take q.toNat).filter aHe).length:Nat)
def dI (g:GlD) (l:List Int):List Int:=(l.filter (ctd g)).map (i7 g)
def gE (l:List PosD):List (Int × Int):=(l.filter aHe).map fun p=>(p.lo,p.hi)
def dU (l:List PosD):List Nat:=l.map (·.s)
def d4 (g:GlD):List Int→Int→List (Int × Int)
 | [],_=>[]
 | p::r,c=>if ctd g p then (p,c % 3)::d4 g r (c / 3) else (p,-1)::d4 g r c
def dG (g:GlD) (at_:Nat) (D:List (Int × Int)) (q:Int):Bool:=(decide (at_=0)&&g.first.contains q) || D.any fun d=>decide (d.2≠0)&&(g.at d.1).next.contains q
def eL (D:List (Int × Int)) (q:Int):Bool:=D.any fun d=>decide (d.1=q)&&(decide (d.2=0) || decide (d.2=2))
def rH (g:GlD) (best:Int):List (Int × Int)→Int
 | []=>best
 | d::r=>rH g (if decide (d.2≠0)&&((g.at d.1).last&&(decide (best < 0) || decide ((g.at d.1).rule < best))) then (g.at d.1).rule else best) r
def jF (g:GlD) (en st:Int→Bool) (b:Nat) (q:Int):Bool:=(g.at q).s.testBit b&&(en q || st q)
def fM (n:Nat):List Int:=(List.range n).map fun i:Nat=>(i:Int)
def lZ (g:GlD) (en st:Int→Bool) (b:Nat):List Int:=(fM g.p.length).filter (jF g en st b)
def opZ (en st:Int→Bool) (q:Int):Nat:=if st q then (if en q then 2 else 1) else 3
def pP (g:GlD) (en st:Int→Bool) (l:List Int):List Nat:=(l.filter (ctd g)).map (opZ en st)
def isL (l:List Int) (s:StateD):Bool:=decide (s.l=l)
def kN (g:GlD) (S:List StateD) (l:List Int):Int × Int × List StateD :=
 match S.findIdx? (isL l) with
 | some k=>(k,0,S)
 | none=>if 3 < (dI g l).length then (0,110,S) else if 256≤S.length then (0,3,S) else (S.length,0,S++[⟨l,dI g l,[],[]⟩])
def fX (g:GlD) (en st:Int→Bool) (b:Nat) (S:List StateD):MoveD × Int × List StateD :=
 match lZ g en st b with
 | []=>(⟨-1,[]⟩,0,S)
 | l=>(⟨(kN g S l).1,pP g en st l⟩,(kN g S l).2.1,(kN g S l).2.2)
def kH (g:GlD) (en st:Int→Bool):List Nat→List StateD→Int × List MoveD × List StateD
 | [],S=>(0,[],S)
 | b::r,S=>if (fX g en st b S).2.1=0 then ((kH g en st r (fX g en st b S).2.2).1,(fX g en st b S).1::(kH g en st r (fX g en st b S).2.2).2.1,(kH g en st r (fX g en st b S).2.2).2.2) else ((fX g en st b S).2.1,[],S)
def uA (rule:Int) (row:List MoveD) (s:StateD):StateD:=⟨s.l,s.r,s.rule++[rule],s.next++[row]⟩
def lAt (S:List StateD) (k:Nat):List Int:=(S.getD k noS).l
def uG (g:GlD) (B:List Nat) (k:Nat) (c:Int) (S:List StateD):Int × List StateD :=
 let D:=d4 g (lAt S k) c
 let R:=kH g (dG g k D) (eL D) B S
 if R.1=0 then (0,R.2.2.modify k (uA (rH g (-1) D) R.2.1)) else (R.1,S)
def kV (g:GlD) (B:List Nat) (k:Nat):Nat→Int→List StateD→Int × List StateD
 | 0,_,S=>(0,S)
 | n+1,c,S=>if (uG g B k c S).1=0 then kV g B k n (c+1) (uG g B k c S).2 else ((uG g B k c S).1,S)
def sD (g:GlD) (B:List Nat):Nat→Nat→List StateD→Int × List StateD
 | 0,_,S=>(0,S)
 | n+1,k,S=>if k < S.length then (if (kV g B k (eW (S.getD k noS).r.length).toNat 0 S).1=0 then sD g B n (k+1) (kV g B k (eW (S.getD k noS).r.length).toNat 0 S).2 else ((kV g B k (eW (S.getD k noS).r.length).toNat 0 S).1,S)) else (0,S)
theorem aWd:i8 Tryz.prog bS=some (.int .u8 0):=by kernel_rfl
theorem aTG:gG Tryz.prog cB=some (.slice bS):=by kernel_rfl
theorem aUg:∃ i,tin Tryz.prog bS=some i∧i.size=1∧i.bytes=1:=aBU (by kernel_rfl)
theorem aEC (g:GlD) (p:Int) (r:List Int) (c:Int):d4 g (p::r) c=if ctd g p then (p,c % 3)::d4 g r (c / 3) else (p,-1)::d4 g r c:=rfl
def aAX (h:T Obj) (lo:Nat) (x:List Value) (s:StateD):Prop:=∃ lv rv,x=[lv,rv,bU,bU]∧bL h lv 1 cI (fK s.l) lo∧bL h rv 1 cI (fK s.r) lo∧s.rule=[]∧s.next=[]
def oS (h:T Obj) (lo:Nat) (cs cs':List (List Value)) (S S':List StateD):Prop:=∃ ds T,cs'=cs++ds∧S'=S++T∧ds.length=T.length∧∀ (i:Nat) x s,ds[i]?=some x→T[i]?=some s→aAX h lo x s
theorem oS.refl {h:T Obj}{lo:Nat}{cs:List (List Value)}{S:List StateD}:oS h lo cs cs S S:=⟨[],[],by simp,by simp,rfl,fun i x s hx=>by simp at hx⟩
theorem aOh {ro:Ro}{h:T Obj}{v a b c d:Value}{nx n1 n2 lo:Nat}{l:List (List Value)}{K:Value × Option Obj→T Obj→Value × T Obj × Nat→Prop} (ha:bV a=true) (hb:bV b=true) (hc:bV c=true) (hd:bV d=true) (ho:bL h v 4 aR l lo) (hl:l.length≤1000000) (hf:Fr h nx) (hlo:lo≤nx) (hn1:nx≤n1) (hn2:n1 < n2)
  (hK:∀ h' w,bL h' w 4 aR (l++[[a,b,c,d]]) lo→w=.slice (some (own n2 4)) (l++[[a,b,c,d]]).length (l++[[a,b,c,d]]).length→Kp v h h'→Fr h' (n2+1)→K (.slice (some (own n1 4)) 1 1,some (.cells [a,b,c,d].toArray aR)) (h.upd n1 (some (.cells [a,b,c,d].toArray aR))) (w,h',n2+1)) :
  aA (bC Tryz.prog fL n1 1 [(0,.agg #[a,b,c,d])]) fun r=>eJ h n1 r.2 fun h'=>aA (bY Tryz.prog ro h' n2 #[fL,fL] [v,r.1]) (K r h'):=by
 obtain⟨i,g1,g2,g3⟩:=aIx
 exact pK (z:=4) (l:=l) (y:=[a,b,c,d]) (aEO _ _ _ _ _) rfl ho aHZ g1 g2 (by omega) oI rfl (by simp[ha,hb,hc,hd]) (by rw[g3]; unfold oB; omega) (by unfold oB; omega) hf hlo hn1 hn2 fun h' q1 q2 q3=>hK h' _ q1 rfl q2 q3
theorem aK7 (a b:Value) (ha:a.cells=#[a]) (hb:b.cells=#[b]):cX Tryz.prog aR [(0,a),(1,b)]=some (.agg #[a,b,bU,bU]):=by
 have hz:=oI
 have hp:(match gG Tryz.prog aR with | some (.struct fs)=>oE Tryz.prog fs.toList | _=>none)=some [(0,1),(1,1),(2,1),(3,1)]:=by kernel_rfl
 unfold cX
 rw[hz]
 simp only[Option.bind]
 cases hu:gG Tryz.prog aR with
 | none=>rw[hu] at hp; cases hp
 | some d =>
  rw[hu] at hp
  cases d<;>try (cases hp; done)
  rename_i fs
  simp only at hp ⊢
  rw[hp]
  simp only[nL,ha,hb]
  rfl
theorem iD {v:Value} (h:bV v=true):v.cells=#[v]:=by
 cases v<;>first | rfl | (cases h; done)
theorem aN1 (g:GlD) (l:List Int) (x:Int):dI g (l++[x])=if ctd g x then dI g l++[i7 g x] else dI g l:=by
 unfold dI
 rw[List.filter_append]
 cases h:ctd g x<;>simp[h]
theorem aTp (aid:Nat) (b:Int):bC Tryz.prog cB aid 1 [(0,.int .u8 b)]=some (.slice (some (own aid 1)) 1 1,some (.cells [Value.int .u8 b].toArray bS)):=by kernel_rfl
theorem aMb {ro:Ro}{h:T Obj}{v:Value}{nx n1 n2 lo:Nat}{l:List Nat}{b:Nat}{b':Int}{K:Value × Option Obj→T Obj→Value × T Obj × Nat→Prop} (hb':b'=(b:Int)) (ho:bL h v 1 bS (rK l) lo) (hl:l.length≤1000000) (hf:Fr h nx) (hlo:lo≤nx) (hn1:nx≤n1) (hn2:n1 < n2)
  (hK:∀ h' w,bL h' w 1 bS (rK (l++[b])) lo→w=.slice (some (own n2 1)) (l.length+1) (l.length+1)→Kp v h h'→Fr h' (n2+1)→K (.slice (some (own n1 1)) 1 1,some (.cells [Value.int .u8 (b:Int)].toArray bS)) (h.upd n1 (some (.cells [Value.int .u8 (b:Int)].toArray bS))) (w,h',n2+1)) :
  aA (bC Tryz.prog cB n1 1 [(0,.int .u8 b')]) fun r=>eJ h n1 r.2 fun h'=>aA (bY Tryz.prog ro h' n2 #[cB,cB] [v,r.1]) (K r h'):=by
 subst hb'
 obtain⟨i,g1,g2,g3⟩:=aUg
 have e:rK l++[[Value.int .u8 (b:Int)]]=rK (l++[b]):=by simp[rK]
 have el:=uZ l
 refine pK (z:=1) (l:=rK l) (y:=[.int .u8 (b:Int)]) (aTp _ _) rfl ho aTG g1 g2 (by omega) aWd rfl rfl (by rw[el,g3]; unfold oB; omega) (by rw[el]; unfold oB; omega) hf hlo hn1 hn2 fun h' q1 q2 q3=>?_
 rw[e] at q1 ⊢
 refine hK h' _ q1 ?_ q2 q3
 rw[uZ,List.length_append]; rfl
theorem aAX.updNe {h:T Obj}{lo i:Nat}{x:List Value}{s:StateD}{c:Array Value}{e':TypeId}{f:Nat × Nat}{o:Option Obj} (hn:aAX h lo x s) (hg:h.get i=some (.cells c e' f)) (he:e'≠cI):aAX (h.upd i o) lo x s:=by
 obtain⟨lv,rv,h1,h2,h3,h4⟩:=hn
 exact⟨lv,rv,h1,h2.updNe hg he,h3.updNe hg he,h4⟩
theorem oS.updNe {h:T Obj}{lo i:Nat}{cs cs':List (List Value)}{S S':List StateD}{c:Array Value}{e':TypeId}{f:Nat × Nat}{o:Option Obj} (hn:oS h lo cs cs' S S') (hg:h.get i=some (.cells c e' f)) (he:e'≠cI):oS (h.upd i o) lo cs cs' S S':=by
 obtain⟨ds,T,h1,h2,h3,h4⟩:=hn
 exact⟨ds,T,h1,h2,h3,fun i x s hx hs=>(h4 i x s hx hs).updNe hg he⟩
theorem tP (k:Nat):fM (k+1)=fM k++[(k:Int)]:=by simp[fM,List.range_succ]
theorem aEx {k:Nat}{x:Int} (h:x∈fM k):0≤x∧x < k:=by
 simp only[fM,List.mem_map,List.mem_range] at h
 obtain⟨i,h1,rfl⟩:=h
 omega
theorem wM (k:Nat):(fM k).length=k:=by simp[fM]
theorem aOa {m:Int}{x:Int} (hx:x < m):∀ {l:List Int}{a:Int},a < x→rz a m l=true→(∀ y∈l,y < x)→rz a m (l++[x])=true
 | [],a,ha,_,_=>by simp[rz,ha,hx]
 | y::r,a,ha,h,hl=>by
  simp only[rz,Bool.and_eq_true,decide_eq_true_eq] at h
  have:=aOa hx (hl y (by simp)) h.2.2 fun z hz=>hl z (by simp[hz])
  simp only[List.cons_append,rz,Bool.and_eq_true,decide_eq_true_eq]
  exact⟨h.1,h.2.1,this⟩
theorem aIr {m:Nat} (q:Int→Bool):∀ k,k≤m→rz (-1) m ((fM k).filter q)=true
 | 0,_=>rfl
 | k+1,hk=>by
  have ih:=aIr (m:=m) q k (by omega)
  rw[tP,List.filter_append]
  cases hq:q (k:Int) with
  | false=>rw[List.filter_cons_of_neg (by simp[hq])]; simpa using ih
  | true =>
   rw[List.filter_cons_of_pos (by simp[hq])]
   refine aOa (by omega) (by omega) ih fun y hy=>?_
   have:=aEx ((List.mem_filter.1 hy).1)
   omega
theorem aRR (g:GlD) (en st:Int→Bool) (b:Nat):rz (-1) g.p.length (lZ g en st b)=true:=aIr _ _ (Nat.le_refl _)
theorem aRQ (g:GlD) (en st:Int→Bool) (b:Nat):(lZ g en st b).length≤g.p.length:=by
 have:=List.length_filter_le (jF g en st b) (fM g.p.length)
 rw[wM] at this; exact this
theorem tY (g:GlD) (en st:Int→Bool) (l:List Int) (x:Int):pP g en st (l++[x])=if ctd g x then pP g en st l++[opZ en st x] else pP g en st l:=by
 unfold pP
 rw[List.filter_append]
 cases h:ctd g x<;>simp[h]
theorem aL8 (g:GlD) (en st:Int→Bool) (l:List Int):(pP g en st l).length≤l.length:=by
 unfold pP
 rw[List.length_map]
 exact List.length_filter_le _ _
theorem aK6:cX Tryz.prog bK [(0,.int .i64 (-1))]=some (.agg #[.int .i64 (-1),bU]):=by kernel_rfl
theorem aTL:i8 Tryz.prog cJ=some (.agg (oF aBm (.slice none 0 0)).toArray):=by kernel_rfl
theorem rI {g:GlD}{en st:Int→Bool}{b:Nat}{S:List StateD} (h:lZ g en st b=[]):fX g en st b S=(⟨-1,[]⟩,0,S):=by unfold fX; rw[h]
theorem uO {g:GlD}{en st:Int→Bool}{b:Nat}{S:List StateD} (h:lZ g en st b≠[]):fX g en st b S=(⟨(kN g S (lZ g en st b)).1,pP g en st (lZ g en st b)⟩,(kN g S (lZ g en st b)).2.1,(kN g S (lZ g en st b)).2.2):=by
 unfold fX
 generalize lZ g en st b=l at h
 cases l with
 | nil=>exact absurd rfl h
 | cons x r=>rfl
theorem aQ6 {g:GlD}{k:Nat} (hk:k < g.p.length):g.at (k:Int)=g.p[k]:=by
 unfold GlD.at
 rw[Int.toNat_natCast,List.getD_eq_getElem?_getD,List.getElem?_eq_getElem hk]; rfl
theorem aEH:∀ {cs:List (List Value)}{k j:Nat}{x:List Value} (w:Value),(∀ x∈cs,x.length=4)→cs[k]?=some x→j < 4→cs.flatten.set (k*4+j) w=(cs.set k (x.set j w)).flatten
 | [],k,j,x,w,_,hx,_=>by simp at hx
 | y::r,0,j,x,w,hz,hx,hj=>by
  simp at hx; subst hx
  have hy:=hz y (by simp)
  rw[Nat.zero_mul,Nat.zero_add,List.flatten_cons,List.set_append_left _ _ (by omega)]; rfl
 | y::r,k+1,j,x,w,hz,hx,hj=>by
  have hy:=hz y (by simp)
  have ih:=aEH (cs:=r) (k:=k) (j:=j) (x:=x) w (fun z hz'=>hz z (by simp[hz'])) (by simpa using hx) hj
  rw[List.flatten_cons,List.set_append_right _ _ (by omega),show (k+1)*4+j - y.length=k*4+j by omega,ih]; rfl
theorem aIV {cs:List (List Value)} (hz:∀ x∈cs,x.length=4):cs.flatten.length=cs.length*4:=(j6 hz).1
theorem aSm {cs:List (List Value)}{k:Nat}{y:List Value} (hz:∀ x∈cs,x.length=4) (hy:y.length=4):∀ x∈cs.set k y,x.length=4:=fun x hx=>by
 rcases List.mem_or_eq_of_mem_set hx with h | h
 ·exact hz x h
 ·rw[h]; exact hy
theorem aTo (aid:Nat) (a:Value) (ha:a.cells=#[a]):bC Tryz.prog eH aid 1 [(0,a)]=some (.slice (some (own aid 1)) 1 1,some (.cells [a].toArray bP)):=by
 have hu:gG Tryz.prog eH=some (.slice bP):=by kernel_rfl
 have hs:pD Tryz.prog bP=some 1:=by kernel_rfl
 have hz:aH5 Tryz.prog bP 1=some [bU]:=by kernel_rfl
 unfold bC
 simp only[hu,hs,hz,Option.bind_some]
 have hb:Nat.ble (1*1) 16777216=true:=by decide
 simp only[hb,nL,ha]
 rfl
theorem aTD:gG Tryz.prog eH=some (.slice bP):=by kernel_rfl
theorem aSy:∃ i,tin Tryz.prog bP=some i∧i.size=1∧i.bytes=24:=aBU (by kernel_rfl)
theorem aTN:i8 Tryz.prog bP=some bU:=by kernel_rfl
def wK (l:List Value):List (List Value):=l.map fun v=>[v]
theorem aEV (l:List Value):(wK l).length=l.length:=by simp[wK]
theorem aTU {ro:Ro}{h:T Obj}{v a:Value}{nx n1 n2 lo:Nat}{l:List Value}{K:Value × Option Obj→T Obj→Value × T Obj × Nat→Prop} (ha:bV a=true) (ho:bL h v 1 bP (wK l) lo) (hl:l.length≤1000000) (hf:Fr h nx) (hlo:lo≤nx) (hn1:nx≤n1) (hn2:n1 < n2)
  (hK:∀ h' w,bL h' w 1 bP (wK (l++[a])) lo→w=.slice (some (own n2 1)) (l.length+1) (l.length+1)→Kp v h h'→Fr h' (n2+1)→K (.slice (some (own n1 1)) 1 1,some (.cells [a].toArray bP)) (h.upd n1 (some (.cells [a].toArray bP))) (w,h',n2+1)) :
  aA (bC Tryz.prog eH n1 1 [(0,a)]) fun r=>eJ h n1 r.2 fun h'=>aA (bY Tryz.prog ro h' n2 #[eH,eH] [v,r.1]) (K r h'):=by
 obtain⟨i,g1,g2,g3⟩:=aSy
 have e:wK l++[[a]]=wK (l++[a]):=by simp[wK]
 have el:=aEV l
 refine pK (z:=1) (l:=wK l) (y:=[a]) (aTo _ _ (iD ha)) rfl ho aTD g1 g2 (by omega) aTN rfl (by simp[ha]) (by rw[el,g3]; unfold oB; omega) (by rw[el]; unfold oB; omega) hf hlo hn1 hn2 fun h' q1 q2 q3=>?_
 rw[e] at q1 ⊢
 refine hK h' _ q1 ?_ q2 q3
 rw[aEV,List.length_append]; rfl
theorem bL.lo {h:T Obj}{v:Value}{z lo lo' id len:Nat}{e:TypeId}{l:List (List Value)} (ho:bL h v z e l lo) (hv:v=.slice (some (own id z)) len len) (hid:lo'≤id):bL h v z e l lo':=by
 rcases ho with ⟨rfl,_⟩ | ⟨i,h1,rfl,h4,h5⟩
 ·cases hv
 ·refine .inr ⟨i,?_,rfl,h4,h5⟩
  have:i=id:=by
   simp only[Value.slice.injEq,Option.some.injEq,own,Addr.mk.injEq] at hv
   exact hv.1.1
  omega
theorem aPW {id z len cap k:Nat} (hk:k < len):cD z (.slice (some (own id z)) len cap) (.int .i64 (k:Int))=some (at_ id (k*z) 0):=by
 have hn:nV (.int .i64 (k:Int))=some k:=by simp[nV]
 have hb:Nat.blt k len=true:=by simp[Nat.blt]; omega
 unfold cD
 rw[hn]
 simp only[Option.bind_some,hb,own,Nat.beq_refl]
 simp[elt]
theorem aAX.ty {h h':T Obj}{lo:Nat}{x:List Value}{s:StateD} (hn:aAX h lo x s) (hk:dK cI h h'):aAX h' lo x s:=by
 obtain⟨lv,rv,h1,h2,h3,h4⟩:=hn
 exact⟨lv,rv,h1,h2.ty hk,h3.ty hk,h4⟩
theorem aAX.mono {h:T Obj}{lo lo':Nat}{x:List Value}{s:StateD} (hn:aAX h lo x s) (hl:lo'≤lo):aAX h lo' x s:=by
 obtain⟨lv,rv,h1,h2,h3,h4⟩:=hn
 exact⟨lv,rv,h1,h2.mono hl,h3.mono hl,h4⟩
theorem oS.ty {h h':T Obj}{lo:Nat}{cs cs':List (List Value)}{S S':List StateD} (hn:oS h lo cs cs' S S') (hk:dK cI h h'):oS h' lo cs cs' S S':=by
 obtain⟨ds,T,h1,h2,h3,h4⟩:=hn
 exact⟨ds,T,h1,h2,h3,fun i x s hx hs=>(h4 i x s hx hs).ty hk⟩
theorem oS.trans {h:T Obj}{lo lo':Nat}{cs cs' cs'':List (List Value)}{S S' S'':List StateD} (h1:oS h lo cs cs' S S') (h2:oS h lo' cs' cs'' S' S'') (hl:lo≤lo'):oS h lo cs cs'' S S'':=by
 obtain⟨ds,T,a1,a2,a3,a4⟩:=h1
 obtain⟨ds',T',b1,b2,b3,b4⟩:=h2
 refine⟨ds++ds',T++T',by rw[b1,a1,List.append_assoc],by rw[b2,a2,List.append_assoc],by simp[a3,b3],fun i x s hx hs=>?_⟩
 rcases Nat.lt_or_ge i ds.length with hi | hi
 ·rw[List.getElem?_append_left hi] at hx
  rw[List.getElem?_append_left (by omega)] at hs
  exact a4 i x s hx hs
 ·rw[List.getElem?_append_right hi] at hx
  rw[List.getElem?_append_right (by omega),← a3] at hs
  exact (b4 _ x s hx hs).mono hl
def xA (h:T Obj) (lo:Nat) (mcs:List (List Value)) (row:List MoveD):Prop:=mcs.length=row.length∧∀ (i:Nat) x m,mcs[i]?=some x→row[i]?=some m→∃ ov,x=[.int .i64 m.to,ov]∧bL h ov 1 bS (rK m.ops) lo
theorem xA.ty {h h':T Obj}{lo:Nat}{mcs:List (List Value)}{row:List MoveD} (hr:xA h lo mcs row) (hk:dK bS h h'):xA h' lo mcs row:=⟨hr.1,fun i x m hx hm=>by
 obtain⟨ov,h1,h2⟩:=hr.2 i x m hx hm
 exact⟨ov,h1,h2.ty hk⟩⟩
theorem tZ (g:GlD) (en st:Int→Bool) (b:Nat) (r:List Nat) (S:List StateD):kH g en st (b::r) S=if (fX g en st b S).2.1=0 then ((kH g en st r (fX g en st b S).2.2).1,(fX g en st b S).1::(kH g en st r (fX g en st b S).2.2).2.1,(kH g en st r (fX g en st b S).2.2).2.2) else ((fX g en st b S).2.1,[],S):=rfl
theorem aCm (g:GlD) (best:Int) (d:Int × Int) (r:List (Int × Int)):rH g best (d::r)=rH g (if decide (d.2≠0)&&((g.at d.1).last&&(decide (best < 0) || decide ((g.at d.1).rule < best))) then (g.at d.1).rule else best) r:=rfl
theorem i5 {g:GlD} (h:dJ g=true):g.p.length≤512∧rz (-1) g.p.length g.first=true∧∀ p∈g.p,aDT g.p.length p=true:=by
 unfold dJ at h
 simp only[Bool.and_eq_true,decide_eq_true_eq,List.all_eq_true] at h
 exact⟨h.1,h.2.1,h.2.2⟩
theorem yP {m:Int}{p:PosD} (h:aDT m p=true):1≤p.lo∧p.lo≤p.hi∧p.hi≤4096∧0≤p.rule∧p.rule < 512∧rz (-1) m p.next=true:=by
 unfold aDT at h
 simp only[Bool.and_eq_true,decide_eq_true_eq] at h
 exact⟨h.2.1,h.2.2.1,h.2.2.2.1,h.2.2.2.2.1,h.2.2.2.2.2.1,h.2.2.2.2.2.2⟩
theorem oS.mono {h:T Obj}{lo lo':Nat}{cs cs':List (List Value)}{S S':List StateD} (hg:oS h lo cs cs' S S') (hl:lo'≤lo):oS h lo' cs cs' S S':=by
 obtain⟨ds,T,h1,h2,h3,h4⟩:=hg
 exact⟨ds,T,h1,h2,h3,fun i x s hx hs=>(h4 i x s hx hs).mono hl⟩
theorem xA.mono {h:T Obj}{lo lo':Nat}{mcs:List (List Value)}{row:List MoveD} (hr:xA h lo mcs row) (hl:lo'≤lo):xA h lo' mcs row:=⟨hr.1,fun i x m hx hm=>by
 obtain⟨ov,h1,h2⟩:=hr.2 i x m hx hm
 exact⟨ov,h1,h2.mono hl⟩⟩
def SOk (g:GlD) (S:List StateD):Prop:=∀ s∈S,rz (-1) g.p.length s.l=true∧s.r=dI g s.l∧s.r.length≤3
theorem aRD {g:GlD}{S:List StateD}{l:List Int} (hS:SOk g S) (hl:rz (-1) g.p.length l=true):SOk g (kN g S l).2.2:=by
 unfold kN
 split
 ·exact hS
 ·split
  ·exact hS
  ·split
   ·exact hS
   ·intro s hs
    rcases List.mem_append.1 hs with hs | hs
    ·exact hS s hs
    ·simp at hs; subst hs
     exact⟨hl,rfl,by show (dI g l).length≤3; omega⟩
theorem aKz {g:GlD}{en st:Int→Bool}{b:Nat}{S:List StateD} (hS:SOk g S):SOk g (fX g en st b S).2.2:=by
 by_cases h:lZ g en st b=[]
 ·rw[rI h]; exact hS
 ·rw[uO h]; exact aRD hS (aRR _ _ _ _)
theorem aO7 {g:GlD}{en st:Int→Bool}:∀ {B:List Nat}{S:List StateD},SOk g S→SOk g (kH g en st B S).2.2
 | [],S,hS=>hS
 | b::r,S,hS=>by
  rw[tZ]
  split
  ·exact aO7 (aKz hS)
  ·exact hS
theorem aVh (en st:Int→Bool) (q:Int):opZ en st q < 256:=by
 unfold opZ
 split
 ·split<;>omega
 ·omega
theorem aPS {g:GlD} (hg:g.p.length≤512) {en st:Int→Bool}{b:Nat}{S:List StateD}:(∀ o∈(fX g en st b S).1.ops,o < 256)∧(fX g en st b S).1.ops.length≤512:=by
 by_cases h:lZ g en st b=[]
 ·rw[rI h]; exact⟨fun o ho=>(by cases ho),by simp⟩
 ·rw[uO h]
  refine⟨fun o ho=>?_,?_⟩
  ·have ho:o∈pP g en st (lZ g en st b):=ho
   unfold pP at ho
   obtain⟨q,_,rfl⟩:=List.mem_map.1 ho
   exact aVh _ _ _
  ·have h1:=aL8 g en st (lZ g en st b)
   have h2:=aRQ g en st b
   show (pP g en st (lZ g en st b)).length≤512
   omega
theorem aMM {g:GlD} (hg:g.p.length≤512) {en st:Int→Bool}:∀ {B:List Nat}{S:List StateD},(∀ m∈(kH g en st B S).2.1,(∀ o∈m.ops,o < 256)∧m.ops.length≤512)∧(kH g en st B S).2.1.length≤B.length
 | [],S=>⟨fun m hm=>(by cases hm),Nat.le_refl _⟩
 | b::r,S=>by
  rw[tZ]
  split
  ·obtain⟨h1,h2⟩:=aMM hg (en:=en) (st:=st) (B:=r) (S:=(fX g en st b S).2.2)
   refine⟨fun m hm=>?_,?_⟩
   ·rcases List.mem_cons.1 hm with rfl | hm
    ·exact aPS hg
    ·exact h1 m hm
   ·simp only[List.length_cons]; omega
  ·exact⟨fun m hm=>(by cases hm),Nat.zero_le _⟩
theorem aP9 {g:GlD}{S:List StateD} (hS:SOk g S) (k:Nat) (rule:Int) (row:List MoveD):SOk g (S.modify k (uA rule row)):=by
 intro s hs
 obtain⟨i,hi⟩:=List.mem_iff_getElem?.1 hs
 rw[List.getElem?_modify] at hi
 cases hq:S[i]? with
 | none=>rw[hq] at hi; cases hi
 | some t =>
  rw[hq] at hi
  have ht:=hS t (List.mem_of_getElem? hq)
  have hi:=Option.some.inj hi
  split at hi
  ·rw[← hi]; exact ht
  ·have hi:t=s:=hi
   rw[← hi]; exact ht
theorem mJ {S:List StateD}{f:StateD→StateD}{i k:Nat} (h:i≠k):(S.modify k f)[i]?=S[i]?:=by
 rw[List.getElem?_modify]
 cases S[i]? with
 | none=>rfl
 | some t=>show some (if k=i then f t else t)=some t; rw[if_neg (Ne.symm h)]
theorem iK {S:List StateD}{f:StateD→StateD}{k:Nat}:(S.modify k f)[k]?=(S[k]?).map f:=by
 rw[List.getElem?_modify]
 cases S[k]? with
 | none=>rfl
 | some t=>show some (if k=k then f t else t)=some (f t); rw[if_pos rfl]
theorem aVj {ro:Ro}{h:T Obj}{v:Value}{l:List Nat}{lo:Nat} (ho:bL h v 1 bS (rK l) lo) (hl:∀ o∈l,o < 256):gD ro h v 1 RU8 l:=⟨rK l,ho.sl,uZ l,fun i x d hx hd=>by
 unfold rK at hx
 rw[List.getElem?_map,hd] at hx
 exact⟨(Option.some.inj hx).symm,hl d (List.mem_of_getElem? hd)⟩⟩
theorem aW4 {ro:Ro}{h:T Obj}{v:Value}{lo:Nat}{mcs:List (List Value)}{row:List MoveD} (ho:bL h v 2 bK mcs lo) (hr:xA h lo mcs row) (hl:∀ m∈row,(∀ o∈m.ops,o < 256)∧m.ops.length≤512) (hb:row.length≤1000000):v8 ro h [v] row :=
 ⟨v,rfl,⟨mcs,ho.sl,hr.1,fun i x m hx hm=>by
  obtain⟨ov,h1,h2⟩:=hr.2 i x m hx hm
  obtain⟨h3,h4⟩:=hl m (List.mem_of_getElem? hm)
  exact⟨ov,h1,aVj h2 h3,by unfold aAP; omega⟩⟩,by unfold aAP; omega⟩
theorem aWS {ro:Ro}{h:T Obj}{x:List Value}{t:StateD}{lo:Nat} (hn:aAX h lo x t) (hr:t.r.length≤3):eR ro h x t:=by
 obtain⟨lv,rv,h1,h2,h3,h4,h5⟩:=hn
 refine⟨lv,rv,bU,bU,h1,h2.sl,h3.sl,?_,?_,by unfold aAP; omega⟩
 ·rw[h4]; exact Sl.nil
 ·rw[h5]; exact gD.nil
section
variable {ro:Ro}{g:GlD}{bid nid kid eid yid sid k:Nat}{av bv fv cv lv rv uv wv:Value}{c:List Nat}{n:Int}{S:List StateD}{cs:List (List Value)}{s:StateD}{ws:List Value}
theorem aGP (k:Nat) (f:StateD→StateD) (l:List Int) (hf:∀ s,isL l (f s)=isL l s):∀ (S:List StateD),(S.modify k f).findIdx? (isL l)=S.findIdx? (isL l):=by
 intro S
 induction S generalizing k with
 | nil=>cases k<;>simp
 | cons s S ih =>
  cases k with
  | zero=>rw[List.modify_zero_cons,List.findIdx?_cons,List.findIdx?_cons,hf]
  | succ k=>rw[List.modify_succ_cons,List.findIdx?_cons,List.findIdx?_cons,ih]
end
theorem aEo (g:GlD) (B:List Nat) (k m:Nat) (c:Int) (S:List StateD):kV g B k (m+1) c S=if (uG g B k c S).1=0 then kV g B k m (c+1) (uG g B k c S).2 else ((uG g B k c S).1,S):=rfl
theorem aDv (g:GlD) (B:List Nat) (m k:Nat) (S:List StateD):sD g B (m+1) k S=if k < S.length then (if (kV g B k (eW (S.getD k noS).r.length).toNat 0 S).1=0 then sD g B m (k+1) (kV g B k (eW (S.getD k noS).r.length).toNat 0 S).2 else ((kV g B k (eW (S.getD k noS).r.length).toNat 0 S).1,S)) else (0,S):=rfl
set_option maxRecDepth 20000
set_option maxRecDepth 20000
set_option maxRecDepth 20000
set_option maxRecDepth 20000
set_option maxRecDepth 20000
set_option maxRecDepth 20000
set_option maxRecDepth 20000
set_option maxRecDepth 20000
theorem aNd (c:List Nat) (m:Nat):aEc c m=mW c (m:Int):=rfl
set_option maxRecDepth 20000
set_option maxRecDepth 20000
theorem aTh {c:List Nat}{k i:Nat} (hi:i < 256):lb c k i=if c.getD i 0=k then i else lb c k (i+1):=by
 unfold lb
 rw[show 256 - i=(256 - (i+1))+1 by omega,List.range'_succ,List.find?_cons]
 by_cases h:c.getD i 0=k
 ·rw[if_pos h,decide_eq_true h]; rfl
 ·rw[if_neg h,decide_eq_false h]
set_option maxRecDepth 20000
theorem uE {l:List Nat}{b:Nat} (hb:b < 256):(cls l).getD b 0=ix (iB l) (sig l b):=by
 rw[List.getD_eq_getElem?_getD,aJQ hb]; rfl
theorem aVQ {l:List Nat}{a b:Nat} (ha:a < 256) (hb:b < 256):(cls l).getD a 0=(cls l).getD b 0 ↔ sig l a=sig l b:=by
 rw[uE ha,uE hb]
 constructor
 ·intro h
  exact aTb (aKE ha) (aKE hb) h
 ·intro h; rw[h]
theorem aKc {l:List Nat}{b:Nat} (hb:b < 256):(cls l).getD b 0 < many l:=by rw[uE hb]; exact aQi hb
theorem aOu {l:List Nat}:∀ x∈cls l,x < 256:=by
 intro x hx
 obtain⟨i,hi⟩:=List.mem_iff_getElem?.1 hx
 have hlt:=(List.getElem?_eq_some_iff.1 hi).1
 rw[y9] at hlt
 rw[aJQ hlt] at hi
 have:=aQi (l:=l) hlt
 have:=aJ7 l
 have:=Option.some.inj hi
 omega
theorem aTg {c:List Nat}{k b:Nat} (hb:b < 256) (hk:c.getD b 0=k):lb c k 0≤b∧c.getD (lb c k 0) 0=k∧∀ j,j < lb c k 0→c.getD j 0≠k:=by
 have key:∀ n i,i+n=256→i≤b→lb c k i≤b∧i≤lb c k i∧c.getD (lb c k i) 0=k∧∀ j,i≤j→j < lb c k i→c.getD j 0≠k:=by
  intro n
  induction n with
  | zero=>intro i h1 h2; omega
  | succ n ih =>
   intro i h1 h2
   rw[aTh (by omega)]
   by_cases h:c.getD i 0=k
   ·rw[if_pos h]; exact⟨h2,Nat.le_refl _,h,fun j h3 h4=>by omega⟩
   ·rw[if_neg h]
    have hib:i≠b:=fun e=>h (by rw[e]; exact hk)
    obtain⟨q1,q2,q3,q4⟩:=ih (i+1) (by omega) (by omega)
    refine⟨q1,by omega,q3,fun j h3 h4=>?_⟩
    rcases Nat.eq_or_lt_of_le h3 with e | e
    ·subst e; exact h
    ·exact q4 j e h4
 obtain⟨q1,_,q3,q4⟩:=key 256 0 (by omega) (by omega)
 exact⟨q1,q3,fun j hj=>q4 j (by omega) hj⟩
theorem aT0 {l:List Nat}{k:Nat} (hk:k < many l):∃ b,b < 256∧(cls l).getD b 0=k:=by
 have hm:(dd (iB l))[k]'hk∈iB l:=aG6.1 (List.getElem_mem hk)
 obtain⟨b,hb,e⟩:=List.mem_map.1 hm
 have hb:=aR9.1 hb
 refine⟨b,hb,?_⟩
 rw[uE hb,e]
 have h1:(dd (iB l))[k]?=some ((dd (iB l))[k]'hk):=List.getElem?_eq_getElem hk
 unfold ix
 refine aSQ h1 fun j hj h2=>?_
 have hn:=aRs (iB l)
 have hj2:=(List.getElem?_eq_some_iff.1 h2).1
 rw[List.getElem?_eq_getElem hj2] at h2
 exact List.pairwise_iff_getElem.1 hn j k hj2 hk hj (Option.some.inj h2)
theorem aV3 {l:List Nat}{k:Nat} (hk:k < many l):lb (cls l) k 0 < 256∧(cls l).getD (lb (cls l) k 0) 0=k∧∀ j,j < lb (cls l) k 0→(cls l).getD j 0≠k:=by
 obtain⟨b,hb,e⟩:=aT0 hk
 obtain⟨h1,h2,h3⟩:=aTg hb e
 exact⟨by omega,h2,h3⟩
theorem aJR {l:List Nat}{i:Nat} (hi:i < 256):(cls l).getD i 0≤(dd ((iB l).take i)).length:=by
 have hsl:i < (iB l).length:=by rw[oA]; exact hi
 have hse:(iB l)[i]=sig l i:=by have:=aDm (l:=l) hi; rw[List.getElem?_eq_getElem hsl] at this; exact Option.some.inj this
 have htake:(iB l).take (i+1)=(iB l).take i++[sig l i]:=by rw[List.take_succ_eq_append_getElem hsl,hse]
 have h2:=zK (l:=(iB l).take (i+1)) (m:=(iB l).drop (i+1)) (p:=sig l i) (by rw[htake]; simp)
 rw[List.take_append_drop] at h2
 rw[uE hi,h2]
 have h3:=aJ1 (l:=(iB l).take (i+1)) (p:=sig l i) (by rw[htake]; simp)
 have h4:(dd ((iB l).take (i+1))).length≤(dd ((iB l).take i)).length+1:=by rw[htake,yF]; exact aEi _ _
 omega
theorem aR6 (l:List Nat):0 < many l:=by
 have:=aKc (l:=l) (b:=0) (by omega)
 omega
theorem aGR (l:List Nat):lR (cls l) (many l:Int)=(List.range (many l)).map fun k=>lb (cls l) k 0:=by
 unfold lR
 have h1:=aR6 l
 have h2:=aJ7 l
 rw[if_neg (by omega)]; simp
theorem aVt (l:List Nat):∀ i,i≤256→rt (cls l) i=some (dd ((iB l).take i)).length:=by
 intro i
 induction i with
 | zero=>intro _; rfl
 | succ i ih =>
  intro hi
  simp only[rt,ih (by omega),Option.bind_some]
  have h1:=aJR (l:=l) (i:=i) (by omega)
  rw[if_neg (by omega)]
  have hsl:i < (iB l).length:=by rw[oA]; omega
  have hse:(iB l)[i]=sig l i:=by have:=aDm (l:=l) (b:=i) (by omega); rw[List.getElem?_eq_getElem hsl] at this; exact Option.some.inj this
  have htake:(iB l).take (i+1)=(iB l).take i++[sig l i]:=by rw[List.take_succ_eq_append_getElem hsl,hse]
  rw[htake,yF]
  by_cases hm:sig l i∈dd ((iB l).take i)
  ·have h2:(cls l).getD i 0 < (dd ((iB l).take i)).length:=by
    have h4:=zK (l:=(iB l).take i) (m:=(iB l).drop i) (p:=sig l i) (aG6.1 hm)
    rw[List.take_append_drop] at h4
    rw[uE (by omega),h4]
    exact aJ1 (aG6.1 hm)
   rw[if_neg (by omega)]
   unfold xB; rw[if_pos hm]
  ·have h2:(cls l).getD i 0=(dd ((iB l).take i)).length:=by
    have h4:=zK (l:=(iB l).take (i+1)) (m:=(iB l).drop (i+1)) (p:=sig l i) (by rw[htake]; simp)
    rw[List.take_append_drop] at h4
    rw[uE (by omega),h4,htake,aRP hm]
   rw[if_pos h2]
   unfold xB; rw[if_neg hm]; simp
theorem aQD (l:List Nat):s8 (cls l) (many l:Int)=true:=by
 unfold s8
 rw[aVt l 256 (Nat.le_refl _),List.take_of_length_le (by rw[oA]; omega)]
 simp[many]
theorem aTk (aid x:Nat):bC Tryz.prog lQ aid 1 [(0,qV x)]=some (.slice (some (own aid 4)) 1 1,some (.cells (gA x).toArray bR)):=by kernel_rfl
theorem aTE:gG Tryz.prog lQ=some (.slice bR):=by kernel_rfl
theorem aUd:∃ i,tin Tryz.prog bR=some i∧i.size=4∧i.bytes=32:=aBU (by kernel_rfl)
theorem aTS {ro:Ro}{h:T Obj}{v:Value}{nx n1 n2 lo:Nat}{l:List Nat}{m:Nat}{K:Value × Option Obj→T Obj→Value × T Obj × Nat→Prop} (ho:bL h v 4 bR (vV l) lo) (hl:l.length≤1000000) (hf:Fr h nx) (hlo:lo≤nx) (hn1:nx≤n1) (hn2:n1 < n2)
  (hK:∀ h' w,bL h' w 4 bR (vV (l++[m])) lo→Kp v h h'→Fr h' (n2+1)→K (.slice (some (own n1 4)) 1 1,some (.cells (gA m).toArray bR)) (h.upd n1 (some (.cells (gA m).toArray bR))) (w,h',n2+1)) :
  aA (bC Tryz.prog lQ n1 1 [(0,qV m)]) fun r=>eJ h n1 r.2 fun h'=>aA (bY Tryz.prog ro h' n2 #[lQ,lQ] [v,r.1]) (K r h'):=by
 obtain⟨i,g1,g2,g3⟩:=aUd
 have e:vV l++[gA m]=vV (l++[m]):=by simp[vV]
 have el:=aBc l
 refine pK (z:=4) (l:=vV l) (y:=gA m) (aTk _ _) rfl ho aTE g1 g2 (by omega) aOg rfl rfl (by rw[el,g3]; unfold oB; omega) (by rw[el]; unfold oB; omega) hf hlo hn1 hn2 fun h' q1 q2 q3=>?_
 rw[e] at q1 ⊢
 exact hK h' _ q1 q2 q3
theorem aTm (aid:Nat) (a b:Value):bC Tryz.prog gZ aid 1 [(0,.agg #[a,b])]=some (.slice (some (own aid 2)) 1 1,some (.cells [a,b].toArray eP)):=by kernel_rfl
theorem aOp (a b:Int):cX Tryz.prog eP [(0,.int .i64 a),(1,.int .i64 b)]=some (.agg #[.int .i64 a,.int .i64 b]):=by kernel_rfl
theorem aTF:gG Tryz.prog gZ=some (.slice eP):=by kernel_rfl
theorem aUe:∃ i,tin Tryz.prog eP=some i∧i.size=2∧i.bytes=16:=aBU (by kernel_rfl)
theorem aUt:i8 Tryz.prog eP=some (.agg #[.int .i64 0,.int .i64 0]):=by kernel_rfl
theorem aTT {ro:Ro}{h:T Obj}{v:Value}{nx n1 n2 lo:Nat}{l:List (Int × Int)}{a b:Int}{K:Value × Option Obj→T Obj→Value × T Obj × Nat→Prop} (ho:bL h v 2 eP (zA l) lo) (hl:l.length≤1000000) (hf:Fr h nx) (hlo:lo≤nx) (hn1:nx≤n1) (hn2:n1 < n2)
  (hK:∀ h' w,bL h' w 2 eP (zA (l++[(a,b)])) lo→Kp v h h'→Fr h' (n2+1)→K (.slice (some (own n1 2)) 1 1,some (.cells [Value.int .i64 a,Value.int .i64 b].toArray eP)) (h.upd n1 (some (.cells [Value.int .i64 a,Value.int .i64 b].toArray eP))) (w,h',n2+1)) :
  aA (bC Tryz.prog gZ n1 1 [(0,.agg #[.int .i64 a,.int .i64 b])]) fun r=>eJ h n1 r.2 fun h'=>aA (bY Tryz.prog ro h' n2 #[gZ,gZ] [v,r.1]) (K r h'):=by
 obtain⟨i,g1,g2,g3⟩:=aUe
 have e:zA l++[[Value.int .i64 a,Value.int .i64 b]]=zA (l++[(a,b)]):=by simp[zA]
 have el:=yC l
 refine pK (z:=2) (l:=zA l) (y:=[.int .i64 a,.int .i64 b]) (aTm _ _ _) rfl ho aTF g1 g2 (by omega) aUt rfl rfl (by rw[el,g3]; unfold oB; omega) (by rw[el]; unfold oB; omega) hf hlo hn1 hn2 fun h' q1 q2 q3=>?_
 rw[e] at q1 ⊢
 exact hK h' _ q1 q2 q3
theorem aMo (l:List PosD) (p:PosD):gE (l++[p])=if 1 < p.hi then gE l++[(p.lo,p.hi)] else gE l:=by
 unfold gE
 rw[List.filter_append]
 by_cases h:1 < p.hi
 ·rw[if_pos h,List.filter_cons_of_pos (by unfold aHe; exact decide_eq_true h)]; simp
 ·rw[if_neg h,List.filter_cons_of_neg (by unfold aHe; simpa using h)]; simp
theorem aEU {g:GlD} (k:Nat):i7 g (k:Int)=((gE (g.p.take k)).length:Nat):=by
 unfold i7 gE
 rw[Int.toNat_natCast,List.length_map]
theorem aEA (l:List PosD):(gE l).length≤l.length:=by
 unfold gE
 rw[List.length_map]; exact List.length_filter_le _ _
def ofB (g:GlD):List Nat:=lR (cls (dU g.p)) (many (dU g.p):Int)
def ofD (g:GlD) (S:List StateD):AutoD:=⟨cls (dU g.p),(many (dU g.p):Int),gE g.p,S⟩
def ofZ (g:GlD):Int × AutoD:=if dJ g=true then (if (sD g (ofB g) 256 0 [noS]).1=0 then (0,ofD g (sD g (ofB g) 256 0 [noS]).2) else ((sD g (ofB g) 256 0 [noS]).1,aKU)) else (1,aKU)
theorem aKV {ro:Ro}{h:T Obj}:qF ro h nB aKU:=⟨bU,bU,rfl,List.length_replicate,fun x hx=>by
 have:=List.eq_of_mem_replicate hx
 omega,gD.nil,gD.nil,Nat.zero_le _,Nat.zero_le _⟩
theorem aRF {c:List Nat}{n:Int}:∀ b∈lR c n,b < 256:=by
 intro b hb
 unfold lR at hb
 split at hb
 ·cases hb
 ·obtain⟨k,_,rfl⟩:=List.mem_map.1 hb
  unfold lb
  cases hq:(List.range' 0 (256 - 0)).find? fun b=>decide (c.getD b 0=k) with
  | none=>simp
  | some q =>
   have:=List.mem_of_find?_eq_some hq
   simp[List.mem_range'] at this
   simp; omega
structure Base (g:GlD) (S:List StateD):Prop where
 ok:SOk g S
 few:S.length≤256
 zero:∃ s,S[0]?=some s∧s.l=[]
 pos:∀ (i:Nat) s,0 < i→S[i]?=some s→s.l≠[]
 dist:∀ (i j:Nat) s t,S[i]?=some s→S[j]?=some t→s.l=t.l→i=j
def aKL (g:GlD) (en st:Int→Bool) (b:Nat) (S:List StateD) (m:MoveD):Prop :=
 (lZ g en st b=[]∧m.to=-1∧m.ops=[])∨(lZ g en st b≠[]∧∃ (k:Nat) (t:StateD),m.to=(k:Int)∧S[k]?=some t∧t.l=lZ g en st b∧m.ops=pP g en st (lZ g en st b))
def Ext (S S':List StateD):Prop:=∃ T,S'=S++T∧∀ t∈T,t.rule=[]∧t.next=[]
theorem Ext.refl (S:List StateD):Ext S S:=⟨[],by simp,fun t ht=>by cases ht⟩
theorem Ext.trans {a b c:List StateD} (h1:Ext a b) (h2:Ext b c):Ext a c:=by
 obtain⟨T,rfl,h3⟩:=h1
 obtain⟨U,rfl,h4⟩:=h2
 refine⟨T++U,by rw[List.append_assoc],fun t ht=>?_⟩
 rcases List.mem_append.1 ht with ht | ht
 ·exact h3 t ht
 ·exact h4 t ht
def qY (S S':List StateD):Prop:=∀ (i:Nat) s,S[i]?=some s→∃ s',S'[i]?=some s'∧s'.l=s.l
theorem qY.refl (S:List StateD):qY S S:=fun i s h=>⟨s,h,rfl⟩
theorem qY.trans {a b c:List StateD} (h1:qY a b) (h2:qY b c):qY a c:=fun i s h=>by
 obtain⟨s1,h3,h4⟩:=h1 i s h
 obtain⟨s2,h5,h6⟩:=h2 i s1 h3
 exact⟨s2,h5,h6.trans h4⟩
theorem Ext.grows {S S':List StateD} (h:Ext S S'):qY S S':=fun i s hs=>by
 obtain⟨T,rfl,_⟩:=h
 have:=(List.getElem?_eq_some_iff.1 hs).1
 exact⟨s,by rw[List.getElem?_append_left this]; exact hs,rfl⟩
theorem aKL.mono {g:GlD}{en st:Int→Bool}{b:Nat}{S S':List StateD}{m:MoveD} (h:aKL g en st b S m) (hg:qY S S'):aKL g en st b S' m:=by
 rcases h with h | ⟨h1,k,t,h2,h3,h4,h5⟩
 ·exact .inl h
 ·obtain⟨t',h6,h7⟩:=hg k t h3
  exact .inr ⟨h1,k,t',h2,h6,h7.trans h4,h5⟩
theorem aNA {g:GlD}{en st:Int→Bool}{b:Nat}{S:List StateD} (hb:Base g S) (h0:(fX g en st b S).2.1=0):Base g (fX g en st b S).2.2∧Ext S (fX g en st b S).2.2∧aKL g en st b (fX g en st b S).2.2 (fX g en st b S).1:=by
 by_cases hl:lZ g en st b=[]
 ·rw[rI hl]
  exact⟨hb,Ext.refl _,.inl ⟨hl,rfl,rfl⟩⟩
 ·have hrz:=aRR g en st b
  rw[uO hl] at h0 ⊢
  dsimp only at h0 ⊢
  generalize hlz:lZ g en st b=l at hl h0 hrz
  unfold kN at h0 ⊢
  cases hf:S.findIdx? (isL l) with
  | some k =>
   rw[hf] at h0
   obtain⟨hk,h1,_⟩:=List.findIdx?_eq_some_iff_getElem.1 hf
   have h1:(S[k]).l=l:=of_decide_eq_true h1
   exact⟨hb,Ext.refl _,.inr ⟨by rw[hlz]; exact hl,k,S[k],rfl,List.getElem?_eq_getElem hk,by rw[hlz]; exact h1,by rw[hlz]⟩⟩
  | none =>
   rw[hf] at h0
   dsimp only at h0 ⊢
   have hn:=List.findIdx?_eq_none_iff.1 hf
   by_cases h3:3 < (dI g l).length
   ·rw[if_pos h3] at h0; exact absurd h0 (by show ¬ (110:Int)=0; decide)
   ·rw[if_neg h3] at h0 ⊢
    by_cases h4:256≤S.length
    ·rw[if_pos h4] at h0; exact absurd h0 (by show ¬ (3:Int)=0; decide)
    ·rw[if_neg h4]
     have hne:∀ s∈S,s.l≠l:=fun s hs e=>by
      have:=hn s hs
      unfold isL at this
      exact absurd e (of_decide_eq_false this)
     have hget:∀ (i:Nat) s,(S++[(⟨l,dI g l,[],[]⟩:StateD)])[i]?=some s→(S[i]?=some s)∨(i=S.length∧s=⟨l,dI g l,[],[]⟩):=fun i s hs=>by
      rcases Nat.lt_or_ge i S.length with hi | hi
      ·rw[List.getElem?_append_left hi] at hs; exact .inl hs
      ·rw[List.getElem?_append_right hi] at hs
       generalize hq:i - S.length=q at hs
       cases q with
       | zero=>simp at hs; exact .inr ⟨by omega,hs.symm⟩
       | succ q=>simp at hs
     refine⟨⟨fun s hs=>?_,by simp; omega,?_,fun i s hi hs=>?_,fun i j s t hs ht he=>?_⟩,⟨[⟨l,dI g l,[],[]⟩],rfl,fun t ht=>?_⟩,.inr ⟨by rw[hlz]; exact hl,S.length,⟨l,dI g l,[],[]⟩,rfl,by simp,by rw[hlz],by rw[hlz]⟩⟩
     ·rcases List.mem_append.1 hs with hs | hs
      ·exact hb.ok s hs
      ·simp at hs; subst hs; exact⟨hrz,rfl,by show (dI g l).length≤3; omega⟩
     ·obtain⟨s,h5,h6⟩:=hb.zero
      exact⟨s,by rw[List.getElem?_append_left (List.getElem?_eq_some_iff.1 h5).1]; exact h5,h6⟩
     ·rcases hget i s hs with hs | ⟨_,rfl⟩
      ·exact hb.pos i s hi hs
      ·exact hl
     ·rcases hget i s hs with hs | ⟨hi,rfl⟩
      ·rcases hget j t ht with ht | ⟨hj,rfl⟩
       ·exact hb.dist i j s t hs ht he
       ·exact absurd he (hne s (List.mem_of_getElem? hs))
      ·rcases hget j t ht with ht | ⟨hj,rfl⟩
       ·exact absurd he.symm (hne t (List.mem_of_getElem? ht))
       ·omega
     ·simp at ht; subst ht; exact⟨rfl,rfl⟩
theorem aIn {g:GlD}{en st:Int→Bool}:∀ {B:List Nat}{S:List StateD},Base g S→(kH g en st B S).1=0→Base g (kH g en st B S).2.2∧Ext S (kH g en st B S).2.2∧(kH g en st B S).2.1.length=B.length∧∀ (j:Nat) b m,B[j]?=some b→(kH g en st B S).2.1[j]?=some m→aKL g en st b (kH g en st B S).2.2 m
 | [],S,hb,_=>⟨hb,Ext.refl _,rfl,fun j b m hj=>by simp at hj⟩
 | b::r,S,hb,h0=>by
  rw[tZ] at h0 ⊢
  by_cases h1:(fX g en st b S).2.1=0
  ·rw[if_pos h1] at h0 ⊢
   obtain⟨g1,g2,g3⟩:=aNA hb h1
   obtain⟨r1,r2,r3,r4⟩:=aIn (B:=r) g1 h0
   refine⟨r1,g2.trans r2,by simp[r3],fun j b' m hj hm=>?_⟩
   cases j with
   | zero=>simp at hj hm; subst hj; subst hm; exact g3.mono r2.grows
   | succ j=>exact r4 j b' m (by simpa using hj) (by simpa using hm)
  ·rw[if_neg h1] at h0; exact absurd h0 h1
def aA5 (k c i:Nat) (s:StateD):Nat:=if i < k then (eW (s.r.length:Int)).toNat else if i=k then c else 0
structure Made (g:GlD) (B:List Nat) (S:List StateD) (k c:Nat):Prop where
 base:Base g S
 cnt:∀ (i:Nat) s,S[i]?=some s→s.rule.length=aA5 k c i s∧s.next.length=aA5 k c i s
 rule:∀ (i:Nat) s (q:Nat) ru,S[i]?=some s→s.rule[q]?=some ru→ru=rH g (-1) (d4 g s.l q)
 next:∀ (i:Nat) s (q:Nat) row,S[i]?=some s→s.next[q]?=some row→row.length=B.length∧∀ (j:Nat) b m,B[j]?=some b→row[j]?=some m→aKL g (dG g i (d4 g s.l q)) (eL (d4 g s.l q)) b S m
theorem Base.modify {g:GlD}{S:List StateD} (hb:Base g S) (k:Nat) (rule:Int) (row:List MoveD):Base g (S.modify k (uA rule row))∧qY S (S.modify k (uA rule row)):=by
 have hget:∀ (i:Nat) s,(S.modify k (uA rule row))[i]?=some s→∃ t,S[i]?=some t∧t.l=s.l:=fun i s hs=>by
  by_cases hi:i=k
  ·subst hi
   rw[iK] at hs
   cases hq:S[i]? with
   | none=>rw[hq] at hs; cases hs
   | some t=>rw[hq] at hs; cases hs; exact⟨t,rfl,rfl⟩
  ·rw[mJ hi] at hs; exact⟨s,hs,rfl⟩
 have hgr:qY S (S.modify k (uA rule row)):=fun i s hs=>by
  by_cases hi:i=k
  ·subst hi; exact⟨uA rule row s,by rw[iK,hs]; rfl,rfl⟩
  ·exact⟨s,by rw[mJ hi]; exact hs,rfl⟩
 refine⟨⟨aP9 hb.ok _ _ _,by rw[List.length_modify]; exact hb.few,?_,fun i s hi hs=>?_,fun i j s t hs ht he=>?_⟩,hgr⟩
 ·obtain⟨s,h1,h2⟩:=hb.zero
  obtain⟨s',h3,h4⟩:=hgr 0 s h1
  exact⟨s',h3,h4.trans h2⟩
 ·obtain⟨t,h1,h2⟩:=hget i s hs
  rw[← h2]; exact hb.pos i t hi h1
 ·obtain⟨s1,h1,h2⟩:=hget i s hs
  obtain⟨t1,h3,h4⟩:=hget j t ht
  exact hb.dist i j s1 t1 h1 h3 (by rw[h2,h4,he])
theorem aMp {g:GlD}{B:List Nat}{S:List StateD}{k c:Nat} (hm:Made g B S k c) (hk:k < S.length) (h0:(uG g B k (c:Int) S).1=0):Made g B (uG g B k (c:Int) S).2 k (c+1)∧qY S (uG g B k (c:Int) S).2:=by
 obtain⟨s,hs⟩:∃ s,S[k]?=some s:=⟨_,List.getElem?_eq_getElem hk⟩
 have hlk:lAt S k=s.l:=by unfold lAt; rw[List.getD_eq_getElem?_getD,hs]; rfl
 have hcz:uG g B k (c:Int) S=if (kH g (dG g k (d4 g s.l c)) (eL (d4 g s.l c)) B S).1=0 then (0,(kH g (dG g k (d4 g s.l c)) (eL (d4 g s.l c)) B S).2.2.modify k (uA (rH g (-1) (d4 g s.l c)) (kH g (dG g k (d4 g s.l c)) (eL (d4 g s.l c)) B S).2.1)) else ((kH g (dG g k (d4 g s.l c)) (eL (d4 g s.l c)) B S).1,S):=by
  unfold uG; rw[hlk]
 rw[hcz] at h0 ⊢
 by_cases h1:(kH g (dG g k (d4 g s.l c)) (eL (d4 g s.l c)) B S).1=0
 ·rw[if_pos h1]
  obtain⟨r1,r2,r3,r4⟩:=aIn hm.base h1
  generalize kH g (dG g k (d4 g s.l c)) (eL (d4 g s.l c)) B S=Z at r1 r2 r3 r4
  dsimp only
  obtain⟨b1,b2⟩:=r1.modify k (rH g (-1) (d4 g s.l c)) Z.2.1
  have hgr:=r2.grows.trans b2
  obtain⟨T,hT,hT2⟩:=r2
  have hZk:Z.2.2[k]?=some s:=by rw[hT,List.getElem?_append_left hk]; exact hs
  have hget:∀ (i:Nat) t,(Z.2.2.modify k (uA (rH g (-1) (d4 g s.l c)) Z.2.1))[i]?=some t→(i=k∧t=uA (rH g (-1) (d4 g s.l c)) Z.2.1 s)∨(i≠k∧i < S.length∧S[i]?=some t)∨(S.length≤i∧t.rule=[]∧t.next=[]):=fun i t ht=>by
   by_cases hi:i=k
   ·subst hi
    rw[iK,hZk] at ht
    cases ht; exact .inl ⟨rfl,rfl⟩
   ·rw[mJ hi,hT] at ht
    rcases Nat.lt_or_ge i S.length with hil | hil
    ·rw[List.getElem?_append_left hil] at ht; exact .inr (.inl ⟨hi,hil,ht⟩)
    ·rw[List.getElem?_append_right hil] at ht
     exact .inr (.inr ⟨hil,hT2 t (List.mem_of_getElem? ht)⟩)
  refine⟨⟨b1,fun i t ht=>?_,fun i t q ru ht hq=>?_,fun i t q row ht hq=>?_⟩,hgr⟩
  ·rcases hget i t ht with ⟨rfl,rfl⟩ | ⟨h2,h3,h4⟩ | ⟨h2,h3,h4⟩
   ·have:=hm.cnt i s hs
    unfold aA5 at this ⊢
    rw[if_neg (by omega),if_pos rfl] at this ⊢
    show (s.rule++[_]).length=_∧(s.next++[_]).length=_
    simp[this.1,this.2]
   ·have:=hm.cnt i t h4
    unfold aA5 at this ⊢
    by_cases hik:i < k
    ·rw[if_pos hik] at this ⊢; exact this
    ·rw[if_neg hik,if_neg h2] at this ⊢; exact this
   ·unfold aA5
    rw[if_neg (by omega),if_neg (by omega),h3,h4]; exact⟨rfl,rfl⟩
  ·rcases hget i t ht with ⟨rfl,rfl⟩ | ⟨h2,h3,h4⟩ | ⟨h2,h3,h4⟩
   ·have hq:(s.rule++[rH g (-1) (d4 g s.l c)])[q]?=some ru:=hq
    have hc:=hm.cnt i s hs
    unfold aA5 at hc
    rw[if_neg (by omega),if_pos rfl] at hc
    rcases Nat.lt_or_ge q s.rule.length with hql | hql
    ·rw[List.getElem?_append_left hql] at hq; exact hm.rule i s q ru hs hq
    ·rw[List.getElem?_append_right hql] at hq
     have hqc:q=c:=by
      have:=(List.getElem?_eq_some_iff.1 hq).1
      simp at this; omega
     subst hqc
     rw[hc.1,Nat.sub_self] at hq
     simp at hq; exact hq.symm
   ·exact hm.rule i t q ru h4 hq
   ·rw[h3] at hq; simp at hq
  ·rcases hget i t ht with ⟨rfl,rfl⟩ | ⟨h2,h3,h4⟩ | ⟨h2,h3,h4⟩
   ·have hq2:(s.next++[Z.2.1])[q]?=some row:=hq
    have hc:=hm.cnt i s hs
    unfold aA5 at hc
    rw[if_neg (by omega),if_pos rfl] at hc
    rcases Nat.lt_or_ge q s.next.length with hql | hql
    ·rw[List.getElem?_append_left hql] at hq2
     obtain⟨n1,n2⟩:=hm.next i s q row hs hq2
     exact⟨n1,fun j b m hj hm9=>(n2 j b m hj hm9).mono hgr⟩
    ·rw[List.getElem?_append_right hql] at hq2
     have hqc:q=c:=by
      have:=(List.getElem?_eq_some_iff.1 hq2).1
      simp at this; omega
     subst hqc
     rw[hc.2,Nat.sub_self] at hq2
     simp at hq2; subst hq2
     exact⟨r3,fun j b m hj hm9=>(r4 j b m hj hm9).mono b2⟩
   ·obtain⟨n1,n2⟩:=hm.next i t q row h4 hq
    exact⟨n1,fun j b m hj hm9=>(n2 j b m hj hm9).mono hgr⟩
   ·rw[h4] at hq; simp at hq
 ·rw[if_neg h1] at h0; exact absurd h0 h1
theorem aA2 {g:GlD}{B:List Nat}{k:Nat}:∀ {n c:Nat}{S:List StateD},Made g B S k c→k < S.length→(kV g B k n (c:Int) S).1=0→Made g B (kV g B k n (c:Int) S).2 k (c+n)∧qY S (kV g B k n (c:Int) S).2
 | 0,c,S,hm,_,_=>⟨hm,qY.refl _⟩
 | n+1,c,S,hm,hk,h0=>by
  rw[aEo] at h0 ⊢
  by_cases h1:(uG g B k (c:Int) S).1=0
  ·rw[if_pos h1] at h0 ⊢
   obtain⟨c1,c2⟩:=aMp hm hk h1
   have hk2:k < (uG g B k (c:Int) S).2.length:=by
    obtain⟨s',h3,_⟩:=c2 k _ (List.getElem?_eq_getElem hk)
    exact (List.getElem?_eq_some_iff.1 h3).1
   obtain⟨d1,d2⟩:=aA2 (n:=n) (c:=c+1) c1 hk2 h0
   refine⟨?_,c2.trans d2⟩
   rw[show c+(n+1)=c+1+n by omega]; exact d1
  ·rw[if_neg h1] at h0; exact absurd h0 h1
theorem qY.len {S S':List StateD} (h:qY S S'):S.length≤S'.length:=by
 rcases Nat.lt_or_ge S'.length S.length with hl | hl
 ·obtain⟨s',h1,_⟩:=h S'.length _ (List.getElem?_eq_getElem hl)
  rw[List.getElem?_eq_none (Nat.le_refl _)] at h1; cases h1
 ·exact hl
theorem Made.next' {g:GlD}{B:List Nat}{S:List StateD}{k:Nat}{s:StateD} (hs:S[k]?=some s) (hm:Made g B S k (eW (s.r.length:Int)).toNat):Made g B S (k+1) 0:=by
 refine⟨hm.base,fun i t ht=>?_,hm.rule,hm.next⟩
 have:=hm.cnt i t ht
 unfold aA5 at this ⊢
 by_cases h1:i < k
 ·rw[if_pos h1] at this; rw[if_pos (by omega)]; exact this
 ·by_cases h2:i=k
  ·subst h2
   rw[if_neg h1,if_pos rfl] at this
   rw[if_pos (by omega)]
   rw[hs] at ht; cases ht; exact this
  ·rw[if_neg h1,if_neg h2] at this
   rw[if_neg (by omega)]
   by_cases h3:i=k+1
   ·rw[if_pos h3]; exact this
   ·rw[if_neg h3]; exact this
theorem aID {g:GlD}{B:List Nat}:∀ {n k:Nat}{S:List StateD},Made g B S k 0→k≤S.length→k+n=256→(sD g B n k S).1=0→Made g B (sD g B n k S).2 (sD g B n k S).2.length 0∧qY S (sD g B n k S).2
 | 0,k,S,hm,hk,hn,h0=>by
  have:k=S.length:=by have:=hm.base.few; omega
  exact⟨by rw[this] at hm; exact hm,qY.refl _⟩
 | n+1,k,S,hm,hk,hn,h0=>by
  rw[aDv] at h0 ⊢
  by_cases h1:k < S.length
  ·rw[if_pos h1] at h0 ⊢
   obtain⟨s,hs⟩:∃ s,S[k]?=some s:=⟨_,List.getElem?_eq_getElem h1⟩
   have hgd:S.getD k noS=s:=by rw[List.getD_eq_getElem?_getD,hs]; rfl
   rw[hgd] at h0 ⊢
   by_cases h2:(kV g B k (eW (s.r.length:Int)).toNat 0 S).1=0
   ·rw[if_pos h2] at h0 ⊢
    obtain⟨c1,c2⟩:=aA2 (c:=0) hm h1 h2
    have hz:((0:Nat):Int)=0:=rfl
    rw[hz,Nat.zero_add] at c1
    rw[hz] at c2
    obtain⟨s',h3,h4⟩:=c2 k s hs
    have hr:s'.r=s.r:=by
     rw[(hm.base.ok s (List.mem_of_getElem? hs)).2.1,(c1.base.ok s' (List.mem_of_getElem? h3)).2.1,h4]
    have c3:=Made.next' h3 (by rw[hr]; exact c1)
    obtain⟨d1,d2⟩:=aID (n:=n) c3 (by have:=(List.getElem?_eq_some_iff.1 h3).1; omega) (by omega) h0
    exact⟨d1,c2.trans d2⟩
   ·rw[if_neg h2] at h0; exact absurd h0 h2
  ·rw[if_neg h1]
   have:k=S.length:=by omega
   exact⟨by rw[this] at hm; exact hm,qY.refl _⟩
theorem aVD (g:GlD) (B:List Nat):Made g B [noS] 0 0:=by
 have h1:∀ (i:Nat) s,[noS][i]?=some s→i=0∧s=noS:=fun i s h=>by
  cases i with
  | zero=>simp at h; exact⟨rfl,h.symm⟩
  | succ i=>simp at h
 refine⟨⟨fun s hs=>?_,by simp,⟨noS,rfl,rfl⟩,fun i s hi hs=>?_,fun i j s t hs ht _=>?_⟩,fun i s hs=>?_,fun i s q ru hs hq=>?_,fun i s q row hs hq=>?_⟩
 ·simp at hs; subst hs; exact⟨rfl,rfl,Nat.zero_le _⟩
 ·have:=(h1 i s hs).1; omega
 ·rw[(h1 i s hs).1,(h1 j t ht).1]
 ·obtain⟨rfl,rfl⟩:=h1 i s hs; exact⟨rfl,rfl⟩
 ·obtain⟨rfl,rfl⟩:=h1 i s hs; simp[noS] at hq
 ·obtain⟨rfl,rfl⟩:=h1 i s hs; simp[noS] at hq
theorem aQ5 {g:GlD}{B:List Nat} (h0:(sD g B 256 0 [noS]).1=0):Made g B (sD g B 256 0 [noS]).2 (sD g B 256 0 [noS]).2.length 0:=(aID (aVD g B) (Nat.zero_le _) rfl h0).1
theorem Made.codes {g:GlD}{B:List Nat}{S:List StateD} (hm:Made g B S S.length 0) {i:Nat}{s:StateD} (hs:S[i]?=some s):s.rule.length=(eW (s.r.length:Int)).toNat∧s.next.length=(eW (s.r.length:Int)).toNat:=by
 have:=hm.cnt i s hs
 unfold aA5 at this
 rw[if_pos (List.getElem?_eq_some_iff.1 hs).1] at this
 exact this
theorem aSC {g:GlD} (h:(ofZ g).1=0):dJ g=true∧∃ S,(ofZ g).2=ofD g S∧Made g (ofB g) S S.length 0∧(sD g (ofB g) 256 0 [noS])=(0,S):=by
 unfold ofZ at h ⊢
 cases hr:dJ g with
 | false=>rw[hr,if_neg (by decide)] at h; exact absurd h (by show ¬ (1:Int)=0; decide)
 | true =>
  rw[hr,if_pos rfl] at h
  rw[if_pos rfl]
  by_cases hz:(sD g (ofB g) 256 0 [noS]).1=0
  ·rw[if_pos hz]
   exact⟨rfl,_,rfl,aQ5 hz,by rw[← hz]⟩
  ·rw[if_neg hz] at h; exact absurd h hz
theorem aMj (g:GlD) {b:Nat} (hb:b < 256):∃ k b',(cls (dU g.p))[b]?=some k∧k < many (dU g.p)∧(ofB g)[k]?=some b'∧b' < 256∧∀ en st,lZ g en st b'=lZ g en st b:=by
 have hc:=y9 (dU g.p)
 have hk:(cls (dU g.p)).getD b 0 < many (dU g.p):=aKc hb
 obtain⟨h1,h2,_⟩:=aV3 hk
 refine⟨(cls (dU g.p)).getD b 0,lb (cls (dU g.p)) ((cls (dU g.p)).getD b 0) 0,?_,hk,?_,h1,fun en st=>?_⟩
 ·rw[List.getD_eq_getElem?_getD,List.getElem?_eq_getElem (by omega)]; rfl
 ·unfold ofB
  rw[aGR,List.getElem?_map,List.getElem?_range hk]; rfl
 ·have hs:=(aVQ h1 hb).1 h2
  unfold lZ
  refine List.filter_congr fun q hq=>?_
  obtain⟨q1,q2⟩:=aEx hq
  unfold jF
  have:(g.at q).s.testBit (lb (cls (dU g.p)) ((cls (dU g.p)).getD b 0) 0)=(g.at q).s.testBit b:=by
   have hl:q.toNat < g.p.length:=by omega
   have e1:=congrArg (fun l=>l[q.toNat]?) hs
   simp only[sig,dU,List.map_map,List.getElem?_map,List.getElem?_eq_getElem hl,Option.map_some,Function.comp,Option.some.injEq] at e1
   unfold GlD.at
   rw[List.getD_eq_getElem?_getD,List.getElem?_eq_getElem hl]
   exact e1
  rw[this]
theorem aGd (g:GlD):(ofB g).length=many (dU g.p):=by
 unfold ofB
 rw[aGR,List.length_map,List.length_range]
theorem aMO:∀ {l:List Int}{a m m':Int},m≤m'→rz a m l=true→rz a m' l=true
 | [],_,_,_,_,_=>rfl
 | x::r,a,m,m',hm,h=>by
  simp only[rz,Bool.and_eq_true,decide_eq_true_eq] at h ⊢
  exact⟨h.1,by omega,aMO hm h.2.2⟩
theorem aDD {g:GlD}:∀ {l:List Int}{c:Int}{d:Int × Int},d∈d4 g l c→d.1∈l∧(d.2≠-1→ctd g d.1=true)
 | [],c,d,hd=>by cases hd
 | p::r,c,d,hd=>by
  rw[aEC] at hd
  split at hd
  ·rename_i hc
   rcases List.mem_cons.1 hd with rfl | hd
   ·exact⟨by simp,fun _=>hc⟩
   ·obtain⟨h1,h2⟩:=aDD hd
    exact⟨by simp[h1],h2⟩
  ·rcases List.mem_cons.1 hd with rfl | hd
   ·exact⟨by simp,fun h=>absurd rfl h⟩
   ·obtain⟨h1,h2⟩:=aDD hd
    exact⟨by simp[h1],h2⟩
theorem aDw {g:GlD}{q:Int} (h0:0≤q) (h1:q < g.p.length):g.at q∈g.p∧g.p[q.toNat]?=some (g.at q):=by
 have hl:q.toNat < g.p.length:=by omega
 have:g.at q=g.p[q.toNat]:=by
  unfold GlD.at
  rw[List.getD_eq_getElem?_getD,List.getElem?_eq_getElem hl]; rfl
 rw[this]
 exact⟨List.getElem_mem hl,List.getElem?_eq_getElem hl⟩
theorem aGc {g:GlD}{p q:Int} (hp:0≤p) (hpq:p < q) (hc:ctd g p=true) (hq:q≤g.p.length):i7 g p < i7 g q:=by
 unfold i7
 have hl:p.toNat < g.p.length:=by omega
 have hat:=(aDw (g:=g) (q:=p) hp (by omega)).2
 have h1:g.p.take (p.toNat+1)=g.p.take p.toNat++[g.at p]:=by
  rw[List.take_succ_eq_append_getElem hl]
  have:=List.getElem?_eq_getElem hl
  rw[hat] at this
  rw[Option.some.inj this]
 have h2:((g.p.take (p.toNat+1)).filter aHe).length=((g.p.take p.toNat).filter aHe).length+1:=by
  rw[h1,List.filter_append,List.length_append,List.filter_cons_of_pos (show aHe (g.at p)=true from hc)]; rfl
 have h3:((g.p.take (p.toNat+1)).filter aHe).length≤((g.p.take q.toNat).filter aHe).length:=by
  have e:g.p.take (p.toNat+1)=(g.p.take q.toNat).take (p.toNat+1):=by rw[List.take_take,Nat.min_eq_left (by omega)]
  rw[e]
  exact ((List.take_sublist _ _).filter _).length_le
 omega
theorem aGb {g:GlD}{q:Int} (h0:0≤q) (h1:q < g.p.length) (hc:ctd g q=true):i7 g q < ((gE g.p).length:Nat)∧0≤i7 g q:=by
 have:=aGc h0 (show q < (g.p.length:Int) from h1) hc (Int.le_refl _)
 have e:i7 g (g.p.length:Int)=((gE g.p).length:Nat):=by rw[aEU,List.take_length]
 refine⟨by omega,?_⟩
 unfold i7; omega
theorem aJx {g:GlD}:∀ {l:List Int}{a b:Int},rz a g.p.length l=true→-1≤a→(∀ q∈l,ctd g q=true→b < i7 g q)→rz b ((gE g.p).length:Nat) (dI g l)=true
 | [],a,b,_,_,_=>rfl
 | x::r,a,b,h,ha,hb=>by
  simp only[rz,Bool.and_eq_true,decide_eq_true_eq] at h
  unfold dI
  cases hc:ctd g x with
  | false =>
   rw[List.filter_cons_of_neg (by simp[hc])]
   exact aJx h.2.2 (by omega) fun q hq hcq=>hb q (by simp[hq]) hcq
  | true =>
   rw[List.filter_cons_of_pos hc,List.map_cons]
   have h1:=hb x (by simp) hc
   have h2:=aGb (by omega) h.2.1 hc
   simp only[rz,Bool.and_eq_true,decide_eq_true_eq]
   refine⟨h1,h2.1,aJx h.2.2 (by omega) fun q hq hcq=>?_⟩
   have:=dX h.2.2 q hq
   exact aGc (by omega) this.1 hc (by omega)
theorem aFR {g:GlD}:∀ {D:List (Int × Int)}{b:Int},(∀ d∈D,0≤(g.at d.1).rule∧(g.at d.1).rule < 512)→-1≤b∧b < 512→-1≤rH g b D∧rH g b D < 512
 | [],b,_,hb=>hb
 | d::r,b,h,hb=>by
  rw[aCm]
  refine aFR (fun d' hd'=>h d' (by simp[hd'])) ?_
  have:=h d (by simp)
  split<;>omega
theorem aGh {α:Type}{R:List Int} (f:α→Nat) (k:α→Int):∀ {L:List α},(∀ q∈L,aL4 R (f q) (k q)=true)→aBv R (L.map f) (L.map k)=true
 | [],_=>rfl
 | q::L,h=>by
  rw[List.map_cons,List.map_cons,aCf,h q (by simp),Bool.true_and]
  exact aGh f k fun x hx=>h x (by simp[hx])
theorem aIp {S:List StateD}{R:List Int}{many:Int}:∀ {rus:List Int}{rows:List (List MoveD)},(∀ (q:Nat) ru row,rus[q]?=some ru→rows[q]?=some row→aBO S R many ru row=true)→rO S R many rus rows=true
 | [],rows,_=>by cases rows<;>rfl
 | ru::rus,[],_=>rfl
 | ru::rus,row::rows,h=>by
  rw[sR,h 0 ru row rfl rfl,Bool.true_and]
  exact aIp fun q r w h1 h2=>h (q+1) r w (by simpa using h1) (by simpa using h2)
theorem aIM {m:Nat} (h:m≤3):eW (m:Int)≠0∧0≤eW (m:Int):=by
 have:m=0∨m=1∨m=2∨m=3:=by omega
 rcases this with rfl | rfl | rfl | rfl<;>exact⟨by decide,by decide⟩
theorem aWR {g:GlD}{S:List StateD} (hb:Base g S) {i:Nat}{s:StateD} (hs:S[i]?=some s) {c:Int}{b:Nat}{m:MoveD} (hm:aKL g (dG g i (d4 g s.l c)) (eL (d4 g s.l c)) b S m):kX S s.r m=true:=by
 unfold kX
 rcases hm with ⟨h1,h2,h3⟩ | ⟨h1,k,t,h2,h3,h4,h5⟩
 ·rw[if_pos h2,h3]; rfl
 ·rw[if_neg (by omega)]
  have hk0:k≠0:=by
   rintro rfl
   obtain⟨z,z1,z2⟩:=hb.zero
   rw[z1] at h3; cases h3
   exact h1 (by rw[← h4]; exact z2)
  have hkl:=(List.getElem?_eq_some_iff.1 h3).1
  have hgd:S.getD m.to.toNat noS=t:=by rw[h2,Int.toNat_natCast,List.getD_eq_getElem?_getD,h3]; rfl
  obtain⟨t1,t2,t3⟩:=hb.ok t (List.mem_of_getElem? h3)
  rw[hgd,t2,h4,h5,h2,decide_eq_true (by omega),decide_eq_true (by omega),Bool.true_and,Bool.true_and]
  have hlen:(pP g (dG g i (d4 g s.l c)) (eL (d4 g s.l c)) (lZ g (dG g i (d4 g s.l c)) (eL (d4 g s.l c)) b)).length=(dI g (lZ g (dG g i (d4 g s.l c)) (eL (d4 g s.l c)) b)).length:=by
   unfold pP dI
   rw[List.length_map,List.length_map]
  rw[decide_eq_true hlen,Bool.true_and]
  unfold pP dI
  refine aGh _ _ fun q hq=>?_
  obtain⟨hq1,hq2⟩:=List.mem_filter.1 hq
  unfold aL4 opZ
  cases hst:eL (d4 g s.l c) q with
  | false=>rfl
  | true =>
   have hR:s.r.contains (i7 g q)=true:=by
    unfold eL at hst
    obtain⟨d,hd,he⟩:=List.any_eq_true.1 hst
    simp only[Bool.and_eq_true,decide_eq_true_eq] at he
    have hdl:=(aDD hd).1
    rw[he.1] at hdl
    rw[(hb.ok s (List.mem_of_getElem? hs)).2.1]
    unfold dI
    simp only[List.contains_eq_mem,decide_eq_true_eq,List.mem_map,List.mem_filter]
    exact⟨q,⟨hdl,hq2⟩,rfl⟩
   rw[hR]
   cases dG g i (d4 g s.l c) q<;>rfl
theorem aS9 {g:GlD} (h0:(ofZ g).1=0):gU (ofZ g).2=true:=by
 obtain⟨hr,S,hS,hm,_⟩:=aSC h0
 obtain⟨hgl,hfr,hmay⟩:=i5 hr
 rw[hS]
 unfold gU ofD
 dsimp only
 obtain⟨z,z1,z2⟩:=hm.base.zero
 have hz0:=(List.getElem?_eq_some_iff.1 z1).1
 have hcl:=aEA g.p
 have hfirst:aB4 S=true:=by
  unfold aB4
  have:S.getD 0 noS=z:=by rw[List.getD_eq_getElem?_getD,z1]; rfl
  rw[this,(hm.base.ok z (List.mem_of_getElem? z1)).2.1,z2]; rfl
 have hcnt:(gE g.p).all tK=true:=by
  rw[List.all_eq_true]
  intro p hp
  unfold gE at hp
  obtain⟨x,hx,rfl⟩:=List.mem_map.1 hp
  obtain⟨hx1,hx2⟩:=List.mem_filter.1 hx
  have hx2:1 < x.hi:=of_decide_eq_true hx2
  obtain⟨m1,m2,m3,_⟩:=yP (hmay x hx1)
  unfold tK
  simp only[Bool.and_eq_true,decide_eq_true_eq]
  exact⟨m1,m2,by omega,m3⟩
 have hst:S.all (kI S (many (dU g.p):Int) (gE g.p).length)=true:=by
  rw[List.all_eq_true]
  intro s hs
  obtain⟨i,hi⟩:=List.mem_iff_getElem?.1 hs
  obtain⟨o1,o2,o3⟩:=hm.base.ok s hs
  obtain⟨c1,c2⟩:=hm.codes hi
  obtain⟨p1,p2⟩:=aIM o3
  unfold kI
  simp only[Bool.and_eq_true,decide_eq_true_eq]
  refine⟨p1,by omega,by omega,aMO (by omega) o1,?_,aIp fun q ru row h1 h2=>?_⟩
  ·rw[o2]
   refine aJx o1 (Int.le_refl _) fun q hq hc=>?_
   unfold i7; omega
  ·have hru:=hm.rule i s q ru hi h1
   obtain⟨n1,n2⟩:=hm.next i s q row hi h2
   have hrg:=aFR (g:=g) (D:=d4 g s.l q) (b:=-1) (fun d hd=>by
    have:=dX o1 _ (aDD hd).1
    obtain⟨_,_,_,m4,m5,_⟩:=yP (hmay _ (aDw (by omega) this.2).1)
    exact⟨m4,m5⟩) ⟨by omega,by omega⟩
   unfold aBO
   simp only[Bool.and_eq_true,decide_eq_true_eq,List.all_eq_true]
   refine⟨by omega,by omega,by rw[n1,aGd],fun m hmr=>?_⟩
   obtain⟨j,hj⟩:=List.mem_iff_getElem?.1 hmr
   have hjl:=(List.getElem?_eq_some_iff.1 hj).1
   exact aWR hm.base hi (n2 j _ m (List.getElem?_eq_getElem (by omega)) hj)
 rw[aQD,decide_eq_true (show (gE g.p).length≤512 by omega),decide_eq_true (show 1≤S.length by omega),decide_eq_true hm.base.few,hfirst,hcnt,hst]
 rfl
section
variable {g:GlD}
end
def pV (g:GlD) (q:Int):Int:=if ctd g q then i7 g q else -1
def aCe (g:GlD):List Int:=(fM g.p.length).map (pV g)
theorem aRv (g:GlD):(aCe g).length=g.p.length:=by unfold aCe; rw[List.length_map,wM]
theorem aRu {g:GlD}{k:Nat} (hk:k < g.p.length):(aCe g)[k]?=some (pV g (k:Int)):=by
 unfold aCe fM
 rw[List.getElem?_map,List.getElem?_map,List.getElem?_range hk]; rfl
def aPE:List Int→Int→Int→Int
 | [],_,_=>-1
 | r::R,c,n=>if r=n then c % 3 else aPE R (c / 3) n
theorem aB2 (r:Int) (R:List Int) (c n:Int):aPE (r::R) c n=if r=n then c % 3 else aPE R (c / 3) n:=rfl
theorem aIP:∀ {R:List Int}{c n:Int},(∀ r∈R,r≠n)→aPE R c n=-1
 | [],_,_,_=>rfl
 | r::R,c,n,h=>by
  rw[aB2,if_neg (h r (by simp))]
  exact aIP fun x hx=>h x (by simp[hx])
def jS (g:GlD) (l:List Int) (c p:Int):Int:=aPE (dI g l) c (pV g p)
theorem aB7 (g:GlD) (q:Int):0≤i7 g q:=by unfold i7; omega
theorem aS1 {g:GlD}{l:List Int}:∀ r∈dI g l,0≤r:=by
 intro r hr
 unfold dI at hr
 obtain⟨q,_,rfl⟩:=List.mem_map.1 hr
 exact aB7 g q
theorem rN (g:GlD) (p:Int) (r:List Int):dI g (p::r)=if ctd g p then i7 g p::dI g r else dI g r:=by
 unfold dI
 cases h:ctd g p with
 | true=>rw[List.filter_cons_of_pos h]; rfl
 | false=>rw[List.filter_cons_of_neg (by simp[h])]; rfl
theorem aGG {g:GlD}:∀ {l:List Int}{a c:Int},rz a g.p.length l=true→-1≤a→d4 g l c=l.map fun p=>(p,jS g l c p)
 | [],_,_,_,_=>rfl
 | p::r,a,c,h,ha=>by
  simp only[rz,Bool.and_eq_true,decide_eq_true_eq] at h
  rw[aEC,List.map_cons]
  cases hc:ctd g p with
  | true =>
   rw[if_pos rfl,aGG (a:=p) (c:=c / 3) h.2.2 (by omega)]
   have e1:jS g (p::r) c p=c % 3:=by
    unfold jS pV
    rw[rN,if_pos hc,if_pos hc,aB2,if_pos rfl]
   have e2:r.map (fun q=>(q,jS g r (c / 3) q))=r.map fun q=>(q,jS g (p::r) c q):=by
    refine List.map_congr_left fun q hq=>?_
    have hq2:=dX h.2.2 q hq
    unfold jS
    rw[rN,if_pos hc,aB2,if_neg]
    unfold pV
    split
    ·have:=aGc (g:=g) (p:=p) (q:=q) (by omega) hq2.1 hc (by omega)
     omega
    ·have:=aB7 g p
     omega
   rw[e1,e2]
  | false =>
   rw[if_neg (by decide),aGG (a:=p) (c:=c) h.2.2 (by omega)]
   have e1:jS g (p::r) c p=-1:=by
    unfold jS pV
    rw[hc,if_neg (by decide)]
    exact aIP fun x hx=>by have:=aS1 x hx; omega
   have e2:r.map (fun q=>(q,jS g r c q))=r.map fun q=>(q,jS g (p::r) c q):=by
    refine List.map_congr_left fun q hq=>?_
    unfold jS
    rw[rN,hc,if_neg (by decide)]
   rw[e1,e2]
theorem rz1 {g:GlD}{l:List Int}{c:Int} (h:rz (-1) g.p.length l=true):d4 g l c=l.map fun p=>(p,jS g l c p):=aGG h (Int.le_refl _)
def aVT (g:GlD) (l m:List Int) (c q:Int):Bool:=m.any fun p=>decide (jS g l c p≠0)&&(g.at p).next.contains q
def aIu (g:GlD) (l:List Int) (c q:Int):Bool:=l.contains q&&(decide (jS g l c q=0) || decide (jS g l c q=2))
def aFQ (g:GlD) (l:List Int) (c:Int):Int→List Int→Int
 | best,[]=>best
 | best,p::r=>aFQ g l c (if decide (jS g l c p≠0)&&((g.at p).last&&(decide (best < 0) || decide ((g.at p).rule < best))) then (g.at p).rule else best) r
theorem aMN {g:GlD}{l:List Int}{c:Int}:∀ {m:List Int}{b:Int},rH g b (m.map fun p=>(p,jS g l c p))=aFQ g l c b m
 | [],_=>rfl
 | p::r,b=>by
  rw[List.map_cons,aCm]
  exact aMN
theorem aVU {g:GlD}{l:List Int}{c q:Int}{at_:Nat} (h:rz (-1) g.p.length l=true) (h0:at_≠0):dG g at_ (d4 g l c) q=aVT g l l c q:=by
 unfold dG aVT
 rw[rz1 h,List.any_map,decide_eq_false h0,Bool.false_and,Bool.false_or]; rfl
theorem aT6 {g:GlD}{c q:Int}:dG g 0 (d4 g [] c) q=g.first.contains q:=by
 unfold dG d4
 simp
theorem aUa {g:GlD}{l:List Int}{c q:Int} (h:rz (-1) g.p.length l=true):eL (d4 g l c) q=aIu g l c q:=by
 unfold eL aIu
 rw[rz1 h,List.any_map]
 rw[Bool.eq_iff_iff]
 simp only[List.any_eq_true,Function.comp,Bool.and_eq_true,Bool.or_eq_true,decide_eq_true_eq,List.contains_eq_mem]
 constructor
 ·rintro⟨p,hp,rfl,hd⟩
  exact⟨hp,hd⟩
 ·rintro⟨hp,hd⟩
  exact⟨q,hp,rfl,hd⟩
theorem aU2 {g:GlD}{l:List Int}{c:Int} (h:rz (-1) g.p.length l=true):rH g (-1) (d4 g l c)=aFQ g l c (-1) l:=by
 rw[rz1 h,aMN]
def oL (av bv nv:Value) (c:List Nat) (n:Int) (cv sv ev:Value):List Value:=av::bv::nv::(eK c n cv sv++[ev])
section
variable {av bv nv:Value}{c:List Nat}{n:Int}{cv sv ev:Value}
theorem zR (hc:c.length=256):(oL av bv nv c n cv sv ev).length=263:=by simp[oL,cV hc]
theorem aW3:(oL av bv nv c n cv sv ev)[0]?=some av:=rfl
theorem aSY:(oL av bv nv c n cv sv ev)[1]?=some bv:=rfl
theorem aO3:(oL av bv nv c n cv sv ev)[2]?=some nv:=rfl
theorem aJm {i:Nat} (hc:c.length=256) (hi:i < 259):(oL av bv nv c n cv sv ev)[i+3]?=(eK c n cv sv)[i]?:=by
 show (eK c n cv sv++[ev])[i]?=_
 rw[List.getElem?_append_left (by rw[cV hc]; exact hi)]
theorem aUS (hc:c.length=256):(oL av bv nv c n cv sv ev)[259]?=some (.int .i64 n):=by rw[show 259=256+3 from rfl,aJm hc (by omega),aIF hc]
theorem aO4 (hc:c.length=256):(oL av bv nv c n cv sv ev)[260]?=some cv:=by rw[show 260=257+3 from rfl,aJm hc (by omega),pQ hc]
theorem zQ (hc:c.length=256):(oL av bv nv c n cv sv ev)[261]?=some sv:=by rw[show 261=258+3 from rfl,aJm hc (by omega),nF hc]
theorem aO5 (hc:c.length=256):(oL av bv nv c n cv sv ev)[262]?=some ev:=by
 show (eK c n cv sv++[ev])[259]?=_
 rw[List.getElem?_append_right (by rw[cV hc]; omega),cV hc]; rfl
theorem aLn (v:Value):(oL av bv nv c n cv sv ev).set 2 v=oL av bv v c n cv sv ev:=rfl
theorem aNW (hc:c.length=256) (v:Value):(oL av bv nv c n cv sv ev).set 260 v=oL av bv nv c n v sv ev:=by
 show av::bv::nv::((eK c n cv sv++[ev]).set 257 v)=_
 rw[List.set_append_left _ _ (by rw[cV hc]; omega),aEj hc]; rfl
theorem aGm (hc:c.length=256) (v:Value):(oL av bv nv c n cv sv ev).set 261 v=oL av bv nv c n cv v ev:=by
 show av::bv::nv::((eK c n cv sv++[ev]).set 258 v)=_
 rw[List.set_append_left _ _ (by rw[cV hc]; omega),aKW hc]; rfl
theorem aGn (hc:c.length=256) (v:Value):(oL av bv nv c n cv sv ev).set 262 v=oL av bv nv c n cv sv v:=by
 show av::bv::nv::((eK c n cv sv++[ev]).set 259 v)=_
 rw[List.set_append_right _ _ (by rw[cV hc]; omega),cV hc]; rfl
end
theorem ixR {ro:Ro}{g:GlD}{h:T Obj}{nv:Value}{q:Int} (hn:ZI ro h nv (aCe g)) (h0:0≤q) (h1:q < g.p.length):cD 1 nv (.int .i64 q)=some (fH 1 nv q.toNat)∧load1 ro h (fH 1 nv q.toNat)=some (.int .i64 (pV g q)):=by
 refine⟨hn.ixI .i64 h0 (by rw[aRv]; exact h1),hn.load' ?_⟩
 have:=aRu (g:=g) (k:=q.toNat) (by omega)
 rwa [Int.toNat_of_nonneg h0] at this
section
variable {ro:Ro}{g:GlD}{bid:Nat}{av bv nv cv sv ev lv rv uv wv:Value}{c:List Nat}{n:Int}{e0:TypeId}{l:List Int}{code q:Int}
set_option maxRecDepth 4000 in
set_option maxHeartbeats 1000000 in
theorem aCM (hl:(dI g l).length≤1000000) (hc0:0≤code) (hc1:code≤1000000) (hq0:0≤q) (hq1:q < g.p.length)
  {h:T Obj} {nx:Nat} {K:KV} (hf:Fr h nx) (hb:h.get bid=some (.cells (oL av bv nv c n cv sv ev).toArray e0)) (hn:ZI ro h nv (aCe g)) (hrv:ZI ro h rv (dI g l))
  (hK:∀ nx',nx≤nx'→K (.int .i64 (jS g l code q)) h nx'):aN Tryz.prog ro jJ [ptr bid,.agg #[lv,rv,uv,wv],.int .i64 code,.int .i64 q] h nx K:=by
 apply zV
 unfold tF
 refine fV hf (Nat.le_refl _) fun h1 hs1 hf1 g1 _=>?_
 have g1:h1.get nx=some (.cells [lv,rv,uv,wv].toArray aR):=g1
 have hb1:=hs1 _ _ hb
 have hrv1:=hrv.sub hs1
 have c1:([lv,rv,uv,wv]:List Value)[1]?=some rv:=rfl
 have hrl:=hrv1.len
 have b2:=aO3 (av:=av) (bv:=bv) (nv:=nv) (c:=c) (n:=n) (cv:=cv) (sv:=sv) (ev:=ev)
 obtain⟨ixn,ldn⟩:=ixR (hn.sub hs1) hq0 hq1
 generalize hD:jS g l code q=D at hK
 unfold jS at hD
 generalize dI g l=R at hl hrv hrv1 hrl hD
 refine bD (fun j e h' nx'=>∃ (k:Nat) (c':Int),k+j=R.length∧nx+1≤nx'∧h'=h1∧0≤c'∧c'≤1000000∧aPE (R.drop k) c' (pV g q)=D∧e 0=ptr bid∧e 2=.int .i64 c'∧e 3=.int .i64 q∧e 5=ptr nx∧e 9=.int .i64 k) ?_ (n:=R.length)
  ⟨0,code,by omega,by omega,rfl,hc0,hc1,hD,rfl,rfl,rfl,rfl,rfl⟩
 rintro j e h' nx' ⟨k,c',hj,hnx,rfl,q0,q1,hr,e0',e2,e3,e5,e9⟩ Q' hq hx
 unfold qU
 rw[e0',e2,e3,e5,e9]
 (have zy:=And.intro g1 (And.intro c1 hrl);repeat refine zzCz ?_)
 refine cM (fun hk=>?_) (fun hk=>?_)
 ·have hk:k < R.length:=by omega
  have ixr:=hrv1.ix .i64 hk
  have ldr:=hrv1.load hk
  rw[cP hk,aB2] at hr
  generalize R[k]=x at ldr hr
  (have zy:=And.intro g1 (And.intro c1 (And.intro ixr (And.intro ldr (And.intro @bJ (And.intro hb1 (And.intro b2 (And.intro ixn ldn)))))));repeat refine zzCz ?_)
  refine i4 (fun u=>?_) (fun u=>?_)
  ·rw[if_pos u] at hr
   (repeat refine zzC ?_)
   refine hx _ _ _ _ (fun e=>by cases e) (kW ?_)
   subst hr
   exact⟨h,hs1,hK _ (by omega)⟩
  ·rw[if_neg u] at hr
   (repeat refine zzC ?_)
   exact hq (j - 1) _ h' _ _ (by omega) ⟨k+1,c' / 3,by omega,by omega,rfl,by omega,by omega,hr,e0',rfl,e3,e5,rfl⟩ (aU.refl _)
 ·rw[List.drop_eq_nil_of_le (by omega)] at hr
  have hr:(-1:Int)=D:=hr
  subst hr
  (repeat refine zzC ?_)
  refine hx _ _ _ _ (fun e=>by cases e) (d3 (cU ?_))
  unfold lX
  exact⟨h,hs1,hK _ (by omega)⟩
set_option maxRecDepth 4000 in
theorem aDh (hl:(dI g l).length≤1000000) (hc0:0≤code) (hc1:code≤1000000) (hq0:0≤q) (hq1:q < g.p.length)
  {h:T Obj} {nx:Nat} {K:KV} (hf:Fr h nx) (hb:h.get bid=some (.cells (oL av bv nv c n cv sv ev).toArray e0)) (hn:ZI ro h nv (aCe g)) (hrv:ZI ro h rv (dI g l))
  (hK:∀ nx',nx≤nx'→K (.bool (decide (jS g l code q≠0))) h nx'):aN Tryz.prog ro kA [ptr bid,.agg #[lv,rv,uv,wv],.int .i64 code,.int .i64 q] h nx K:=by
 apply aAU
 unfold vO
 refine fV hf (Nat.le_refl _) fun h1 hs1 hf1 g1 _=>?_
 have g1:h1.get nx=some (.cells [lv,rv,uv,wv].toArray aR):=g1
 refine aB (bX (l:=[lv,rv,uv,wv]) g1 rfl) ?_
 refine aCM hl hc0 hc1 hq0 hq1 (hf1.mono (show nx+1≤nx+7 by omega)) (hs1 _ _ hb) (hn.sub hs1) (hrv.sub hs1) fun n2 hn2=>?_
 refine aB (aX _ _ _) ?_
 have e:(!decide (jS g l code q=0))=decide (jS g l code q≠0):=by
  by_cases u:jS g l code q=0<;>simp[u]
 rw[e]
 exact⟨h,hs1,hK _ (by omega)⟩
set_option maxRecDepth 4000 in
theorem aHv (hll:l.length≤1000000) (hl:(dI g l).length≤1000000) (hc0:0≤code) (hc1:code≤1000000) (hq0:0≤q) (hq1:q < g.p.length)
  {h:T Obj} {nx:Nat} {K:KV} (hf:Fr h nx) (hb:h.get bid=some (.cells (oL av bv nv c n cv sv ev).toArray e0)) (hn:ZI ro h nv (aCe g)) (hlv:ZI ro h lv l) (hrv:ZI ro h rv (dI g l))
  (hK:∀ nx',nx≤nx'→K (.bool (aIu g l code q)) h nx'):aN Tryz.prog ro mN [ptr bid,.agg #[lv,rv,uv,wv],.int .i64 code,.int .i64 q] h nx K:=by
 apply zW
 unfold tG
 refine fV hf (Nat.le_refl _) fun h1 hs1 hf1 g1 _=>?_
 have g1:h1.get nx=some (.cells [lv,rv,uv,wv].toArray aR):=g1
 refine aB (bX (l:=[lv,rv,uv,wv]) g1 rfl) ?_
 refine aCM hl hc0 hc1 hq0 hq1 (hf1.mono (show nx+1≤nx+7 by omega)) (hs1 _ _ hb) (hn.sub hs1) (hrv.sub hs1) fun n2 hn2=>?_
 have c0:([lv,rv,uv,wv]:List Value)[0]?=some lv:=rfl
 (have zy:=And.intro g1 c0;repeat refine zzCz ?_)
 refine aCh hll (hlv.sub hs1) fun n3 hn3=>?_
 have hk:∀ n9,nx≤n9→K (.bool (aIu g l code q)) h n9:=hK
 unfold aIu at hk
 generalize l.contains q=B at hk ⊢
 cases B with
 | false =>
  (repeat refine zzC ?_)
  exact⟨h,hs1,hk _ (by omega)⟩
 | true =>
  (repeat refine zzC ?_)
  refine i4 (fun u=>?_) (fun u=>?_)
  ·rw[u] at hk
   (repeat refine zzC ?_)
   exact⟨h,hs1,hk _ (by omega)⟩
  ·rw[decide_eq_false u] at hk
   (repeat refine zzC ?_)
   refine aB (aW _ _ _) ?_
   (repeat refine zzC ?_)
   exact⟨h,hs1,hk _ (by omega)⟩
set_option maxRecDepth 4000 in
set_option maxHeartbeats 1000000 in
theorem aHF {at_:Nat} (h00:at_=0→l=[]) (hz:rz (-1) g.p.length l=true) (hg:dJ g=true) (hll:l.length≤1000000) (hl:(dI g l).length≤1000000) (hc0:0≤code) (hc1:code≤1000000)
  {h:T Obj} {nx:Nat} {K:KV} (hf:Fr h nx) (hb:h.get bid=some (.cells (oL av bv nv c n cv sv ev).toArray e0)) (hn:ZI ro h nv (aCe g)) (ha:ZI ro h av g.first) (hP:gD ro h bv 9 (oU ro h) g.p) (hlv:ZI ro h lv l) (hrv:ZI ro h rv (dI g l)) (hvo:[lv,rv,uv,wv].all bV=true)
  (hK:∀ nx',nx≤nx'→K (.bool (dG g at_ (d4 g l code) q)) h nx'):aN Tryz.prog ro lT [ptr bid,.int .i64 (at_:Int),.agg #[lv,rv,uv,wv],.int .i64 code,.int .i64 q] h nx K:=by
 obtain⟨hgl,hfr,hmay⟩:=i5 hg
 apply yQ
 unfold sQ
 refine fV hf (Nat.le_refl _) fun h1 hs1 hf1 g1 _=>?_
 have g1:h1.get nx=some (.cells [lv,rv,uv,wv].toArray aR):=g1
 have hb1:=hs1 _ _ hb
 have b0:=aW3 (av:=av) (bv:=bv) (nv:=nv) (c:=c) (n:=n) (cv:=cv) (sv:=sv) (ev:=ev)
 have b1:=aSY (av:=av) (bv:=bv) (nv:=nv) (c:=c) (n:=n) (cv:=cv) (sv:=sv) (ev:=ev)
 refine i4 (fun u=>?_) (fun u=>?_)
 ·obtain rfl:at_=0:=by omega
  obtain rfl:=h00 rfl
  rw[aT6] at hK
  (have zy:=And.intro @bJ (And.intro hb1 b0);repeat refine zzCz ?_)
  refine aCh (by have:=aAB hfr; omega) (ha.sub hs1) fun n3 hn3=>?_
  exact⟨h,hs1,hK _ (by omega)⟩
 ·rw[aVU hz (by omega)] at hK
  refine aE ?_
  unfold aVT at hK
  have hlv1:=hlv.sub hs1
  have c0:([lv,rv,uv,wv]:List Value)[0]?=some lv:=rfl
  have hln:=hlv1.len
  have hP1:=hP.sub hs1 (oU.sub hs1)
  generalize hD:(l.any fun p=>decide (jS g l code p≠0)&&(g.at p).next.contains q)=D at hK
  refine bD (fun j e h' nx'=>∃ (k:Nat),k+j=l.length∧nx+1≤nx'∧h'=h1∧((l.drop k).any fun p=>decide (jS g l code p≠0)&&(g.at p).next.contains q)=D∧e 0=ptr bid∧e 3=.int .i64 code∧e 4=.int .i64 q∧e 7=ptr nx∧e 11=.int .i64 k) ?_ (n:=l.length)
   ⟨0,by omega,by omega,rfl,hD,rfl,rfl,rfl,rfl,rfl⟩
  rintro j e h' nx' ⟨k,hj,hnx,rfl,hr,e0',e3,e4,e7,e11⟩ Q' hq hx
  unfold pZ
  rw[e0',e3,e4,e7,e11]
  (have zy:=And.intro g1 (And.intro c0 hln);repeat refine zzCz ?_)
  refine cM (fun hk=>?_) (fun hk=>?_)
  ·have hk:k < l.length:=by omega
   have ixl:=hlv1.ix .i64 hk
   have ldl:=hlv1.load hk
   have hrng:=dX hz _ (List.getElem_mem hk)
   rw[cP hk,List.any_cons] at hr
   generalize l[k]=p at ldl hr hrng
   refine aG (aB (bX (l:=[lv,rv,uv,wv]) g1 rfl) ?_)
   (have zy:=And.intro g1 (And.intro c0 (And.intro ixl ldl));repeat refine zzCz ?_)
   refine aDh hl hc0 hc1 (by omega) hrng.2 (hf1.mono (show nx+1≤_ by omega)) hb1 (hn.sub hs1) (hrv.sub hs1) fun n2 hn2=>?_
   have hno:∀ (e':dF) n',e' 0=ptr bid→e' 3=.int .i64 code→e' 4=.int .i64 q→e' 7=ptr nx→e' 11=.int .i64 ((k:Int)+1)→nx+1≤n'→(decide (jS g l code p≠0)&&(g.at p).next.contains q)=false→Q' .normal e' h' n':=fun e' n' f0 f3 f4 f7 f11 hn' hf9=>by
    rw[hf9,Bool.false_or] at hr
    exact hq (j - 1) _ h' _ _ (by omega) ⟨k+1,by omega,hn',rfl,hr,f0,f3,f4,f7,f11⟩ (aU.refl _)
   cases hrp:decide (jS g l code p≠0) with
   | false =>
    (repeat refine zzC ?_)
    exact hno _ _ e0' e3 e4 e7 rfl (by omega) (by rw[hrp]; rfl)
   | true =>
    obtain⟨hat,hat2⟩:=aDw (g:=g) (q:=p) (by omega) hrng.2
    have hpl:p.toNat < g.p.length:=by omega
    obtain⟨y,⟨nv',rfl,y1,y2⟩,z2,z3,z4,z5⟩:=hP1.at hpl
    have hge:g.p[p.toNat]=g.at p:=by
     have:=List.getElem?_eq_getElem hpl
     rw[hat2] at this
     exact (Option.some.inj this).symm
    rw[hge] at y1 y2
    have ixp:=hP1.ixI .i64 (by omega) hrng.2
    have f8:=z4 8
    have l8:=z5 8 nv' rfl
    have hmn:=(yP (hmay _ hat)).2.2.2.2.2
    (have zy:=And.intro @bJ (And.intro hb1 (And.intro b1 (And.intro g1 (And.intro c0 (And.intro ixl (And.intro ldl (And.intro ixp (And.intro f8 l8))))))));repeat refine zzCz ?_)
    refine aCh (by have:=aAB hmn; omega) y1 fun n3 hn3=>?_
    cases hin:(g.at p).next.contains q with
    | false =>
     (repeat refine zzC ?_)
     exact hno _ _ e0' e3 e4 e7 rfl (by omega) (by rw[hin,Bool.and_false])
    | true =>
     rw[hrp,hin] at hr
     have hr:true=D:=hr
     subst hr
     (repeat refine zzC ?_)
     refine hx _ _ _ _ (fun e=>by cases e) (kW ?_)
     exact⟨h,hs1,hK _ (by omega)⟩
  ·rw[List.drop_eq_nil_of_le (by omega)] at hr
   have hr:false=D:=hr
   subst hr
   (repeat refine zzC ?_)
   refine hx _ _ _ _ (fun e=>by cases e) (d3 (cU ?_))
   unfold lD
   exact⟨h,hs1,hK _ (by omega)⟩
end
section
variable {ro:Ro}{g:GlD}{bid:Nat}{av bv nv cv sv ev lv rv uv wv:Value}{c:List Nat}{n:Int}{e0:TypeId}{l:List Int}{code q:Int}
theorem aN7 (b p:Int) (r:List Int):aFQ g l code b (p::r)=aFQ g l code (if decide (jS g l code p≠0)&&((g.at p).last&&(decide (b < 0) || decide ((g.at p).rule < b))) then (g.at p).rule else b) r:=rfl
set_option maxRecDepth 4000 in
set_option maxHeartbeats 1000000 in
theorem aJw (hz:rz (-1) g.p.length l=true) (hg:dJ g=true) (hll:l.length≤1000000) (hl:(dI g l).length≤1000000) (hc0:0≤code) (hc1:code≤1000000)
  {h:T Obj} {nx:Nat} {K:KV} (hf:Fr h nx) (hb:h.get bid=some (.cells (oL av bv nv c n cv sv ev).toArray e0)) (hn:ZI ro h nv (aCe g)) (hP:gD ro h bv 9 (oU ro h) g.p) (hlv:ZI ro h lv l) (hrv:ZI ro h rv (dI g l))
  (hK:∀ nx',nx≤nx'→K (.int .i64 (rH g (-1) (d4 g l code))) h nx'):aN Tryz.prog ro nS [ptr bid,.agg #[lv,rv,uv,wv],.int .i64 code] h nx K:=by
 obtain⟨hgl,hfr,hmay⟩:=i5 hg
 rw[aU2 hz] at hK
 apply aAV
 unfold vP
 refine fV hf (Nat.le_refl _) fun h1 hs1 hf1 g1 _=>?_
 have g1:h1.get nx=some (.cells [lv,rv,uv,wv].toArray aR):=g1
 have hb1:=hs1 _ _ hb
 have b1:=aSY (av:=av) (bv:=bv) (nv:=nv) (c:=c) (n:=n) (cv:=cv) (sv:=sv) (ev:=ev)
 have hlv1:=hlv.sub hs1
 have c0:([lv,rv,uv,wv]:List Value)[0]?=some lv:=rfl
 have hln:=hlv1.len
 have hP1:=hP.sub hs1 (oU.sub hs1)
 generalize hD:aFQ g l code (-1) l=D at hK
 refine bD (fun j e h' nx'=>∃ (k:Nat) (b:Int),k+j=l.length∧nx+1≤nx'∧h'=h1∧aFQ g l code b (l.drop k)=D∧e 0=ptr bid∧e 2=.int .i64 code∧e 4=ptr nx∧e 7=.int .i64 b∧e 8=.int .i64 k) ?_ (n:=l.length)
  ⟨0,-1,by omega,by omega,rfl,hD,rfl,rfl,rfl,rfl,rfl⟩
 rintro j e h' nx' ⟨k,b,hj,hnx,rfl,hr,e0',e2,e4,e7,e8⟩ Q' hq hx
 unfold rF
 rw[e0',e2,e4,e7,e8]
 (have zy:=And.intro g1 (And.intro c0 hln);repeat refine zzCz ?_)
 refine cM (fun hk=>?_) (fun hk=>?_)
 ·have hk:k < l.length:=by omega
  have ixl:=hlv1.ix .i64 hk
  have ldl:=hlv1.load hk
  have hrng:=dX hz _ (List.getElem_mem hk)
  rw[cP hk,aN7] at hr
  generalize l[k]=p at ldl hr hrng
  obtain⟨hat,hat2⟩:=aDw (g:=g) (q:=p) (by omega) hrng.2
  have hpl:p.toNat < g.p.length:=by omega
  obtain⟨y,⟨nv',rfl,y1,y2⟩,z2,z3,z4,z5⟩:=hP1.at hpl
  have hge:g.p[p.toNat]=g.at p:=by
   have:=List.getElem?_eq_getElem hpl
   rw[hat2] at this
   exact (Option.some.inj this).symm
  rw[hge] at y1 y2 z3
  have ixp:=hP1.ixI .i64 (by omega) hrng.2
  generalize g.at p=P at hr y1 y2 z3
  (have zy:=And.intro g1 (And.intro c0 (And.intro ixl (And.intro ldl (And.intro @bJ (And.intro hb1 (And.intro b1 (And.intro ixp z3)))))));repeat refine zzCz ?_)
  refine gP aTL rfl (x:=oF P nv') rfl rfl (aOX y1.ok) hf1 (show nx+1≤nx'+17 by omega) fun h3 hs3 hf3 g3 hne3=>?_
  have g13:=hs3 _ _ g1
  have d7:(oF P nv')[7]?=some (.bool P.last):=rfl
  have d6:(oF P nv')[6]?=some (.int .i64 P.rule):=rfl
  have ldl3:=(hlv1.sub hs3).load' (x:=p) (i:=k) (by
   have:=hlv1.load hk
   rw[ldl] at this
   have:l[k]=p:=by simpa using this.symm
   rw[List.getElem?_eq_getElem hk,this])
  have hj2:∀ (e':dF) n' (b':Int),e' 0=ptr bid→e' 2=.int .i64 code→e' 4=ptr nx→e' 7=.int .i64 b'→e' 8=.int .i64 k→nx+1≤n'→aFQ g l code b' (l.drop (k+1))=D→jO ro Q' e' h3 n':=fun e' n' b' f0 f2 f4 f7 f8 hn' hD'=>by
   unfold jO
   rw[f8]
   (repeat refine zzC ?_)
   exact hq (j - 1) _ h' _ _ (by omega) ⟨k+1,b',by omega,by omega,rfl,hD',f0,f2,f4,f7,rfl⟩ hs3
  (have zy:=And.intro g3 d7;repeat refine zzCz ?_)
  cases hla:P.last with
  | false =>
   rw[hla] at hr
   simp only[Bool.false_and,Bool.and_false,Bool.false_eq_true,if_false] at hr
   (repeat refine zzC ?_)
   exact hj2 _ _ b e0' e2 e4 e7 e8 (by omega) hr
  | true =>
   rw[hla] at hr
   simp only[Bool.true_and] at hr
   refine aH ?_
   (repeat refine zzC ?_)
   refine aB (bX (l:=[lv,rv,uv,wv]) g13 rfl) ?_
   (have zy:=And.intro g13 (And.intro c0 (And.intro ixl ldl3));repeat refine zzCz ?_)
   refine aDh hl hc0 hc1 (by omega) hrng.2 (hf3.mono (show nx'+17+1≤_ by omega)) (hs3 _ _ hb1) ((hn.sub hs1).sub hs3) ((hrv.sub hs1).sub hs3) fun n2 hn2=>?_
   cases hrp:decide (jS g l code p≠0) with
   | false =>
    rw[hrp] at hr
    simp only[Bool.false_and,Bool.false_eq_true,if_false] at hr
    (repeat refine zzC ?_)
    exact hj2 _ _ b e0' e2 e4 e7 e8 (by omega) hr
   | true =>
    rw[hrp] at hr
    simp only[Bool.true_and] at hr
    (repeat refine zzC ?_)
    refine cM (fun u=>?_) (fun u=>?_)
    ·rw[decide_eq_true u] at hr
     simp only[Bool.true_or,if_true] at hr
     (have zy:=And.intro g3 d6;repeat refine zzCz ?_)
     exact hj2 _ _ P.rule e0' e2 e4 rfl e8 (by omega) hr
    ·rw[decide_eq_false (by omega)] at hr
     simp only[Bool.false_or] at hr
     (have zy:=And.intro g3 d6;repeat refine zzCz ?_)
     refine cM (fun w=>?_) (fun w=>?_)
     ·rw[decide_eq_true w] at hr
      simp only[if_true] at hr
      (have zy:=And.intro g3 d6;repeat refine zzCz ?_)
      exact hj2 _ _ P.rule e0' e2 e4 rfl e8 (by omega) hr
     ·rw[decide_eq_false (by omega)] at hr
      simp only[Bool.false_eq_true,if_false] at hr
      (have zy:=And.intro g3 d6;repeat refine zzCz ?_)
      exact hj2 _ _ b e0' e2 e4 e7 e8 (by omega) hr
 ·rw[List.drop_eq_nil_of_le (by omega)] at hr
  have hr:b=D:=hr
  subst hr
  (repeat refine zzC ?_)
  refine hx _ _ _ _ (fun e=>by cases e) (d3 (cU ?_))
  unfold mU
  have e7':∀ e9:dF,e9 7=.int .i64 b→∃ h2,aU h2 h'∧K (e9 7) h2 (nx'+5+2):=fun e9 h9=>by
   rw[h9]
   exact⟨h,hs1,hK _ (by omega)⟩
  exact e7' _ e7
end
structure Rb (h:T Obj) (bid sid:Nat) (av bv nv:Value) (c:List Nat) (n:Int) (cv:Value) (S:List StateD) (cs:List (List Value)):Prop where
 hc:c.length=256
 blk:h.get bid=some (.cells (oL av bv nv c n cv (.slice (some (own sid 4)) cs.length cs.length) (.int .i64 0)).toArray aO)
 row:h.get sid=some (.cells cs.flatten.toArray aR)
 z4:∀ x∈cs,x.length=4
 len:cs.length=S.length
 few:S.length≤256
 pos:0 < S.length
def RSt (ro:Ro) (h:T Obj) (cs:List (List Value)) (S:List StateD):Prop:=∀ (i:Nat) x t,cs[i]?=some x→S[i]?=some t→eR ro h x t
theorem RSt.sub {ro:Ro}{h h':T Obj}{cs:List (List Value)}{S:List StateD} (hs:RSt ro h cs S) (hh:aU h h'):RSt ro h' cs S:=fun i x t h1 h2=>eR.sub hh _ _ (hs i x t h1 h2)
def KpF (e' e:dF):Prop:=e' 0=e 0∧e' 1=e 1∧e' 5=e 5
section
variable {ro:Ro}{g:GlD}{bid sid:Nat}{av bv nv cv lw:Value}{c:List Nat}{n:Int}{S:List StateD}{cs:List (List Value)}{l:List Int}
theorem Rb.own {h:T Obj} (hB:Rb h bid sid av bv nv c n cv S cs):bL h (.slice (some (own sid 4)) cs.length cs.length) 4 aR cs 0:=.inr ⟨sid,Nat.zero_le _,rfl,hB.z4,hB.row⟩
theorem Rb.ne {h:T Obj} (hB:Rb h bid sid av bv nv c n cv S cs):bid≠sid:=by
 rintro rfl
 have h1:=hB.blk
 rw[hB.row] at h1
 simp only[Option.some.injEq,Obj.cells.injEq] at h1
 exact absurd h1.2.1 (by decide)
theorem Rb.sub {h h':T Obj} (hB:Rb h bid sid av bv nv c n cv S cs) (hs:aU h h'):Rb h' bid sid av bv nv c n cv S cs:=⟨hB.hc,hs _ _ hB.blk,hs _ _ hB.row,hB.z4,hB.len,hB.few,hB.pos⟩
theorem Rb.slr {h h':T Obj} (hB:Rb h bid sid av bv nv c n cv S cs) (hs:RSt ro h' cs S) (hh:aU h' h):gD ro h (.slice (some (V.own sid 4)) cs.length cs.length) 4 (eR ro h) S:=⟨cs,hB.own.sl,hB.len,fun i x t h1 h2=>eR.sub hh _ _ (hs i x t h1 h2)⟩
set_option maxRecDepth 4000 in
set_option maxHeartbeats 1000000 in
theorem aPN {e0:dF}{x:List Int}{lx:Value}{h:T Obj}{nx:Nat}{Q:KE} (hx:ZI ro h lx x) (hl:ZI ro h lw l) (hlen:x.length=l.length) (hb:l.length≤1000000)
  (e1:e0 1=lw) (e6:e0 6=lx) (e7:e0 7=.bool true) (e8:e0 8=.int .i64 0) (hQ:∀ e' n',nx≤n'→e' 7=.bool (decide (x=l))→KpF e' e0→Q (.exit 2) e' h n'):dC (mR ro) e0 h nx Q:=by
 have hln:=hl.len
 refine bD (fun j e h' nx'=>∃ (k:Nat) (B:Bool),k+j=l.length∧nx≤nx'∧h'=h∧(B=true ↔ x.take k=l.take k)∧e 1=lw∧e 6=lx∧e 7=.bool B∧e 8=.int .i64 k∧KpF e e0) ?_ (n:=l.length)
  ⟨0,true,by omega,by omega,rfl,by simp,e1,e6,e7,e8,rfl,rfl,rfl⟩
 rintro j e h' nx' ⟨k,B,hj,hnx,rfl,hB,e1,e6,e7,e8,hk⟩ Q' hq hx'
 unfold mR
 rw[e1,e6,e7,e8]
 (have zy:=hln;repeat refine zzCz ?_)
 refine cM (fun hkl=>?_) (fun hkl=>?_)
 ·have k1:k < x.length:=by omega
  have k2:k < l.length:=by omega
  have x1:=hx.ix .i64 k1
  have x2:=hl.ix .i64 k2
  have x3:=hx.load k1
  have x4:=hl.load k2
  have htk:(x.take (k+1)=l.take (k+1)) ↔ (x.take k=l.take k∧x[k]=l[k]):=by
   rw[List.take_succ_eq_append_getElem k1,List.take_succ_eq_append_getElem k2]
   constructor
   ·intro h9
    have:=List.append_inj h9 (by simp; omega)
    exact⟨this.1,by simpa using this.2⟩
   ·rintro⟨h1,h2⟩
    rw[h1,h2]
  cases B with
  | false =>
   have hne:¬ x.take k=l.take k:=fun h9=>by have:=hB.2 h9; cases this
   (repeat refine zzC ?_)
   exact hq (j - 1) _ h' _ _ (by omega) ⟨k+1,false,by omega,by omega,rfl,⟨fun hd=>by (cases hd),fun hd=>absurd (htk.1 hd).1 hne⟩,e1,e6,rfl,rfl,hk⟩ (aU.refl _)
  | true =>
   have hyes:=hB.1 rfl
   (have zy:=And.intro x1 (And.intro x2 (And.intro x3 x4));repeat refine zzCz ?_)
   refine aB (aW _ _ _) ?_
   (repeat refine zzC ?_)
   refine hq (j - 1) _ h' _ _ (by omega) ⟨k+1,decide (x[k]=l[k]),by omega,by omega,rfl,⟨fun hd=>htk.2 ⟨hyes,of_decide_eq_true hd⟩,fun hd=>decide_eq_true (htk.1 hd).2⟩,e1,e6,rfl,rfl,hk⟩ (aU.refl _)
 ·rw[List.take_of_length_le (by omega),List.take_of_length_le (by omega)] at hB
  have hBd:B=decide (x=l):=by
   cases B with
   | true=>exact (decide_eq_true (hB.1 rfl)).symm
   | false=>exact (decide_eq_false fun h9=>by have:=hB.2 h9; cases this).symm
  rw[hBd] at e7
  exact aE (hx' _ _ _ _ (fun e=>by cases e) (hQ _ _ (by omega) e7 hk))
set_option maxRecDepth 4000 in
set_option maxHeartbeats 1000000 in
theorem aPM {e0:dF}{h h0:T Obj}{nx:Nat}{Q:KE} (hB:Rb h bid sid av bv nv c n cv S cs) (hS:RSt ro h0 cs S) (hh:aU h0 h) (hl:ZI ro h lw l) (hb:l.length≤1000000) (hne:l≠[]) (hz:∃ s,S[0]?=some s∧s.l=[])
  (e0':e0 0=ptr bid) (e1:e0 1=lw) (e5:e0 5=.int .i64 1)
  (hQ1:∀ e' n' k,nx≤n'→S.findIdx? (isL l)=some k→e' 4=.int .i64 (k:Int)→Q .ret e' h n') (hQ2:∀ e' n',nx≤n'→S.findIdx? (isL l)=none→e' 0=ptr bid→e' 1=lw→Q (.exit 0) e' h n'):dC (mQ ro) e0 h nx Q:=by
 have hfew:=hB.few
 have hpos:=hB.pos
 have hsl:=hB.slr hS hh
 have hsn:=hsl.len
 have hln:=hl.len
 have hb1:=hB.blk
 have b261:=zQ (av:=av) (bv:=bv) (nv:=nv) (n:=n) (cv:=cv) (sv:=.slice (some (own sid 4)) cs.length cs.length) (ev:=.int .i64 0) hB.hc
 obtain⟨s0,z1,z2⟩:=hz
 refine bD (fun j e h' nx'=>∃ (k:Nat),k+j=S.length∧1≤k∧nx≤nx'∧h'=h∧(∀ (i:Nat) s,i < k→S[i]?=some s→s.l≠l)∧e 0=ptr bid∧e 1=lw∧e 5=.int .i64 k) ?_ (n:=S.length - 1)
  ⟨1,by omega,by omega,by omega,rfl,fun i s hi hs=>by
   obtain rfl:i=0:=by omega
   rw[z1] at hs; cases hs
   rw[z2]; exact Ne.symm hne,e0',e1,e5⟩
 rintro j e h' nx' ⟨k,hj,hk1,hnx,rfl,hno,e0',e1,e5⟩ Q' hq hx
 unfold mQ
 rw[e0',e1,e5]
 generalize Value.slice (some (own sid 4)) cs.length cs.length=sv at *
 (have zy:=And.intro @bJ (And.intro hb1 (And.intro b261 hsn));repeat refine zzCz ?_)
 refine cM (fun hkl=>?_) (fun hkl=>?_)
 ·have hkl:k < S.length:=by omega
  obtain⟨y,⟨lx,rv,uv,wv,rfl,y1,y2,y3,y4,y5⟩,w2,w3,w4,w5⟩:=hsl.at hkl
  have hget:=List.getElem?_eq_getElem hkl
  have six:=hsl.ix .i64 hkl
  have f0:=w4 0
  have l0:=w5 0 lx rfl
  have lx1:=y1.len
  have hj4:∀ (e':dF) n',nx≤n'→e' 0=ptr bid→e' 1=lw→e' 5=.int .i64 k→S[k].l≠l→gX ro Q' e' h' n':=fun e' n' hn' f0 f1 f5 hd=>by
   unfold gX
   rw[f5]
   (repeat refine zzC ?_)
   refine hq (j - 1) _ h' _ _ (by omega) ⟨k+1,by omega,by omega,by omega,rfl,fun i s hi hs=>?_,f0,f1,rfl⟩ (aU.refl _)
   rcases Nat.lt_or_ge i k with hik | hik
   ·exact hno i s hik hs
   ·obtain rfl:i=k:=by omega
    rw[hget] at hs; cases hs
    exact hd
  (have zy:=And.intro @bJ (And.intro hb1 (And.intro b261 (And.intro six (And.intro f0 (And.intro l0 (And.intro lx1 hln))))));repeat refine zzCz ?_)
  refine i4 (fun u=>?_) (fun u=>?_)
  ·refine aG ?_
   refine aPN y1 hl (by omega) hb ?_ ?_ ?_ ?_ fun e' n' hn' g7 hz=>?_
   ·exact e1
   ·rfl
   ·rfl
   ·rfl
   obtain⟨k0,k1,k5⟩:=hz
   have k0:e' 0=ptr bid:=k0.trans e0'
   have k1:e' 1=lw:=k1.trans e1
   have k5:e' 5=.int .i64 k:=k5.trans e5
   refine d3 (cU ?_)
   unfold mT
   rw[g7]
   by_cases hd:S[k].l=l
   ·rw[decide_eq_true hd]
    refine aG (hx _ _ _ _ (fun e=>by cases e) ?_)
    refine hQ1 _ _ k (by omega) ?_ k5
    refine List.findIdx?_eq_some_iff_getElem.2 ⟨hkl,decide_eq_true hd,fun i hi=>?_⟩
    have:=hno i _ hi (List.getElem?_eq_getElem (by omega))
    unfold isL
    rw[decide_eq_false this]
    decide
   ·rw[decide_eq_false hd]
    exact aE (hj4 _ _ (by omega) k0 k1 k5 hd)
  ·refine aE ?_
   exact hj4 _ _ (by omega) e0' e1 e5 fun hd=>u (by rw[hd])
 ·refine aE (hx _ _ _ _ (fun e=>by cases e) (hQ2 _ _ (by omega) ?_ e0' e1))
  refine List.findIdx?_eq_none_iff.2 fun s hs=>?_
  obtain⟨i,hi⟩:=List.mem_iff_getElem?.1 hs
  have hil:=(List.getElem?_eq_some_iff.1 hi).1
  exact decide_eq_false (hno i s (by omega) hi)
end
theorem aDZ {g:GlD}{q:Int} (h:ctd g q=true):pV g q=i7 g q∧0≤pV g q:=by
 have:pV g q=i7 g q:=by unfold pV; rw[if_pos h]
 exact⟨this,by rw[this]; exact aB7 g q⟩
theorem aDY {g:GlD}{q:Int} (h:ctd g q=false):pV g q=-1:=by unfold pV; rw[h]; rfl
section
variable {ro:Ro}{g:GlD}{bid sid:Nat}{av bv nv cv lw:Value}{c:List Nat}{n:Int}{S:List StateD}{cs:List (List Value)}{l:List Int}{lo:Nat}
set_option maxRecDepth 8000 in
set_option maxHeartbeats 2000000 in
theorem aJu (hg:g.p.length≤512) (hz:rz (-1) g.p.length l=true) (hne:l≠[]) (hz0:∃ s,S[0]?=some s∧s.l=[])
  {h h0:T Obj} {nx:Nat} {K:KV} (hf:Fr h nx) (hB:Rb h bid sid av bv nv c n cv S cs) (hS:RSt ro h0 cs S) (hh:aU h0 h) (hn:ZI ro h nv (aCe g)) (hl:bL h lw 1 cI (fK l) lo) (hlo:lo≤nx) (hlb:bid < lo)
  (hKe:(kN g S l).2.1≠0→∀ h' nx',nx≤nx'→Fr h' nx'→eI [bid] h h'→h'.get bid=some (.cells (oL av bv nv c n cv (.slice (some (own sid 4)) cs.length cs.length) (.int .i64 (kN g S l).2.1)).toArray aO)→K (.int .i64 0) h' nx')
  (hK:(kN g S l).2.1=0→∀ h' nx' sid' cs',nx≤nx'→Fr h' nx'→eI [bid,sid] h h'→(sid'=sid∨nx≤sid')→Rb h' bid sid' av bv nv c n cv (kN g S l).2.2 cs'→oS h' lo cs cs' S (kN g S l).2.2→K (.int .i64 (kN g S l).1) h' nx') :
  aN Tryz.prog ro nQ [ptr bid,lw] h nx K:=by
 apply aAS
 unfold vM
 have hll:l.length≤512:=by have:=aAB hz; omega
 have hrange:∀ x∈l,0≤x∧x < g.p.length:=fun x hx=>by have:=dX hz x hx; omega
 have hzl:ZI ro h lw l:=hl.sl
 have hfew:=hB.few
 have hlen:=hzl.len
 refine aPM (l:=l) (lw:=lw) hB hS hh hzl (by omega) hne hz0 ?_ ?_ ?_ (fun e' n' k hn' hfi e4=>?_) fun e' n' hn' hfi e0 e1=>?_
 ·rfl
 ·rfl
 ·rfl
 ·have hfz:kN g S l=((k:Int),0,S):=by unfold kN; rw[hfi]
  rw[hfz] at hK
  refine kW ?_
  rw[e4]
  exact⟨h,aU.refl _,hK rfl h _ sid cs (by omega) (hf.mono (by omega)) (aU.refl h).keepL (.inl rfl) hB oS.refl⟩
 ·have hfz:kN g S l=if 3 < (dI g l).length then ((0:Int),(110:Int),S) else if 256≤S.length then ((0:Int),(3:Int),S) else (((S.length:Nat):Int),(0:Int),S++[⟨l,dI g l,[],[]⟩]):=by unfold kN; rw[hfi]
  rw[hfz] at hK hKe
  refine d3 (cU ?_)
  unfold mS
  refine bD (fun j e h' nx'=>∃ (k:Nat),k+j=l.length∧nx≤nx'∧aU h h'∧Fr h' nx'∧e 0=ptr bid∧e 1=lw∧e 10=.int .i64 k∧bL h' (e 9) 1 cI (fK (dI g (l.take k))) nx) ?_ (n:=l.length) ⟨0,by omega,by omega,aU.refl h,hf.mono (by omega),e0,e1,rfl,bL.nil⟩
  rintro j e h' nx' ⟨k,hj,hnx,hs,hf',e0,e1,e10,ho⟩ Q' hq hx
  have hB':=hB.sub hs
  have hb':=hB'.blk
  have hn':=hn.sub hs
  have b2:=aO3 (av:=av) (bv:=bv) (nv:=nv) (c:=c) (n:=n) (cv:=cv) (sv:=.slice (some (own sid 4)) cs.length cs.length) (ev:=.int .i64 0)
  unfold rD
  rw[e0,e1,e10]
  (have zy:=hlen;repeat refine zzCz ?_)
  refine cM (fun hk=>?_) (fun hk=>?_)
  ·have hk:k < l.length:=by omega
   have hld:=(hzl.sub hs).load hk
   have hix:=hzl.ix .i64 hk
   have hxr:=hrange _ (List.getElem_mem hk)
   have hrs:dI g (l.take (k+1))=if ctd g l[k] then dI g (l.take k)++[i7 g l[k]] else dI g (l.take k):=by rw[List.take_succ_eq_append_getElem hk,aN1]
   generalize l[k]=x at hld hxr hrs
   obtain⟨ixn,ldn⟩:=ixR hn' hxr.1 hxr.2
   have hrl:(dI g (l.take k)).length≤1000000:=by
    unfold dI
    rw[List.length_map]
    have:=List.length_filter_le (ctd g) (l.take k)
    rw[List.length_take] at this
    omega
   have hj3:∀ (e:dF) (h3:T Obj) (n3:Nat),nx'≤n3→aU h h3→Fr h3 n3→e 0=ptr bid→e 1=lw→e 10=.int .i64 k→bL h3 (e 9) 1 cI (fK (dI g (l.take (k+1)))) nx→jM ro Q' e h3 n3:=by
    intro e h3 n3 hn3 s1 s2 e0 e1 e10 o3
    unfold jM
    rw[e10]
    (repeat refine zzC ?_)
    exact hq (j - 1) _ _ _ _ (by omega) ⟨k+1,by omega,by omega,s1,s2.mono (by omega),e0,e1,rfl,o3⟩ (aU.refl _)
   (have zy:=And.intro @bJ (And.intro hb' (And.intro b2 (And.intro hix (And.intro hld (And.intro ixn ldn)))));repeat refine zzCz ?_)
   cases hct:ctd g x with
   | true =>
    rw[hct,if_pos rfl] at hrs
    obtain⟨m1,m2⟩:=aDZ hct
    refine mY (fun _=>?_) (fun u=>absurd u (by omega))
    rw[m1] at ldn
    (have zy:=And.intro @bJ (And.intro hb' (And.intro b2 (And.intro hix (And.intro hld (And.intro ixn ldn)))));repeat refine zzCz ?_)
    refine yZ ho hrl hf' (by omega) (by omega) (by omega) fun h3 w q1 q2 q3 q4=>?_
    dsimp only
    refine hj3 _ _ _ (by omega) (ho.sub q3 hf (Nat.le_refl _) hs) (q4.mono (by omega)) e0 e1 e10 ?_
    rw[hrs]; exact q1
   | false =>
    rw[hct,if_neg (by decide)] at hrs
    refine mY (fun u=>absurd u (by rw[aDY hct]; omega)) (fun _=>?_)
    (repeat refine zzC ?_)
    refine hj3 _ _ _ (by omega) hs (hf'.mono (by omega)) e0 e1 e10 ?_
    rw[hrs]; exact ho
  ·(repeat refine zzC ?_)
   refine hx _ _ _ _ (fun e=>by cases e) (d3 (cU ?_))
   rw[List.take_of_length_le (by omega)] at ho
   have hrl:(dI g l).length≤512:=by
    unfold dI
    rw[List.length_map]
    have:=List.length_filter_le (ctd g) l
    omega
   have fin:∀ (e':dF) n',e' 0=ptr bid→e' 1=lw→bL h' (e' 9) 1 cI (fK (dI g l)) nx→nx'≤n'→jL ro K e' h' n':=by
    intro e' n' f0 f1 ho hn'
    unfold jL
    rw[f0,f1]
    generalize e' 9=rv at ho
    have hrn:=(ho.sl (ro:=ro)).len
    rw[i6] at hrn
    have b261:=zQ (av:=av) (bv:=bv) (nv:=nv) (n:=n) (cv:=cv) (sv:=.slice (some (own sid 4)) cs.length cs.length) (ev:=.int .i64 0) hB.hc
    have hbl:=zR (av:=av) (bv:=bv) (nv:=nv) (n:=n) (cv:=cv) (sv:=.slice (some (own sid 4)) cs.length cs.length) (ev:=.int .i64 0) hB.hc
    have hbf:bid < nx:=hf.lt' hB.blk
    refine aB hrn ?_
    refine jT (fun u1=>?_) (fun u1=>?_)
    ·rw[if_pos (by omega)] at hKe
     (have zy:=@bJ;repeat refine zzCz ?_)
     refine aB (cE hb' (by rw[hbl]; omega) rfl rfl) ?_
     rw[aGn hB.hc]
     exact⟨_,aU.refl _,hKe (show (110:Int)≠0 by decide) _ _ (by omega) ((hf'.mono (by omega)).upd (Nat.le_refl _) (by omega)) (hs.keepL.upd (by simp)) (by rw[T.get_upd_same])⟩
    ·rw[if_neg (by omega)] at hK hKe
     (have zy:=And.intro @bJ (And.intro hb' b261);repeat refine zzCz ?_)
     refine mY (fun u2=>?_) (fun u2=>?_)
     ·rw[if_pos (by have:=hB.len; omega)] at hKe
      (have zy:=@bJ;repeat refine zzCz ?_)
      refine aB (cE hb' (by rw[hbl]; omega) rfl rfl) ?_
      rw[aGn hB.hc]
      exact⟨_,aU.refl _,hKe (show (3:Int)≠0 by decide) _ _ (by omega) ((hf'.mono (by omega)).upd (Nat.le_refl _) (by omega)) (hs.keepL.upd (by simp)) (by rw[T.get_upd_same])⟩
     ·rw[if_neg (by have:=hB.len; omega)] at hK
      have hK:=hK rfl
      have i1:=hB.ne
      have hsf:sid < nx:=hf.lt' hB.row
      have hlvok:=hl.ok
      have hrvok:=ho.ok
      have ho2:=hB'.own
      (have zy:=And.intro @bJ (And.intro hb' b261);repeat refine zzCz ?_)
      refine aB (aK7 _ _ (iD hlvok) (iD hrvok)) ?_
      refine aOh hlvok hrvok rfl rfl ho2 (by have:=hB.len; have:=hB.few; omega) hf' (Nat.zero_le _) (by omega) (by omega) fun h4 w q1 q2 q3 q4=>?_
      dsimp only
      have hb4:h4.get bid=_:=q3 bid _ hb' (by intro e; exact i1 (Option.some.inj e).symm)
      have hwk:bV w=true:=by rw[q2]; rfl
      (have zy:=@bJ;repeat refine zzCz ?_)
      refine aB (cE hb4 (by rw[hbl]; omega) hwk (iD hwk)) ?_
      rw[aGm hB.hc]
      have g5:(h4.upd bid (some (.cells (oL av bv nv c n cv w (.int .i64 0)).toArray aO))).get bid=_:=T.get_upd_same _ _ _
      have hne5:∀ k,k≠bid→(h4.upd bid (some (.cells (oL av bv nv c n cv w (.int .i64 0)).toArray aO))).get k=h4.get k:=fun k hk=>T.get_upd_ne _ _ hk
      have hf5:=q4.upd (o:=some (.cells (oL av bv nv c n cv w (.int .i64 0)).toArray aO)) (Nat.le_refl _) (show bid < _ by omega)
      have hkp:eI [bid,sid] h (h4.upd bid (some (.cells (oL av bv nv c n cv w (.int .i64 0)).toArray aO))):=((hs.keepL).trans (q3.keepL fun id hid=>by have:sid=id:=Option.some.inj hid; subst this; simp)).upd (by simp)
      generalize h4.upd bid (some (.cells (oL av bv nv c n cv w (.int .i64 0)).toArray aO))=h5 at g5 hne5 hf5 hkp
      have b261':=zQ (av:=av) (bv:=bv) (nv:=nv) (n:=n) (cv:=cv) (sv:=w) (ev:=.int .i64 0) hB.hc
      have hwl:bM w=some (.int .i64 ((S.length:Int)+1)):=by rw[q2,← hB.len]; simp[bM]
      (have zy:=And.intro @bJ (And.intro g5 (And.intro b261' hwl));repeat refine zzCz ?_)
      have hsub1:((S.length:Nat):Int)+1 - 1=(S.length:Nat):=by omega
      rw[hsub1]
      subst q2
      have ht:∀ k o,h'.get k=some o→k≠sid→k≠bid→h5.get k=some o:=fun k o h1 h2 h3=>by
       rw[hne5 k h3]
       exact q3 k o h1 fun e=>h2 (Option.some.inj e).symm
      refine⟨_,aU.refl _,hK h5 _ _ (cs++[[lw,rv,bU,bU]]) (by omega) (hf5.mono (by omega)) hkp (.inr (by omega)) ⟨hB.hc,g5,?_,?_,?_,?_,?_⟩ ?_⟩
      ·rcases q1 with ⟨h9,_⟩ | ⟨id,r1,r2,r3,r4⟩
       ·cases h9
       ·simp only[Value.slice.injEq,Option.some.injEq,own,Addr.mk.injEq] at r2
        rw[hne5 _ (by omega),r2.1.1]; exact r4
      ·intro x hx
       rcases List.mem_append.1 hx with hx | hx
       ·exact hB.z4 x hx
       ·simp at hx; rw[hx]; rfl
      ·simp[hB.len]
      ·have:=hB.len; simp; omega
      ·simp
      ·refine⟨[[lw,rv,bU,bU]],[⟨l,dI g l,[],[]⟩],rfl,rfl,rfl,?_⟩
       intro i x s hx hs9
       cases i with
       | succ i=>simp at hx
       | zero =>
        simp at hx hs9
        subst hx; subst hs9
        refine⟨lw,rv,rfl,?_,?_,rfl,rfl⟩
        ·refine hl.keepK hkp fun id hid=>?_
         obtain⟨p1,p2⟩:=hl.blk hid
         have hn1:id≠bid:=by omega
         have hn3:id≠sid:=by
          rintro rfl
          have:=hB.row
          rw[this] at p2
          simp only[Option.some.injEq,Obj.cells.injEq] at p2
          exact absurd p2.2.1 (by decide)
         simp; exact⟨hn1,hn3⟩
        ·rcases ho with hor | ⟨id,o1,rfl,o4,o5⟩
         ·exact .inl hor
         ·exact .inr ⟨id,by omega,rfl,o4,ht _ _ o5 (by omega) (by omega)⟩
   exact fin _ _ e0 e1 ho (by omega)
end
theorem aVu {ro:Ro}{h:T Obj}{lv rv uv wv:Value}{s:StateD} (y1:ZI ro h lv s.l) (y2:ZI ro h rv s.r) (y3:ZI ro h uv s.rule) (y4:gD ro h wv 1 (v8 ro h) s.next):[lv,rv,uv,wv].all bV=true:=by
 simp only[List.all_cons,List.all_nil,y1.ok,y2.ok,y3.ok,y4.okC]; rfl
theorem aSZ {ro:Ro}{h:T Obj}{bid:Nat}{av bv nv cv sv ev:Value}{c:List Nat}{n:Int}{e:TypeId}{f:Nat × Nat} (hc:c.length=256) (hg:h.get bid=some (.cells (oL av bv nv c n cv sv ev).toArray e f)):loadA ro h 257 (at_ bid 3 0)=some (mW c n):=by
 rw[cQ,hg,bO]
 simp only[Option.bind_some,tl]
 have:(oL av bv nv c n cv sv ev).drop 3=eK c n cv sv++[ev]:=rfl
 rw[if_pos (by rw[zR hc]; omega),this,List.take_append_of_le_length (by rw[cV hc]; omega)]
 unfold eK
 rw[List.take_append_of_le_length (by rw[dV hc]; omega),List.take_of_length_le (by rw[dV hc]; omega)]
 rfl
theorem Rb.updN {h:T Obj}{bid sid i:Nat}{av bv nv cv:Value}{c:List Nat}{n:Int}{S:List StateD}{cs:List (List Value)}{o:Option Obj} (hB:Rb h bid sid av bv nv c n cv S cs) (h1:i≠bid) (h2:i≠sid):Rb (h.upd i o) bid sid av bv nv c n cv S cs:=⟨hB.hc,by rw[T.get_upd_ne _ _ (Ne.symm h1)]; exact hB.blk,by rw[T.get_upd_ne _ _ (Ne.symm h2)]; exact hB.row,hB.z4,hB.len,hB.few,hB.pos⟩
theorem aIH {b:Int}{w:Value} (hw:w.cells=#[w]):cX Tryz.prog bK [(0,.int .i64 b),(1,w)]=some (.agg #[.int .i64 b,w]):=by
 have hz:=yU
 have hp:(match gG Tryz.prog bK with | some (.struct fs)=>oE Tryz.prog fs.toList | _=>none)=some [(0,1),(1,1)]:=by kernel_rfl
 unfold cX
 rw[hz]
 simp only[Option.bind]
 cases hu:gG Tryz.prog bK with
 | none=>rw[hu] at hp; cases hp
 | some d =>
  rw[hu] at hp
  cases d<;>try (cases hp; done)
  rename_i fs
  simp only at hp ⊢
  rw[hp]
  simp only[nL,hw]
  rfl
section
variable {ro:Ro}{g:GlD}{bid sid:Nat}{av bv nv cv lw:Value}{c:List Nat}{n:Int}{S:List StateD}{cs:List (List Value)}
set_option maxRecDepth 8000 in
set_option maxHeartbeats 4000000 in
theorem aJv {at_ cl b:Nat}{code:Int}{s:StateD} (hr:dJ g=true) (hcl:∀ x∈c,x < 256) (hs:S[at_]?=some s) (hok:SOk g S) (h00:at_=0→s.l=[]) (hz0:∃ s,S[0]?=some s∧s.l=[]) (hby:(lR c n)[cl]?=some b) (hb:b < 256) (hc0:0≤code) (hc1:code≤1000000)
  {h h0:T Obj} {nx:Nat} {K:KV} (hf:Fr h nx) (hB:Rb h bid sid av bv nv c n cv S cs) (hS:RSt ro h0 cs S) (hh:aU h0 h) (hn:ZI ro h0 nv (aCe g)) (ha:ZI ro h0 av g.first) (hP:gD ro h0 bv 9 (oU ro h0) g.p)
  (hKe:(fX g (dG g at_ (d4 g s.l code)) (eL (d4 g s.l code)) b S).2.1≠0→∀ h' nx' ov,nx≤nx'→Fr h' nx'→eI [bid] h h'→h'.get bid=some (.cells (oL av bv nv c n cv (.slice (some (own sid 4)) cs.length cs.length) (.int .i64 (fX g (dG g at_ (d4 g s.l code)) (eL (d4 g s.l code)) b S).2.1)).toArray aO)→bV ov=true→K (.agg #[.int .i64 0,ov]) h' nx')
  (hK:(fX g (dG g at_ (d4 g s.l code)) (eL (d4 g s.l code)) b S).2.1=0→∀ h' nx' sid' cs' ov,nx≤nx'→Fr h' nx'→eI [bid,sid] h h'→(sid'=sid∨nx≤sid')→Rb h' bid sid' av bv nv c n cv (fX g (dG g at_ (d4 g s.l code)) (eL (d4 g s.l code)) b S).2.2 cs'→oS h' nx cs cs' S (fX g (dG g at_ (d4 g s.l code)) (eL (d4 g s.l code)) b S).2.2 →
   bL h' ov 1 bS (rK (fX g (dG g at_ (d4 g s.l code)) (eL (d4 g s.l code)) b S).1.ops) nx→K (.agg #[.int .i64 (fX g (dG g at_ (d4 g s.l code)) (eL (d4 g s.l code)) b S).1.to,ov]) h' nx') :
  aN Tryz.prog ro nR [ptr bid,.int .i64 (at_:Int),.int .i64 code,.int .i64 (cl:Int)] h nx K:=by
 obtain⟨hgl,hfr,hmay⟩:=i5 hr
 obtain⟨o1,o2,o3⟩:=hok s (List.mem_of_getElem? hs)
 have hll:s.l.length≤1000000:=by have:=aAB o1; omega
 have hrl:(dI g s.l).length≤1000000:=by rw[← o2]; omega
 generalize hen:dG g at_ (d4 g s.l code)=en at hK hKe
 generalize hst:eL (d4 g s.l code)=st at hK hKe
 have hstq:∀ q,aIu g s.l code q=st q:=fun q=>by rw[← aUa o1,hst]
 apply aAT
 unfold vN
 have hbk0:=hB.blk
 have hsl0:=hB.slr hS hh
 have hfew:=hB.few
 have hatl:=(List.getElem?_eq_some_iff.1 hs).1
 have hate:=(List.getElem?_eq_some_iff.1 hs).2
 have hbn:bid < nx:=hf.lt' hB.blk
 have hsn:sid < nx:=hf.lt' hB.row
 have b1:=aSY (av:=av) (bv:=bv) (nv:=nv) (c:=c) (n:=n) (cv:=cv) (sv:=.slice (some (own sid 4)) cs.length cs.length) (ev:=.int .i64 0)
 have b2:=aO3 (av:=av) (bv:=bv) (nv:=nv) (c:=c) (n:=n) (cv:=cv) (sv:=.slice (some (own sid 4)) cs.length cs.length) (ev:=.int .i64 0)
 have b261:=zQ (av:=av) (bv:=bv) (nv:=nv) (n:=n) (cv:=cv) (sv:=.slice (some (own sid 4)) cs.length cs.length) (ev:=.int .i64 0) hB.hc
 refine aB yU (zO hf (Nat.le_refl _) fun h1 hs1 hf1 g1 _=>?_)
 have g1:h1.get nx=some (.cells [Value.int .i64 0,bU].toArray bK):=g1
 have hb1:=hs1 _ _ hbk0
 obtain⟨y,⟨lv,rv,uv,wv,rfl,y1,y2,y3,y4,y5⟩,w2,w3,w4,w5⟩:=hsl0.at hatl
 rw[hate] at y1 y2 y3 y4
 rw[o2] at y2
 have w3:=yM hs1 w3
 have six:=hsl0.ix .i64 hatl
 have hvo:=aVu y1 (by rw[o2]; exact y2) y3 y4
 (have zy:=And.intro @bJ (And.intro hb1 (And.intro b261 (And.intro six w3)));repeat refine zzCz ?_)
 refine gP oI rfl (x:=[lv,rv,uv,wv]) rfl rfl hvo hf1 (show nx+1≤nx+9 by omega) fun h2 hs2 hf2 g2 _=>?_
 have hs12:=hs1.trans hs2
 have hb2:=hs12 _ _ hbk0
 have g12:=hs2 _ _ g1
 have lsp:=aSZ (ro:=ro) hB.hc hb2
 (have zy:=And.intro @bJ lsp;repeat refine zzCz ?_)
 refine aCA hB.hc hcl (hf2.mono (show nx+9+1≤nx+17 by omega)) fun r h3 n3 hn3 hs3 hf3 hr3=>?_
 have hrsl:Sl ro h3 r 1 (eS (lR c n)):=hr3.sl
 obtain⟨hcll,hcle⟩:=List.getElem?_eq_some_iff.1 hby
 have hrix:=hrsl.ix .i64 (i:=cl) (by rw[i9]; exact hcll)
 have hrld:=hrsl.load1 (i:=cl) (x:=.int .u8 (b:Int)) (by rw[y7 hcll,hcle])
 (have zy:=And.intro hrix hrld;repeat refine zzCz ?_)
 have hs03:=hs12.trans hs3
 have g13:=hs3 _ _ g12
 have g23:=hs3 _ _ g2
 refine bD (fun j e h' nx'=>∃ (k:Nat),k+j=g.p.length∧nx+17≤nx'∧aU h h'∧Fr h' nx'∧e 0=ptr bid∧e 1=.int .i64 (at_:Int)∧e 2=.int .i64 code∧e 8=ptr nx∧e 9=ptr (nx+9)∧e 10=.int .u8 (b:Int)∧e 13=.int .i64 k ∧
  bL h' (e 11) 1 cI (fK ((fM k).filter (jF g en st b))) nx∧bL h' (e 12) 1 bS (rK (pP g en st ((fM k).filter (jF g en st b)))) nx∧h'.get nx=some (.cells [Value.int .i64 0,bU].toArray bK)∧h'.get (nx+9)=some (.cells [lv,rv,uv,wv].toArray aR)) ?_ (n:=g.p.length)
  ⟨0,by omega,by omega,hs03,hf3.mono (by omega),rfl,rfl,rfl,rfl,rfl,rfl,rfl,bL.nil,bL.nil,g13,g23⟩
 rintro j e h' nx' ⟨k,hj,hnx,hs',hf',e0,e1,e2,e8,e9,e10,e13,ho,hov,g1,g9⟩ Q' hq hx
 have hB':=hB.sub hs'
 have hbk:=hB'.blk
 have hh':=hh.trans hs'
 have hP':=hP.sub hh' (oU.sub hh')
 have hn':=hn.sub hh'
 have ha':=ha.sub hh'
 have hpl:=hP'.len
 unfold rE
 rw[e0,e1,e2,e9,e10,e13]
 (have zy:=And.intro @bJ (And.intro hbk (And.intro b1 hpl));repeat refine zzCz ?_)
 refine cM (fun hk=>?_) (fun hk=>?_)
 ·have hk:k < g.p.length:=by omega
  have hls:(fM (k+1)).filter (jF g en st b)=if jF g en st b (k:Int) then (fM k).filter (jF g en st b)++[(k:Int)] else (fM k).filter (jF g en st b):=by
   rw[tP,List.filter_append]
   cases hq:jF g en st b (k:Int)<;>simp[hq]
  have hLl:((fM k).filter (jF g en st b)).length≤512:=by
   have:=List.length_filter_le (jF g en st b) (fM k)
   rw[wM] at this; omega
  have hol:=aL8 g en st ((fM k).filter (jF g en st b))
  obtain⟨x,⟨pv,rfl,q1,q2⟩,x2⟩:=hP'.loadAK hk
  obtain⟨x',_,_,x3,x4,x5⟩:=hP'.at hk
  have hat:=aQ6 hk
  have hix:=hP'.ix .i64 hk
  have f0:=x4 0
  have hsp:(((oF g.p[k] pv).drop 0).take 4).toArray=(gA g.p[k].s).toArray:=rfl
  have ldS:=x2 0 4 (by show 0+4≤9; omega)
  have ldS:loadA ro h' 4 (fP 9 bv k 0)=some (qV g.p[k].s):=ldS
  obtain⟨ixn,ldn⟩:=ixR (q:=(k:Int)) hn' (by omega) (by omega)
  rw[Int.toNat_natCast] at ixn ldn
  have hj2:∀ (e:dF) (h3:T Obj) (n3:Nat),nx'≤n3→aU h h3→Fr h3 n3→e 0=ptr bid→e 1=.int .i64 (at_:Int)→e 2=.int .i64 code→e 8=ptr nx→e 9=ptr (nx+9)→e 10=.int .u8 (b:Int)→e 13=.int .i64 k →
    bL h3 (e 11) 1 cI (fK ((fM (k+1)).filter (jF g en st b))) nx→bL h3 (e 12) 1 bS (rK (pP g en st ((fM (k+1)).filter (jF g en st b)))) nx→h3.get nx=some (.cells [Value.int .i64 0,bU].toArray bK)→h3.get (nx+9)=some (.cells [lv,rv,uv,wv].toArray aR)→eN ro Q' e h3 n3:=by
   intro e h3 n3 hn3 s1 s2 e0 e1 e2 e8 e9 e10 e13 o3 o4 g3 g4
   unfold eN
   rw[e13]
   (repeat refine zzC ?_)
   exact hq (j - 1) _ _ _ _ (by omega) ⟨k+1,by omega,by omega,s1,s2.mono (by omega),e0,e1,e2,e8,e9,e10,rfl,o3,o4,g3,g4⟩ (aU.refl _)
  generalize (fM k).filter (jF g en st b)=L at hls hLl hol ho hov
  generalize (fM (k+1)).filter (jF g en st b)=L' at hls hj2
  have htk:jF g en st b (k:Int)=(g.p[k].s.testBit b&&(en k || st k)):=by unfold jF; rw[hat]
  (have zy:=And.intro @bJ (And.intro hbk (And.intro b1 (And.intro hix (And.intro f0 ldS))));repeat refine zzCz ?_)
  refine pY hb (hf'.mono (show nx'≤nx'+19 by omega)) fun n4 hn4=>?_
  cases hhas:(g.p[k]).s.testBit b with
  | false =>
   rw[hhas,Bool.false_and] at htk
   rw[htk,if_neg (by decide)] at hls
   (repeat refine zzC ?_)
   refine hj2 _ _ _ (by omega) hs' (hf'.mono (by omega)) e0 e1 e2 e8 e9 e10 e13 ?_ ?_ g1 g9
   ·rw[hls]; exact ho
   ·rw[hls]; exact hov
  | true =>
   rw[hhas,Bool.true_and] at htk
   have y1':=y1.sub hs'
   have y2':=y2.sub hs'
   (repeat refine zzC ?_)
   refine aB (bX (l:=[lv,rv,uv,wv]) g9 rfl) ?_
   refine aHF (uv:=uv) (wv:=wv) h00 o1 hr hll hrl hc0 hc1 (hf'.mono (show nx'≤n4+7 by omega)) hbk hn' ha' hP' y1' y2' hvo fun n5 hn5=>?_
   rw[hen]
   refine aB (bX (l:=[lv,rv,uv,wv]) g9 rfl) ?_
   refine aHv (uv:=uv) (wv:=wv) hll hrl hc0 hc1 (by omega) (by omega) (hf'.mono (show nx'≤n5+6 by omega)) hbk hn' y1' y2' fun n6 hn6=>?_
   rw[hstq]
   cases hek:en k with
   | false =>
    rw[hek,Bool.false_or] at htk
    cases hsk:st k with
    | false =>
     rw[hsk] at htk
     rw[htk,if_neg (by decide)] at hls
     (repeat refine zzC ?_)
     refine hj2 _ _ _ (by omega) hs' (hf'.mono (by omega)) e0 e1 e2 e8 e9 e10 e13 ?_ ?_ g1 g9
     ·rw[hls]; exact ho
     ·rw[hls]; exact hov
    | true =>
     rw[hsk] at htk
     rw[htk,if_pos rfl] at hls
     (repeat refine zzC ?_)
     refine yZ ho (by omega) (hf'.mono (show nx'≤n6 by omega)) (by omega) (by omega) (by omega) fun h6 w q1 q2 q3 q4=>?_
     dsimp only
     rw[← hls] at q1
     have hkp:∀ i o,h'.get i=some o→(∀ c f,o≠.cells c cI f)→h6.get i=some o:=fun i o hi hty=>q3 i o hi fun e=>by
      obtain⟨_,z1⟩:=ho.blk e
      rw[hi] at z1
      exact hty _ _ (Option.some.inj z1)
     have hb6:=hkp _ _ hbk (by intro c f e; simp only[Obj.cells.injEq] at e; exact absurd e.2.1 (by decide))
     have g16:=hkp _ _ g1 (by intro c f e; simp only[Obj.cells.injEq] at e; exact absurd e.2.1 (by decide))
     have g96:=hkp _ _ g9 (by intro c f e; simp only[Obj.cells.injEq] at e; exact absurd e.2.1 (by decide))
     have hov6:bL h6 (e 12) 1 bS (rK (pP g en st L)) nx:=hov.keep q3 fun id hid=>by
      obtain⟨_,z1⟩:=hov.blk hid
      exact ho.ne z1 (by decide)
     have hss:aU h h6:=ho.sub q3 hf (Nat.le_refl _) hs'
     have ldn6:load1 ro h6 (fH 1 nv k)=some (.int .i64 (pV g k)):=by
      have:=(ixR (q:=(k:Int)) (hn.sub (hh.trans hss)) (by omega) (by omega)).2
      rwa [Int.toNat_natCast] at this
     (have zy:=And.intro @bJ (And.intro hb6 (And.intro b2 (And.intro ixn ldn6)));repeat refine zzCz ?_)
     cases hct:ctd g (k:Int) with
     | false =>
      refine cM (fun _=>?_) (fun u=>absurd u (by rw[aDY hct]; omega))
      (repeat refine zzC ?_)
      refine hj2 _ _ _ (by omega) hss (q4.mono (by omega)) e0 e1 e2 e8 e9 e10 e13 q1 ?_ g16 g96
      rw[hls,tY,if_neg (by rw[hct]; decide)]; exact hov6
     | true =>
      refine cM (fun u=>absurd u (by have:=(aDZ hct).2; omega)) (fun _=>?_)
      (repeat refine zzC ?_)
      refine aMb (b:=1) rfl hov6 (by omega) (q4.mono (show _≤_ from Nat.le_refl _)) (by omega) (by omega) (by omega) fun h8 w8 r1 r2 r3 r4=>?_
      dsimp only
      have r6:=r3 _ _ g16 (hov6.ne g16 (by decide))
      have r9:=r3 _ _ g96 (hov6.ne g96 (by decide))
      have hxl:bL h8 w 1 cI (fK L') nx:=q1.keep r3 fun id hid=>by
       obtain⟨_,z1⟩:=q1.blk hid
       exact hov6.ne z1 (by decide)
      have hss8:aU h h8:=hov6.sub r3 hf (Nat.le_refl _) hss
      refine hj2 _ _ _ (by omega) hss8 (r4.mono (by omega)) e0 e1 e2 e8 e9 e10 e13 hxl ?_ r6 r9
      rw[hls,tY,if_pos hct,show opZ en st (k:Int)=1 by unfold opZ; rw[hsk]; rw[hek]; rfl]
      exact r1
   | true =>
    rw[hek,Bool.true_or] at htk
    rw[htk,if_pos rfl] at hls
    cases hsk:st k with
    | false =>
     (repeat refine zzC ?_)
     refine yZ ho (by omega) (hf'.mono (show nx'≤n6 by omega)) (by omega) (by omega) (by omega) fun h6 w q1 q2 q3 q4=>?_
     dsimp only
     rw[← hls] at q1
     have hkp:∀ i o,h'.get i=some o→(∀ c f,o≠.cells c cI f)→h6.get i=some o:=fun i o hi hty=>q3 i o hi fun e=>by
      obtain⟨_,z1⟩:=ho.blk e
      rw[hi] at z1
      exact hty _ _ (Option.some.inj z1)
     have hb6:=hkp _ _ hbk (by intro c f e; simp only[Obj.cells.injEq] at e; exact absurd e.2.1 (by decide))
     have g16:=hkp _ _ g1 (by intro c f e; simp only[Obj.cells.injEq] at e; exact absurd e.2.1 (by decide))
     have g96:=hkp _ _ g9 (by intro c f e; simp only[Obj.cells.injEq] at e; exact absurd e.2.1 (by decide))
     have hov6:bL h6 (e 12) 1 bS (rK (pP g en st L)) nx:=hov.keep q3 fun id hid=>by
      obtain⟨_,z1⟩:=hov.blk hid
      exact ho.ne z1 (by decide)
     have hss:aU h h6:=ho.sub q3 hf (Nat.le_refl _) hs'
     have ldn6:load1 ro h6 (fH 1 nv k)=some (.int .i64 (pV g k)):=by
      have:=(ixR (q:=(k:Int)) (hn.sub (hh.trans hss)) (by omega) (by omega)).2
      rwa [Int.toNat_natCast] at this
     (have zy:=And.intro @bJ (And.intro hb6 (And.intro b2 (And.intro ixn ldn6)));repeat refine zzCz ?_)
     cases hct:ctd g (k:Int) with
     | false =>
      refine cM (fun _=>?_) (fun u=>absurd u (by rw[aDY hct]; omega))
      (repeat refine zzC ?_)
      refine hj2 _ _ _ (by omega) hss (q4.mono (by omega)) e0 e1 e2 e8 e9 e10 e13 q1 ?_ g16 g96
      rw[hls,tY,if_neg (by rw[hct]; decide)]; exact hov6
     | true =>
      refine cM (fun u=>absurd u (by have:=(aDZ hct).2; omega)) (fun _=>?_)
      (repeat refine zzC ?_)
      refine aMb (b:=3) rfl hov6 (by omega) (q4.mono (show _≤_ from Nat.le_refl _)) (by omega) (by omega) (by omega) fun h8 w8 r1 r2 r3 r4=>?_
      dsimp only
      have r6:=r3 _ _ g16 (hov6.ne g16 (by decide))
      have r9:=r3 _ _ g96 (hov6.ne g96 (by decide))
      have hxl:bL h8 w 1 cI (fK L') nx:=q1.keep r3 fun id hid=>by
       obtain⟨_,z1⟩:=q1.blk hid
       exact hov6.ne z1 (by decide)
      have hss8:aU h h8:=hov6.sub r3 hf (Nat.le_refl _) hss
      refine hj2 _ _ _ (by omega) hss8 (r4.mono (by omega)) e0 e1 e2 e8 e9 e10 e13 hxl ?_ r6 r9
      rw[hls,tY,if_pos hct,show opZ en st (k:Int)=3 by unfold opZ; rw[hsk]; rfl]
      exact r1
    | true =>
     (repeat refine zzC ?_)
     refine yZ ho (by omega) (hf'.mono (show nx'≤n6 by omega)) (by omega) (by omega) (by omega) fun h6 w q1 q2 q3 q4=>?_
     dsimp only
     rw[← hls] at q1
     have hkp:∀ i o,h'.get i=some o→(∀ c f,o≠.cells c cI f)→h6.get i=some o:=fun i o hi hty=>q3 i o hi fun e=>by
      obtain⟨_,z1⟩:=ho.blk e
      rw[hi] at z1
      exact hty _ _ (Option.some.inj z1)
     have hb6:=hkp _ _ hbk (by intro c f e; simp only[Obj.cells.injEq] at e; exact absurd e.2.1 (by decide))
     have g16:=hkp _ _ g1 (by intro c f e; simp only[Obj.cells.injEq] at e; exact absurd e.2.1 (by decide))
     have g96:=hkp _ _ g9 (by intro c f e; simp only[Obj.cells.injEq] at e; exact absurd e.2.1 (by decide))
     have hov6:bL h6 (e 12) 1 bS (rK (pP g en st L)) nx:=hov.keep q3 fun id hid=>by
      obtain⟨_,z1⟩:=hov.blk hid
      exact ho.ne z1 (by decide)
     have hss:aU h h6:=ho.sub q3 hf (Nat.le_refl _) hs'
     have ldn6:load1 ro h6 (fH 1 nv k)=some (.int .i64 (pV g k)):=by
      have:=(ixR (q:=(k:Int)) (hn.sub (hh.trans hss)) (by omega) (by omega)).2
      rwa [Int.toNat_natCast] at this
     (have zy:=And.intro @bJ (And.intro hb6 (And.intro b2 (And.intro ixn ldn6)));repeat refine zzCz ?_)
     cases hct:ctd g (k:Int) with
     | false =>
      refine cM (fun _=>?_) (fun u=>absurd u (by rw[aDY hct]; omega))
      (repeat refine zzC ?_)
      refine hj2 _ _ _ (by omega) hss (q4.mono (by omega)) e0 e1 e2 e8 e9 e10 e13 q1 ?_ g16 g96
      rw[hls,tY,if_neg (by rw[hct]; decide)]; exact hov6
     | true =>
      refine cM (fun u=>absurd u (by have:=(aDZ hct).2; omega)) (fun _=>?_)
      (repeat refine zzC ?_)
      refine aMb (b:=2) rfl hov6 (by omega) (q4.mono (show _≤_ from Nat.le_refl _)) (by omega) (by omega) (by omega) fun h8 w8 r1 r2 r3 r4=>?_
      dsimp only
      have r6:=r3 _ _ g16 (hov6.ne g16 (by decide))
      have r9:=r3 _ _ g96 (hov6.ne g96 (by decide))
      have hxl:bL h8 w 1 cI (fK L') nx:=q1.keep r3 fun id hid=>by
       obtain⟨_,z1⟩:=q1.blk hid
       exact hov6.ne z1 (by decide)
      have hss8:aU h h8:=hov6.sub r3 hf (Nat.le_refl _) hss
      refine hj2 _ _ _ (by omega) hss8 (r4.mono (by omega)) e0 e1 e2 e8 e9 e10 e13 hxl ?_ r6 r9
      rw[hls,tY,if_pos hct,show opZ en st (k:Int)=2 by unfold opZ; rw[hsk]; rw[hek]; rfl]
      exact r1
 ·(repeat refine zzC ?_)
  refine hx _ _ _ _ (fun e=>by cases e) (d3 (cU ?_))
  have hkk:k=g.p.length:=by omega
  rw[hkk] at ho hov
  have hlz:(fM g.p.length).filter (jF g en st b)=lZ g en st b:=rfl
  rw[hlz] at ho hov
  have hlr:=aRR g en st b
  have hlln:=aRQ g en st b
  have hgn:=@rI g en st b S
  have hge:=@uO g en st b S
  generalize lZ g en st b=L at ho hov hlr hlln hgn hge
  have fin:∀ (e':dF) n' lw ov,e' 0=ptr bid→e' 8=ptr nx→e' 11=lw→e' 12=ov→bL h' lw 1 cI (fK L) nx→bL h' ov 1 bS (rK (pP g en st L)) nx→nx'≤n'→jN ro K e' h' n':=by
   intro e' n' lw ov f0 f8 f11 f12 ho hov hn9
   have hln:=(ho.sl (ro:=ro)).len
   rw[i6] at hln
   unfold jN
   rw[f0,f8,f11,f12]
   (have zy:=hln;repeat refine zzCz ?_)
   refine i4 (fun u=>?_) (fun u=>?_)
   ·have hL:L=[]:=List.eq_nil_iff_length_eq_zero.2 (by omega)
    have hgo:=hgn hL
    rw[hgo] at hK
    refine aG (aB aK6 ?_)
    refine aB (eF (l:=[Value.int .i64 0,bU]) (vs:=[.int .i64 (-1),bU]) g1 rfl rfl rfl rfl) ?_
    refine aB (bX (l:=[.int .i64 (-1),bU]) (by rw[T.get_upd_same]) rfl) ?_
    exact⟨_,aU.refl _,hK rfl _ _ sid cs bU (by omega) ((hf'.mono (by omega)).upd (Nat.le_refl _) (by omega)) (hs'.keepL.updN hf (Nat.le_refl _)) (.inl rfl) (hB'.updN (by omega) (by omega)) oS.refl bL.nil⟩
   ·have hL:L≠[]:=fun hL=>u (by rw[hL]; rfl)
    have hgo:=hge hL
    rw[hgo] at hK hKe
    dsimp only at hK hKe
    refine aE ?_
    have hovk:=hov.ok
    refine aJu hgl hlr hL hz0 (hf'.mono (show nx'≤n'+6 by omega)) hB' hS hh' hn' ho (by omega) (by omega) (fun hz h9 n9 p1 p2 p3 p4=>?_) fun hz h9 n9 sid' cs' p1 p2 p3 p4 p5 p6=>?_
    ·have g19:=p3 _ _ g1 (by simp; omega)
     refine aB (aIH (iD hovk)) ?_
     refine aB (eF (l:=[Value.int .i64 0,bU]) (vs:=[.int .i64 0,ov]) g19 rfl rfl rfl (by simp only[List.all_cons,List.all_nil,hovk]; rfl)) ?_
     refine aB (bX (l:=[.int .i64 0,ov]) (by rw[T.get_upd_same]) rfl) ?_
     refine⟨_,aU.refl _,hKe hz _ _ ov (by omega) ((p2.mono (by omega)).upd (Nat.le_refl _) (by omega)) ((hs'.keepL.trans p3).updN hf (Nat.le_refl _)) ?_ hovk⟩
     rw[T.get_upd_ne _ _ (by omega)]; exact p4
    ·have g19:=p3 _ _ g1 (by simp; omega)
     have hov9:bL h9 ov 1 bS (rK (pP g en st L)) nx:=hov.keepK p3 fun id hid=>by
      have:=(hov.blk hid).1
      simp; omega
     refine aB (aIH (iD hovk)) ?_
     refine aB (eF (l:=[Value.int .i64 0,bU]) (vs:=[.int .i64 (kN g S L).1,ov]) g19 rfl rfl rfl (by simp only[List.all_cons,List.all_nil,hovk]; rfl)) ?_
     refine aB (bX (l:=[.int .i64 (kN g S L).1,ov]) (by rw[T.get_upd_same]) rfl) ?_
     exact⟨_,aU.refl _,hK hz _ _ sid' cs' ov (by omega) ((p2.mono (by omega)).upd (Nat.le_refl _) (by omega)) ((hs'.keepL.trans p3).updN hf (Nat.le_refl _)) (by omega) (p5.updN (by omega) (by omega)) (p6.updNe g19 (by decide)) (hov9.updNe g19 (by decide))⟩
  exact fin _ _ _ _ e0 e8 rfl rfl ho hov (by omega)
end
section
variable {h h' a b':T Obj}{bid sid sid' lo aid:Nat}{av bv nv cv:Value}{c:List Nat}{n:Int}{S S':List StateD}{cs cs':List (List Value)}
theorem eI.chain2 (hf:Fr h lo) (h1:eI [bid,sid] h a) (h2:eI [bid,sid'] a b') (hs:sid'=sid∨lo≤sid'):eI [bid,sid] h b':=fun k o hk hn=>by
 refine h2 k o (h1 k o hk hn) ?_
 have:=hf.lt' hk
 simp only[List.mem_cons,List.not_mem_nil,or_false,not_or] at hn ⊢
 refine⟨hn.1,?_⟩
 rcases hs with rfl | hs
 ·exact hn.2
 ·omega
theorem eI.del2 (hf:Fr h lo) (h1:eI [bid,sid] h a) (hs:sid'=sid∨lo≤sid'):aU (V.del h [bid,sid,aid]) (V.del a [bid,sid',aid]):=h1.del (fun k h=>by
 simp only[List.mem_cons,List.not_mem_nil,or_false] at h ⊢
 exact h.elim .inl fun h=>.inr (.inl h)) fun k hk=>by
 simp only[List.mem_cons,List.not_mem_nil,or_false] at hk ⊢
 rcases hk with hk | hk | hk
 ·exact .inl (.inl hk)
 ·rcases hs with hs | hs
  ·exact .inl (.inr (.inl (hk.trans hs)))
  ·exact .inr (hf k (by omega))
 ·exact .inl (.inr (.inr hk))
theorem Rb.tyk (hB:Rb h bid sid av bv nv c n cv S cs) (hk:eI [bid,sid] h h') {e:TypeId} (he1:e≠aO) (he2:e≠aR):dK e h h':=fun i x f hg=>hk _ _ hg (by
 have h1:=hB.blk
 have h2:=hB.row
 simp only[List.mem_cons,List.not_mem_nil,or_false,not_or]
 refine⟨?_,?_⟩<;>rintro rfl
 ·rw[hg] at h1
  simp only[Option.some.injEq,Obj.cells.injEq] at h1
  exact he1 h1.2.1
 ·rw[hg] at h2
  simp only[Option.some.injEq,Obj.cells.injEq] at h2
  exact he2 h2.2.1)
theorem Rb.delN (hB:Rb h bid sid av bv nv c n cv S cs) (hA:h.get aid=some (.cells nB.toArray bI)) {v:Value}{z:Nat}{e:TypeId}{l:List (List Value)} (ho:bL h v z e l lo) (he1:e≠aO) (he2:e≠aR) (he3:e≠bI):bL (V.del h [bid,sid,aid]) v z e l lo:=ho.del fun id hid=>by
 have hg:=(ho.blk hid).2
 have h1:=hB.blk
 have h2:=hB.row
 simp only[List.mem_cons,List.not_mem_nil,or_false,not_or]
 refine⟨?_,?_,?_⟩<;>rintro rfl
 ·rw[hg] at h1
  simp only[Option.some.injEq,Obj.cells.injEq] at h1
  exact he1 h1.2.1
 ·rw[hg] at h2
  simp only[Option.some.injEq,Obj.cells.injEq] at h2
  exact he2 h2.2.1
 ·rw[hg] at hA
  simp only[Option.some.injEq,Obj.cells.injEq] at hA
  exact he3 hA.2.1
theorem Rb.keepN (hB:Rb h bid sid av bv nv c n cv S cs) (h1:∀ o,h.get bid=some o→h'.get bid=some o) (h2:∀ o,h.get sid=some o→h'.get sid=some o):Rb h' bid sid av bv nv c n cv S cs:=⟨hB.hc,h1 _ hB.blk,h2 _ hB.row,hB.z4,hB.len,hB.few,hB.pos⟩
theorem RSt.grow {ro:Ro} (hA:h'.get aid=some (.cells nB.toArray bI)) (hS:RSt ro (del h [bid,sid,aid]) cs S) (hf:Fr h lo) (hk:eI [bid,sid] h h') (hs:sid'=sid∨lo≤sid') (hB:Rb h' bid sid' av bv nv c n cv S' cs') (hg:oS h' lo cs cs' S S') (hl:cs.length=S.length) (h3:∀ t∈S',t.r.length≤3):RSt ro (del h' [bid,sid',aid]) cs' S':=by
 obtain⟨ds,T,rfl,rfl,a3,a4⟩:=hg
 intro i x t hx ht
 have htm:=List.mem_of_getElem? ht
 rcases Nat.lt_or_ge i cs.length with hil | hil
 ·rw[List.getElem?_append_left hil] at hx
  rw[List.getElem?_append_left (by omega)] at ht
  exact eR.sub (hk.del2 hf hs) _ _ (hS i x t hx ht)
 ·rw[List.getElem?_append_right hil] at hx
  rw[List.getElem?_append_right (by omega),← hl] at ht
  obtain⟨lv,rv,e1,e2,e3,e4,e5⟩:=a4 _ x t hx ht
  exact aWS (lo:=lo) ⟨lv,rv,e1,hB.delN hA e2 (by decide) (by decide) (by decide),hB.delN hA e3 (by decide) (by decide) (by decide),e4,e5⟩ (h3 t htm)
end
def KpG (e' e:dF):Prop:=e' 2=e 2∧e' 4=e 4∧e' 7=e 7∧e' 8=e 8∧e' 9=e 9∧e' 10=e 10∧e' 11=e 11
section
variable {ro:Ro}{g:GlD}{bid sid aid:Nat}{av bv nv cv:Value}{c:List Nat}{n:Int}{S:List StateD}{cs:List (List Value)}
set_option maxRecDepth 8000 in
set_option maxHeartbeats 2000000 in
theorem aUF {at_:Nat}{code:Int}{s:StateD}{B:List Nat} (hr:dJ g=true) (hcl:∀ x∈c,x < 256) (hBf:lR c n=B) (hBn:n=(B.length:Int)) (hBl:B.length≤256) (hb:∀ b∈B,b < 256) (hs:S[at_]?=some s) (hok:SOk g S) (h00:at_=0→s.l=[]) (hz0:∃ s,S[0]?=some s∧s.l=[]) (hc0:0≤code) (hc1:code≤1000000)
  {h:T Obj} {nx:Nat} {Q:KE} {e0:dF} (hf:Fr h nx) (hB:Rb h bid sid av bv nv c n cv S cs) (hS:RSt ro (del h [bid,sid,aid]) cs S) (hn:ZI ro (del h [bid,sid,aid]) nv (aCe g)) (ha:ZI ro (del h [bid,sid,aid]) av g.first) (hP:gD ro (del h [bid,sid,aid]) bv 9 (oU ro (del h [bid,sid,aid])) g.p) (hA:h.get aid=some (.cells nB.toArray bI))
  (e2:e0 2=ptr aid) (e4:e0 4=ptr bid) (e7:e0 7=.int .i64 (at_:Int)) (e11:e0 11=.int .i64 code) (e12:e0 12=bU) (e13:e0 13=.int .i64 0)
  (hQe:(kH g (dG g at_ (d4 g s.l code)) (eL (d4 g s.l code)) B S).1≠0→∀ e' h' nx',nx≤nx'→Fr h' nx'→eI [bid,sid] h h'→h'.get aid=some (.cells nB.toArray bI)→e' 2=ptr aid→e' 3=.int .i64 (kH g (dG g at_ (d4 g s.l code)) (eL (d4 g s.l code)) B S).1→Q .ret e' h' nx')
  (hQ:(kH g (dG g at_ (d4 g s.l code)) (eL (d4 g s.l code)) B S).1=0→∀ e' h' nx' sid' cs' mcs,nx≤nx'→Fr h' nx'→eI [bid,sid] h h'→(sid'=sid∨nx≤sid')→Rb h' bid sid' av bv nv c n cv (kH g (dG g at_ (d4 g s.l code)) (eL (d4 g s.l code)) B S).2.2 cs'→oS h' nx cs cs' S (kH g (dG g at_ (d4 g s.l code)) (eL (d4 g s.l code)) B S).2.2 →
   bL h' (e' 12) 2 bK mcs nx→xA h' nx mcs (kH g (dG g at_ (d4 g s.l code)) (eL (d4 g s.l code)) B S).2.1→KpG e' e0→Q (.exit 6) e' h' nx') :
  dC (aBE ro) e0 h nx Q:=by
 generalize hen:dG g at_ (d4 g s.l code)=en at hQ hQe
 generalize hst:eL (d4 g s.l code)=st at hQ hQe
 generalize hZ:kH g en st B S=Z at hQ hQe
 have hatl:=(List.getElem?_eq_some_iff.1 hs).1
 refine bD (fun j e h' nx'=>∃ (i sid':Nat) (cs':List (List Value)) (S':List StateD) (mcs:List (List Value)) (row:List MoveD),i+j=B.length∧nx≤nx'∧Fr h' nx'∧eI [bid,sid] h h'∧(sid'=sid∨nx≤sid')∧Rb h' bid sid' av bv nv c n cv S' cs'∧SOk g S' ∧
  oS h' nx cs cs' S S'∧xA h' nx mcs row∧bL h' (e 12) 2 bK mcs nx∧row.length=i∧e 13=.int .i64 i∧KpG e e0 ∧
  ((kH g en st (B.drop i) S').1,row++(kH g en st (B.drop i) S').2.1,(kH g en st (B.drop i) S').2.2)=Z) ?_ (n:=B.length)
  ⟨0,sid,cs,S,[],[],by omega,by omega,hf,(aU.refl h).keepL,.inl rfl,hB,hok,oS.refl,⟨rfl,fun i x m hx=>by simp at hx⟩,by rw[e12]; exact bL.nil,rfl,e13,⟨rfl,rfl,rfl,rfl,rfl,rfl,rfl⟩,by rw[← hZ]; rfl⟩
 rintro j e h' nx' ⟨i,sid',cs',S',mcs,row,hj,hnx,hf',hkp,hsd,hB',hok',hgr,hro,hrv,hrl,e13,hkg,hrow⟩ Q' hq hx
 obtain⟨k2,k4,k7,k8,k9,k10,k11⟩:=hkg
 have e4':e 4=ptr bid:=k4.trans e4
 have e7':e 7=.int .i64 (at_:Int):=k7.trans e7
 have e11':e 11=.int .i64 code:=k11.trans e11
 have e2':e 2=ptr aid:=k2.trans e2
 have hA':h'.get aid=some (.cells nB.toArray bI):=hB.tyk hkp (by decide) (by decide) _ _ _ hA
 have hsubD:=hkp.del2 (aid:=aid) hf hsd
 have hdS:=j3 h' [bid,sid',aid]
 have hS':=hS.grow hA' hf hkp hsd hB' hgr hB.len fun t ht=>(hok' t ht).2.2
 have hgr0:=hgr
 obtain⟨ds,TT,a1,a2,a3,a4⟩:=hgr0
 have hs':S'[at_]?=some s:=by rw[a2,List.getElem?_append_left hatl]; exact hs
 have hz0':∃ s,S'[0]?=some s∧s.l=[]:=by
  obtain⟨z,z1,z2⟩:=hz0
  exact⟨z,by rw[a2,List.getElem?_append_left (List.getElem?_eq_some_iff.1 z1).1]; exact z1,z2⟩
 have hbk:=hB'.blk
 have b259:=aUS (av:=av) (bv:=bv) (nv:=nv) (n:=n) (cv:=cv) (sv:=.slice (some (own sid' 4)) cs'.length cs'.length) (ev:=.int .i64 0) hB.hc
 unfold aBE
 rw[e4',e7',e11',e13,e2']
 rw[hBn] at b259
 have hbk2:=hbk
 rw[hBn] at hbk2
 (have zy:=And.intro @bJ (And.intro hbk2 b259);repeat refine zzCz ?_)
 refine cM (fun hi=>?_) (fun hi=>?_)
 ·have hi:i < B.length:=by omega
  have hby:(lR c n)[i]?=some B[i]:=by rw[hBf]; exact List.getElem?_eq_getElem hi
  have hbb:=hb _ (List.getElem_mem hi)
  rw[cP hi,tZ] at hrow
  generalize B[i]=b at hrow hby hbb
  refine aG ?_
  refine aJv hr hcl hs' hok' h00 hz0' hby hbb hc0 hc1 (hf'.mono (show nx'≤nx'+14 by omega)) hB' hS' hdS (hn.sub hsubD) (ha.sub hsubD) (hP.sub hsubD (oU.sub hsubD)) (fun hz h3 n3 ov r1 r2 r3 r4 r5=>?_) fun hz h3 n3 sid3 cs3 ov r1 r2 r3 r4 r5 r6 r7=>?_
  ·rw[hen,hst] at hz r4
   rw[if_neg hz] at hrow
   have hz1:Z.1=(fX g en st b S').2.1:=by rw[← hrow]
   have t3:dK bK h' h3:=hB'.tyk (r3.mono (by simp)) (by decide) (by decide)
   have tA:dK bI h' h3:=hB'.tyk (r3.mono (by simp)) (by decide) (by decide)
   have hrv3:=hrv.ty t3
   refine aKQ rfl r5 hrv3 (by rw[hro.1]; omega) r2 (by omega) (Nat.le_refl _) (by omega) fun h5 w5 s1 s2 s3 s4=>?_
   dsimp only
   have g5:=s3 _ _ r4 (hrv3.neB r4 (by intro c f e; simp only[Obj.cells.injEq] at e; exact absurd e.2.1 (by decide)))
   have b262:=aO5 (av:=av) (bv:=bv) (nv:=nv) (n:=n) (cv:=cv) (sv:=.slice (some (own sid' 4)) cs'.length cs'.length) (ev:=.int .i64 (fX g en st b S').2.1) hB.hc
   have hA5:=s3.ty hrv3 (by decide) _ _ _ (tA _ _ _ hA')
   (have zy:=And.intro @bJ (And.intro g5 b262);repeat refine zzCz ?_)
   refine aB aEk ?_
   (have zy:=And.intro @bJ (And.intro g5 b262);repeat refine zzCz ?_)
   refine aB (eF (l:=nB) (vs:=nB) hA5 rfl nG nG aNs) ?_
   have hab:aid≠bid:=by
    rintro rfl
    rw[hA5] at g5
    simp only[Option.some.injEq,Obj.cells.injEq] at g5
    exact absurd g5.2.1 (by decide)
   have hal:=hf.lt' hA
   refine⟨qA g5 ((T.get_upd_ne _ _ (Ne.symm hab)).trans g5),?_⟩
   refine hx _ _ _ _ (fun e=>by cases e) ?_
   have hkp5:eI [bid,sid] h h5:=fun q o hq9 hn=>by
    have hql:=hf.lt' hq9
    refine s3 q o (r3 q o (hkp q o hq9 hn) (by simp only[List.mem_cons,List.not_mem_nil,or_false,not_or] at hn ⊢; exact hn.1)) fun e=>?_
    have:=(hrv3.blk e).1
    omega
   refine hQe (by rw[hz1]; exact hz) _ _ _ (by omega) ((s4.mono (by omega)).upd (Nat.le_refl _) (by omega)) (fun q o hq9 hn=>?_) (T.get_upd_same _ _ _) e2' ?_
   ·by_cases hqa:q=aid
    ·subst hqa
     rw[T.get_upd_same,← hA]; exact hq9
    ·rw[T.get_upd_ne _ _ hqa]; exact hkp5 q o hq9 hn
   ·rw[hz1]; rfl
  ·rw[hen,hst] at hz r5 r6 r7 ⊢
   have hok3:=aKz (en:=en) (st:=st) (b:=b) hok'
   rw[if_pos hz] at hrow
   generalize fX g en st b S'=G at hrow r5 r6 r7 hz hok3
   have hkp3:eI [bid,sid] h h3:=eI.chain2 hf hkp r3 hsd
   have t1:dK cI h' h3:=hB'.tyk r3 (by decide) (by decide)
   have t2:dK bS h' h3:=hB'.tyk r3 (by decide) (by decide)
   have t3:dK bK h' h3:=hB'.tyk r3 (by decide) (by decide)
   have hgr3:=(hgr.ty t1).trans r6 (show nx≤nx'+14 by omega)
   have hovk:=r7.ok
   have hrv3:=hrv.ty t3
   refine aKQ rfl hovk hrv3 (by rw[hro.1]; omega) r2 (by omega) (Nat.le_refl _) (by omega) fun h5 w5 s1 s2 s3 s4=>?_
   dsimp only
   have g5:=s3 _ _ r5.blk (hrv3.neB r5.blk (by intro c f e; simp only[Obj.cells.injEq] at e; exact absurd e.2.1 (by decide)))
   have gs5:=s3 _ _ r5.row (hrv3.neB r5.row (by intro c f e; simp only[Obj.cells.injEq] at e; exact absurd e.2.1 (by decide)))
   have b262:=aO5 (av:=av) (bv:=bv) (nv:=nv) (n:=n) (cv:=cv) (sv:=.slice (some (own sid3 4)) cs3.length cs3.length) (ev:=.int .i64 0) hB.hc
   (have zy:=And.intro @bJ (And.intro g5 b262);repeat refine zzCz ?_)
   have t4:dK cI h3 h5:=s3.ty hrv3 (by decide)
   have t5:dK bS h3 h5:=s3.ty hrv3 (by decide)
   have hkp5:eI [bid,sid] h h5:=fun q o hq9 hn=>by
    have hql:=hf.lt' hq9
    refine s3 q o (hkp3 q o hq9 hn) fun e=>?_
    have:=(hrv3.blk e).1
    omega
   refine hq (j - 1) _ _ _ _ (by omega) ⟨i+1,sid3,cs3,G.2.2,mcs++[[.int .i64 G.1.to,ov]],row++[G.1],by omega,by omega,s4.mono (by omega),hkp5,?_,r5.keepN (fun o ho=>by rw[r5.blk] at ho; cases ho; exact g5) (fun o ho=>by rw[r5.row] at ho; cases ho; exact gs5),hok3,hgr3.ty t4,?_,?_,by simp[hrl],rfl,⟨k2,k4,k7,k8,k9,k10,k11⟩,?_⟩ (aU.refl _)
   ·rcases r4 with r4 | r4
    ·rw[r4]; exact hsd
    ·exact .inr (by omega)
   ·have ho1:=hro.ty (t2.trans t5)
    refine⟨by simp[hro.1],fun q x m hx9 hm9=>?_⟩
    rcases Nat.lt_or_ge q mcs.length with hql | hql
    ·rw[List.getElem?_append_left hql] at hx9
     rw[List.getElem?_append_left (by have:=hro.1; omega)] at hm9
     exact ho1.2 q x m hx9 hm9
    ·rw[List.getElem?_append_right hql] at hx9
     rw[List.getElem?_append_right (by have:=hro.1; omega),← hro.1] at hm9
     generalize q - mcs.length=q' at hx9 hm9
     cases q' with
     | succ q'=>simp at hx9
     | zero =>
      simp at hx9 hm9
      subst hx9; subst hm9
      exact⟨ov,rfl,(r7.ty t5).mono (by omega)⟩
   ·exact s1
   ·rw[← hrow]; simp
 ·refine aE (hx _ _ _ _ (fun e=>by cases e) ?_)
  rw[eO (l:=B) (by omega)] at hrow
  have hrow:((0:Int),row,S')=Z:=by simpa [kH] using hrow
  subst hrow
  exact hQ rfl _ _ _ sid' cs' mcs (by omega) (hf'.mono (by omega)) hkp hsd hB' hgr hrv hro ⟨k2,k4,k7,k8,k9,k10,k11⟩
end
def jC (R:List Int) (N:List (List MoveD)) (s:StateD):StateD:=⟨s.l,s.r,R,N⟩
theorem aNH {S T:List StateD}{k:Nat}{f:StateD→StateD} (hk:k < S.length):(S++T).modify k f=S.modify k f++T:=by
 apply List.ext_getElem?
 intro i
 by_cases hi:i=k
 ·subst hi
  rw[iK,List.getElem?_append_left hk,List.getElem?_append_left (by rw[List.length_modify]; exact hk),iK]
 ·rw[mJ hi]
  rcases Nat.lt_or_ge i S.length with h | h
  ·rw[List.getElem?_append_left h,List.getElem?_append_left (by rw[List.length_modify]; exact h),mJ hi]
  ·rw[List.getElem?_append_right h,List.getElem?_append_right (by rw[List.length_modify]; exact h),List.length_modify]
section
variable {g:GlD}{S:List StateD}{k:Nat}{R:List Int}{N:List (List MoveD)}
theorem aPL {l:List Int} (hk:k < S.length):kN g (S.modify k (jC R N)) l=((kN g S l).1,(kN g S l).2.1,(kN g S l).2.2.modify k (jC R N)):=by
 unfold kN
 rw[aGP k (jC R N) l (fun _=>rfl),List.length_modify]
 cases S.findIdx? (isL l) with
 | some i=>rfl
 | none =>
  dsimp only
  split
  ·rfl
  ·split
   ·rfl
   ·rw[aNH hk]
theorem aPR {en st:Int→Bool}{b:Nat} (hk:k < S.length):fX g en st b (S.modify k (jC R N))=((fX g en st b S).1,(fX g en st b S).2.1,(fX g en st b S).2.2.modify k (jC R N)):=by
 by_cases h:lZ g en st b=[]
 ·rw[rI h,rI h]
 ·rw[uO h,uO h,aPL hk]
theorem aPK {l:List Int}:S.length≤(kN g S l).2.2.length:=by
 unfold kN
 split
 ·exact Nat.le_refl _
 ·split
  ·exact Nat.le_refl _
  ·split
   ·exact Nat.le_refl _
   ·simp
theorem aPQ {en st:Int→Bool}{b:Nat}:S.length≤(fX g en st b S).2.2.length:=by
 by_cases h:lZ g en st b=[]
 ·rw[rI h]; exact Nat.le_refl _
 ·rw[uO h]; exact aPK
theorem aML {en st:Int→Bool}:∀ {B:List Nat}{S:List StateD},k < S.length→kH g en st B (S.modify k (jC R N))=((kH g en st B S).1,(kH g en st B S).2.1,(kH g en st B S).2.2.modify k (jC R N))
 | [],S,hk=>rfl
 | b::r,S,hk=>by
  rw[tZ,tZ,aPR hk]
  dsimp only
  have hl:=aPQ (g:=g) (en:=en) (st:=st) (b:=b) (S:=S)
  by_cases h0:(fX g en st b S).2.1=0
  ·rw[if_pos h0,if_pos h0,aML (by omega)]
  ·rw[if_neg h0,if_neg h0]
theorem aU5 {rule:Int}{row:List MoveD}:(S.modify k (jC R N)).modify k (uA rule row)=S.modify k (jC (R++[rule]) (N++[row])):=by
 apply List.ext_getElem?
 intro i
 by_cases hi:i=k
 ·subst hi
  rw[iK,iK,iK]
  cases S[i]?<;>rfl
 ·rw[mJ hi,mJ hi,mJ hi]
theorem aU7 {s:StateD} (hs:S[k]?=some s) (h1:s.rule=[]) (h2:s.next=[]):S.modify k (jC [] [])=S:=by
 apply List.ext_getElem?
 intro i
 by_cases hi:i=k
 ·subst hi
  rw[iK,hs]
  show some (jC [] [] s)=some s
  unfold jC
  cases s
  simp at h1 h2
  rw[h1,h2]
 ·rw[mJ hi]
theorem aOw {B:List Nat}{c:Int}{s:StateD} (hs:S[k]?=some s):uG g B k c (S.modify k (jC R N))=if (kH g (dG g k (d4 g s.l c)) (eL (d4 g s.l c)) B S).1=0 then (0,(kH g (dG g k (d4 g s.l c)) (eL (d4 g s.l c)) B S).2.2.modify k (jC (R++[rH g (-1) (d4 g s.l c)]) (N++[(kH g (dG g k (d4 g s.l c)) (eL (d4 g s.l c)) B S).2.1]))) else ((kH g (dG g k (d4 g s.l c)) (eL (d4 g s.l c)) B S).1,S.modify k (jC R N)):=by
 have hk:=(List.getElem?_eq_some_iff.1 hs).1
 have hl:lAt (S.modify k (jC R N)) k=s.l:=by
  unfold lAt
  rw[List.getD_eq_getElem?_getD,iK,hs]; rfl
 unfold uG
 rw[hl]
 dsimp only
 rw[aML hk]
 dsimp only
 split
 ·rw[aU5]
 ·rfl
end
def yY (h:T Obj) (lo:Nat) (ws:List Value) (N:List (List MoveD)):Prop:=ws.length=N.length∧∀ (i:Nat) w row,ws[i]?=some w→N[i]?=some row→∃ mcs,bL h w 2 bK mcs lo∧xA h lo mcs row∧(∀ m∈row,(∀ o∈m.ops,o < 256)∧m.ops.length≤512)∧row.length≤256
theorem yY.ty {h h':T Obj}{lo:Nat}{ws:List Value}{N:List (List MoveD)} (hr:yY h lo ws N) (h1:dK bS h h') (h2:dK bK h h'):yY h' lo ws N:=⟨hr.1,fun i w row hw hrow=>by
 obtain⟨mcs,a1,a2,a3⟩:=hr.2 i w row hw hrow
 exact⟨mcs,a1.ty h2,a2.ty h1,a3⟩⟩
theorem dK.del {e:TypeId}{h h':T Obj}{X:List Nat} (ht:dK e h h'):dK e (V.del h X) (V.del h' X):=fun k c f hg=>by
 rw[jH] at hg ⊢
 split
 ·rename_i hm; rw[if_pos hm] at hg; cases hg
 ·rename_i hm; rw[if_neg hm] at hg; exact ht _ _ _ hg
theorem Kp.delTy {e:TypeId}{h h':T Obj}{v w:Value}{n:Nat} (hk:Kp v h h') (hf:Fr h n) (hw:∀ id,lK w=some id→n≤id):dK e (V.del h (lK v).toList) (V.del h' (lK w).toList):=fun k c f hg=>by
 rw[jH] at hg
 split at hg
 ·cases hg
 ·rename_i hm
  refine mD (hk k _ hg fun e9=>hm (by rw[e9]; simp)) fun hm2=>?_
  have:=hw k (Option.mem_toList.1 hm2)
  have:=hf.lt' hg
  omega
theorem oS.delN {h:T Obj}{lo:Nat}{cs cs':List (List Value)}{S S':List StateD}{X:List Nat} (hg:oS h lo cs cs' S S') (hX:∀ x∈X,x < lo):oS (V.del h X) lo cs cs' S S':=by
 obtain⟨ds,T,a1,a2,a3,a4⟩:=hg
 refine⟨ds,T,a1,a2,a3,fun i x t hx9 ht9=>?_⟩
 obtain⟨lv,rv,e1,e2,e3,e4,e5⟩:=a4 i x t hx9 ht9
 refine⟨lv,rv,e1,e2.del fun id hid hm=>?_,e3.del fun id hid hm=>?_,e4,e5⟩
 ·have:=(e2.blk hid).1
  have:=hX id hm
  omega
 ·have:=(e3.blk hid).1
  have:=hX id hm
  omega
def KpH (e' e:dF):Prop:=e' 2=e 2∧e' 4=e 4∧e' 7=e 7
section
variable {ro:Ro}{g:GlD}{bid sid aid:Nat}{av bv nv cv:Value}{c:List Nat}{n:Int}{S:List StateD}{cs:List (List Value)}
set_option maxRecDepth 8000 in
set_option maxHeartbeats 2000000 in
theorem aUE {k M:Nat}{s:StateD}{B:List Nat} (hr:dJ g=true) (hcl:∀ x∈c,x < 256) (hBf:lR c n=B) (hBn:n=(B.length:Int)) (hBl:B.length≤256) (hb:∀ b∈B,b < 256) (hM:M≤27) (hs:S[k]?=some s) (hok:SOk g S) (h00:k=0→s.l=[]) (hz0:∃ s,S[0]?=some s∧s.l=[])
  {h:T Obj} {nx:Nat} {Q:KE} {e0:dF} (hf:Fr h nx) (hB:Rb h bid sid av bv nv c n cv S cs) (hS:RSt ro (del h [bid,sid,aid]) cs S) (hn:ZI ro (del h [bid,sid,aid]) nv (aCe g)) (ha:ZI ro (del h [bid,sid,aid]) av g.first) (hP:gD ro (del h [bid,sid,aid]) bv 9 (oU ro (del h [bid,sid,aid])) g.p) (hA:h.get aid=some (.cells nB.toArray bI))
  (e2:e0 2=ptr aid) (e4:e0 4=ptr bid) (e7:e0 7=.int .i64 (k:Int)) (e8:e0 8=.int .i64 (M:Int)) (e9:e0 9=bU) (e10:e0 10=bU) (e11:e0 11=.int .i64 0)
  (hQe:(kV g B k M 0 (S.modify k (jC [] []))).1≠0→∀ e' h' nx',nx≤nx'→Fr h' nx'→eI [bid,sid] h h'→h'.get aid=some (.cells nB.toArray bI)→e' 2=ptr aid→e' 3=.int .i64 (kV g B k M 0 (S.modify k (jC [] []))).1→Q .ret e' h' nx')
  (hQ:(kV g B k M 0 (S.modify k (jC [] []))).1=0→∀ e' h' nx' sid' cs' S' R N ws,nx≤nx'→Fr h' nx'→eI [bid,sid] h h'→(sid'=sid∨nx≤sid')→Rb h' bid sid' av bv nv c n cv S' cs'→oS (del h' (lK (e' 9)).toList) nx cs cs' S S'→SOk g S'→bL h' (e' 9) 1 cI (fK R) nx→bL h' (e' 10) 1 bP (wK ws) nx→yY h' nx ws N→R.length≤27 →
   (kV g B k M 0 (S.modify k (jC [] []))).2=S'.modify k (jC R N)→KpH e' e0→Q (.exit 4) e' h' nx') :
  dC (aBD ro) e0 h nx Q:=by
 generalize hZ:kV g B k M 0 (S.modify k (jC [] []))=Z at hQ hQe
 have hkl:=(List.getElem?_eq_some_iff.1 hs).1
 refine bD (fun j e h' nx'=>∃ (i sid':Nat) (cs':List (List Value)) (S':List StateD) (R:List Int) (N:List (List MoveD)) (ws:List Value),i+j=M∧nx≤nx'∧Fr h' nx'∧eI [bid,sid] h h'∧(sid'=sid∨nx≤sid')∧Rb h' bid sid' av bv nv c n cv S' cs'∧SOk g S' ∧
  oS (del h' (lK (e 9)).toList) nx cs cs' S S'∧bL h' (e 9) 1 cI (fK R) nx∧bL h' (e 10) 1 bP (wK ws) nx∧yY h' nx ws N∧R.length=i∧N.length=i∧e 8=.int .i64 (M:Int)∧e 11=.int .i64 i∧KpH e e0 ∧
  kV g B k j i (S'.modify k (jC R N))=Z) ?_ (n:=M)
  ⟨0,sid,cs,S,[],[],[],by omega,by omega,hf,(aU.refl h).keepL,.inl rfl,hB,hok,oS.refl,by rw[e9]; exact bL.nil,by rw[e10]; exact bL.nil,⟨rfl,fun i w row hw=>by simp at hw⟩,rfl,rfl,e8,e11,⟨rfl,rfl,rfl⟩,hZ⟩
 rintro j e h' nx' ⟨i,sid',cs',S',R,N,ws,hj,hnx,hf',hkp,hsd,hB',hok',hgr,hR,hW,hro,hRl,hNl,e8,e11,hkg,hrz⟩ Q' hq hx
 obtain⟨k2,k4,k7⟩:=hkg
 have e4':e 4=ptr bid:=k4.trans e4
 have e7':e 7=.int .i64 (k:Int):=k7.trans e7
 have e2':e 2=ptr aid:=k2.trans e2
 have hwl:=hro.1
 unfold aBD
 rw[e4',e7',e8,e11]
 refine cM (fun hi=>?_) (fun hi=>?_)
 ·obtain⟨j,rfl⟩:∃ j',j=j'+1:=⟨j - 1,by omega⟩
  have hA':h'.get aid=some (.cells nB.toArray bI):=hB.tyk hkp (by decide) (by decide) _ _ _ hA
  have hsubD:=hkp.del2 (aid:=aid) hf hsd
  have hdS:=j3 h' [bid,sid',aid]
  have hgrH:=hgr.ty (j3 _ _).ty
  have hS':=hS.grow hA' hf hkp hsd hB' hgrH hB.len fun t ht=>(hok' t ht).2.2
  have hgr0:=hgr
  obtain⟨ds,TT,a1,a2,a3,a4⟩:=hgr0
  have hs':S'[k]?=some s:=by rw[a2,List.getElem?_append_left hkl]; exact hs
  have hz0':∃ s,S'[0]?=some s∧s.l=[]:=by
   obtain⟨z,z1,z2⟩:=hz0
   exact⟨z,by rw[a2,List.getElem?_append_left (List.getElem?_eq_some_iff.1 z1).1]; exact z1,z2⟩
  obtain⟨o1,o2,o3⟩:=hok' s (List.mem_of_getElem? hs')
  rw[aEo,aOw hs'] at hrz
  have hbk:=hB'.blk
  have b261:=zQ (av:=av) (bv:=bv) (nv:=nv) (n:=n) (cv:=cv) (sv:=.slice (some (own sid' 4)) cs'.length cs'.length) (ev:=.int .i64 0) hB.hc
  have hsl:=hB'.slr hS' hdS
  have hkl':=(List.getElem?_eq_some_iff.1 hs').1
  have hke:=(List.getElem?_eq_some_iff.1 hs').2
  obtain⟨y,⟨lv,rv,uv,wv,rfl,y1,y2,y3,y4,y5⟩,w2,w3,w4,w5⟩:=hsl.at hkl'
  rw[hke] at y1 y2
  rw[o2] at y2
  have six:=hsl.ix .i64 hkl'
  refine aG ?_
  (have zy:=And.intro @bJ (And.intro hbk (And.intro b261 (And.intro six w3)));repeat refine zzCz ?_)
  refine aJw (uv:=uv) (wv:=wv) o1 hr (by have:=aAB o1; have:=(i5 hr).1; omega) (by rw[← o2]; omega) (by omega) (by omega) (hf'.mono (show nx'≤nx'+15 by omega)) hbk ((hn.sub hsubD).sub hdS) ((hP.sub hsubD (oU.sub hsubD)).sub hdS (oU.sub hdS)) y1 y2 fun n2 hn2=>?_
  refine yZ hR (by omega) (hf'.mono (show nx'≤n2 by omega)) (by omega) (Nat.le_refl _) (by omega) fun h3 w q1 q2 q3 q4=>?_
  dsimp only
  have t1:dK bS h' h3:=q3.ty hR (by decide)
  have t2:dK bK h' h3:=q3.ty hR (by decide)
  have t3:dK bP h' h3:=q3.ty hR (by decide)
  have t4:dK bI h' h3:=q3.ty hR (by decide)
  have t5:dK aO h' h3:=q3.ty hR (by decide)
  have t6:dK aR h' h3:=q3.ty hR (by decide)
  have hW3:=hW.ty t3
  have hro3:=hro.ty t1 t2
  have hA3:=t4 _ _ _ hA'
  have hB3:Rb h3 bid sid' av bv nv c n cv S' cs':=⟨hB'.hc,t5 _ _ _ hB'.blk,t6 _ _ _ hB'.row,hB'.z4,hB'.len,hB'.few,hB'.pos⟩
  have hkp3:eI [bid,sid] h h3:=fun q o hq9 hn9=>q3 q o (hkp q o hq9 hn9) fun e9=>by
   have:=(hR.blk e9).1
   have:=hf.lt' hq9
   omega
  have hsub3:aU (del h [bid,sid,aid]) (del h3 [bid,sid',aid]):=hkp3.del2 hf hsd
  have hwid:∀ id,lK w=some id→n2≤id:=fun id hid=>by
   rw[q2] at hid
   have:n2+2=id:=Option.some.inj hid
   omega
  have hgr3:oS (del h3 (lK w).toList) nx cs cs' S S':=hgr.ty (q3.delTy hf' fun id hid=>by have:=hwid id hid; omega)
  have hgr3H:=hgr3.ty (j3 _ _).ty
  have hS3:=hS.grow hA3 hf hkp3 hsd hB3 hgr3H hB.len fun t ht=>(hok' t ht).2.2
  have hop:=aMM (i5 hr).1 (en:=dG g k (d4 g s.l i)) (st:=eL (d4 g s.l i)) (B:=B) (S:=S')
  have hlen3:=hB'.len
  refine aUF (s:=s) (aid:=aid) hr hcl hBf hBn hBl hb hs' hok' h00 hz0' (show (0:Int)≤(i:Int) by omega) (by omega) (q4.mono (show _≤_ by omega)) hB3 hS3 (hn.sub hsub3) (ha.sub hsub3) (hP.sub hsub3 (oU.sub hsub3)) hA3 ?_ ?_ ?_ ?_ ?_ ?_ (fun hz e9 h4 n4 p1 p2 p3 p4 p5 p6=>?_) fun hz e9 h4 n4 sid4 cs4 mcs p1 p2 p3 p4 p5 p6 p7 p8 p9=>?_
  ·exact e2'
  ·exact e4'
  ·exact e7'
  ·exact e11
  ·rfl
  ·rfl
  ·rw[if_neg hz,if_neg hz] at hrz
   have hz1:Z.1=(kH g (dG g k (d4 g s.l i)) (eL (d4 g s.l i)) B S').1:=by rw[← hrz]
   refine kW (hx _ _ _ _ (fun e=>by cases e) ?_)
   exact hQe (by rw[hz1]; exact hz) _ _ _ (by omega) p2 (hkp3.chain2 hf p3 hsd) p4 p5 (by rw[hz1]; exact p6)
  ·rw[if_pos hz,if_pos rfl] at hrz
   generalize hG:kH g (dG g k (d4 g s.l i)) (eL (d4 g s.l i)) B S'=G at hrz hz p5 p6 p8 hop
   generalize rH g (-1) (d4 g s.l i)=ru at hrz q1
   obtain⟨r2,r4,r7,r8,r9,r10,r11⟩:=p9
   have r9:e9 9=w:=r9
   have r10:e9 10=e 10:=r10
   have r11:e9 11=.int .i64 i:=r11.trans e11
   have r8:e9 8=.int .i64 (M:Int):=r8.trans e8
   refine d3 (cU ?_)
   unfold aBK
   rw[r10]
   have u1:dK bS h3 h4:=hB3.tyk p3 (by decide) (by decide)
   have u2:dK bK h3 h4:=hB3.tyk p3 (by decide) (by decide)
   have u3:dK bP h3 h4:=hB3.tyk p3 (by decide) (by decide)
   have u4:dK cI h3 h4:=hB3.tyk p3 (by decide) (by decide)
   have hW4:=hW3.ty u3
   have hro4:=hro3.ty u1 u2
   have q14:=q1.ty u4
   have hgr4:oS (del h4 (lK w).toList) nx cs cs4 S G.2.2:=(hgr3.ty u4.del).trans (p6.delN fun x hx9=>by
    rw[q2] at hx9
    have:n2+2=x:=Option.some.inj (Option.mem_toList.1 hx9)
    omega) (by omega)
   have hkp4:=hkp3.chain2 hf p3 hsd
   have hwok:bV (e9 12)=true:=p7.ok
   refine aTU hwok hW4 (by omega) p2 (by omega) (by omega) (by omega) fun h5 w5 s1 s2 s3 s4=>?_
   dsimp only
   unfold aBJ
   have hadd:aP .add (e9 11) (.int .i64 1)=some (.int .i64 ((i:Int)+1)):=by rw[r11,dW,fG (by omega) (by omega)]
   refine aB hadd ?_
   have v1:dK bS h4 h5:=s3.ty hW4 (by decide)
   have v2:dK bK h4 h5:=s3.ty hW4 (by decide)
   have v3:dK cI h4 h5:=s3.ty hW4 (by decide)
   have v4:dK aO h4 h5:=s3.ty hW4 (by decide)
   have v5:dK aR h4 h5:=s3.ty hW4 (by decide)
   refine hq j _ h5 _ _ (by omega) ⟨i+1,sid4,cs4,G.2.2,R++[ru],N++[G.2.1],ws++[e9 12],by omega,by omega,s4.mono (by omega),fun q o hq9 hn9=>?_,?_,⟨p5.hc,v4 _ _ _ p5.blk,v5 _ _ _ p5.row,p5.z4,p5.len,p5.few,p5.pos⟩,?_,?_,?_,?_,?_,by simp[hRl],by simp[hNl],r8,rfl,⟨r2.trans k2,r4.trans k4,r7.trans k7⟩,hrz⟩ (aU.refl _)
   ·refine s3 q o (hkp4 q o hq9 hn9) fun e9=>?_
    have:=(hW4.blk e9).1
    have:=hf.lt' hq9
    omega
   ·rcases p4 with p4 | p4
    ·rw[p4]; exact hsd
    ·exact .inr (by omega)
   ·have:=aO7 (en:=dG g k (d4 g s.l i)) (st:=eL (d4 g s.l i)) (B:=B) hok'
    rw[hG] at this; exact this
   ·show oS (del h5 (lK (e9 9)).toList) nx cs cs4 S G.2.2
    rw[r9]
    exact hgr4.ty v3.del
   ·show bL h5 (e9 9) _ _ _ _
    rw[r9]
    exact q14.ty v3
   ·exact s1
   ·have ho1:=hro4.ty v1 v2
    refine⟨by simp[hro.1],fun q x m hx9 hm9=>?_⟩
    rcases Nat.lt_or_ge q ws.length with hql | hql
    ·rw[List.getElem?_append_left hql] at hx9
     rw[List.getElem?_append_left (by have:=hro.1; omega)] at hm9
     exact ho1.2 q x m hx9 hm9
    ·rw[List.getElem?_append_right hql] at hx9
     rw[List.getElem?_append_right (by have:=hro.1; omega),← hro.1] at hm9
     generalize q - ws.length=q' at hx9 hm9
     cases q' with
     | succ q'=>simp at hx9
     | zero =>
      simp at hx9 hm9
      subst hx9; subst hm9
      exact⟨mcs,(p7.ty v2).mono (by omega),(p8.ty v1).mono (by omega),hop.1,by have:=hop.2; omega⟩
 ·obtain rfl:j=0:=by omega
  have hrz:((0:Int),S'.modify k (jC R N))=Z:=hrz
  subst hrz
  exact aE (hx _ _ _ _ (fun e=>by cases e) (hQ rfl _ _ _ sid' cs' S' R N ws (by omega) (hf'.mono (by omega)) hkp hsd hB' hgr hok' hR hW hro (by omega) rfl ⟨k2,k4,k7⟩))
end
theorem aVs {ro:Ro}{h:T Obj}{v:Value}{lo lo':Nat}{ws:List Value}{N:List (List MoveD)} (ho:bL h v 1 bP (wK ws) lo) (hr:yY h lo' ws N):gD ro h v 1 (v8 ro h) N:=⟨wK ws,ho.sl,by rw[aEV]; exact hr.1,fun i x row hx hrow=>by
 unfold wK at hx
 rw[List.getElem?_map] at hx
 cases hw:ws[i]? with
 | none=>rw[hw] at hx; cases hx
 | some w =>
  rw[hw] at hx
  obtain⟨mcs,a1,a2,a3,a4⟩:=hr.2 i w row hw hrow
  have hx:[w]=x:=Option.some.inj hx
  rw[← hx]
  exact aW4 a1 a2 a3 (by omega)⟩
theorem aQn {m:Nat} (h:m≤3):eW (m:Int)≤27:=by
 have:m=0∨m=1∨m=2∨m=3:=by omega
 rcases this with rfl | rfl | rfl | rfl<;>decide
section
variable {ro:Ro}{g:GlD}{bid sid aid:Nat}{av bv nv cv:Value}{c:List Nat}{n:Int}{S:List StateD}{cs:List (List Value)}
set_option maxRecDepth 8000 in
set_option maxHeartbeats 2000000 in
theorem aUG {k:Nat}{s:StateD}{R:List Int}{N:List (List MoveD)}{ws:List Value}{lv rv:Value}{e:dF}{h:T Obj}{nx lo:Nat}{Q:KE} (hf:Fr h nx) (hB:Rb h bid sid av bv nv c n cv S cs) (hA:h.get aid=some (.cells nB.toArray bI)) (hS:RSt ro (del h [bid,sid,aid]) cs S) (hs:S[k]?=some s) (hok:SOk g S) (hx:cs[k]?=some [lv,rv,bU,bU]) (hR:bL h (e 9) 1 cI (fK R) lo) (hW:bL h (e 10) 1 bP (wK ws) lo) (hro:yY h lo ws N)
  (e4:e 4=ptr bid) (e7:e 7=.int .i64 (k:Int))
  (hQ:∀ e' h' nx',nx≤nx'→Fr h' nx'→eI [bid,sid] h h'→Rb h' bid sid av bv nv c n cv (S.modify k (jC R N)) (cs.set k [lv,rv,e 9,e 10])→RSt ro (del h' [bid,sid,aid]) (cs.set k [lv,rv,e 9,e 10]) (S.modify k (jC R N))→e' 2=e 2→e' 4=ptr bid→e' 7=.int .i64 ((k:Int)+1)→Q .normal e' h' nx') :
  wU ro Q e h nx:=by
 unfold wU
 rw[e4,e7]
 generalize e 9=w9 at hR hQ ⊢
 generalize e 10=w10 at hW hQ ⊢
 have hb:=hB.blk
 have b261:=zQ (av:=av) (bv:=bv) (nv:=nv) (n:=n) (cv:=cv) (sv:=.slice (some (own sid 4)) cs.length cs.length) (ev:=.int .i64 0) hB.hc
 have hkl:k < cs.length:=(List.getElem?_eq_some_iff.1 hx).1
 have hix:=aPW (id:=sid) (z:=4) (cap:=cs.length) hkl
 have hrg:=hB.row
 have hfew:=hB.few
 have hlen:=hB.len
 have i1:=hB.ne
 have hfl:=aIV hB.z4
 have hrok:=hR.ok
 have hwok:=hW.ok
 (have zy:=And.intro @bJ (And.intro hb (And.intro b261 hix));repeat refine zzCz ?_)
 refine aB (cE (l:=cs.flatten) hrg (by omega) hrok (iD hrok)) ?_
 rw[aEH w9 hB.z4 hx (by omega)]
 have hcs1:cs.set k ([lv,rv,bU,bU].set 2 w9)=cs.set k [lv,rv,w9,bU]:=rfl
 rw[hcs1]
 have hz1:∀ x∈cs.set k [lv,rv,w9,bU],x.length=4:=aSm hB.z4 rfl
 have hx1:(cs.set k [lv,rv,w9,bU])[k]?=some [lv,rv,w9,bU]:=by rw[List.getElem?_set_self hkl]
 have hb2:(h.upd sid (some (.cells (cs.set k [lv,rv,w9,bU]).flatten.toArray aR))).get bid=_:=(T.get_upd_ne _ _ i1).trans hb
 have hr2:(h.upd sid (some (.cells (cs.set k [lv,rv,w9,bU]).flatten.toArray aR))).get sid=_:=T.get_upd_same _ _ _
 have hfl1:=aIV hz1
 have hl1:(cs.set k [lv,rv,w9,bU]).length=cs.length:=by simp
 (have zy:=And.intro @bJ (And.intro hb2 (And.intro b261 hix));repeat refine zzCz ?_)
 refine aB (cE (l:=(cs.set k [lv,rv,w9,bU]).flatten) hr2 (by omega) hwok (iD hwok)) ?_
 rw[aEH w10 hz1 hx1 (by omega)]
 have hcs2:(cs.set k [lv,rv,w9,bU]).set k ([lv,rv,w9,bU].set 3 w10)=cs.set k [lv,rv,w9,w10]:=by
  show (cs.set k [lv,rv,w9,bU]).set k [lv,rv,w9,w10]=_
  rw[List.set_set]
 rw[hcs2]
 have hk6:eI [bid,sid] h ((h.upd sid (some (.cells (cs.set k [lv,rv,w9,bU]).flatten.toArray aR))).upd sid (some (.cells (cs.set k [lv,rv,w9,w10]).flatten.toArray aR))):=((aU.refl h).keepL.upd (by simp)).upd (by simp)
 have hf6:Fr ((h.upd sid (some (.cells (cs.set k [lv,rv,w9,bU]).flatten.toArray aR))).upd sid (some (.cells (cs.set k [lv,rv,w9,w10]).flatten.toArray aR))) nx:=(hf.upd (Nat.le_refl _) (hf.lt' hrg)).upd (Nat.le_refl _) (hf.lt' hrg)
 have hb6:((h.upd sid (some (.cells (cs.set k [lv,rv,w9,bU]).flatten.toArray aR))).upd sid (some (.cells (cs.set k [lv,rv,w9,w10]).flatten.toArray aR))).get bid=_:=(T.get_upd_ne _ _ i1).trans hb2
 have hr6:((h.upd sid (some (.cells (cs.set k [lv,rv,w9,bU]).flatten.toArray aR))).upd sid (some (.cells (cs.set k [lv,rv,w9,w10]).flatten.toArray aR))).get sid=_:=T.get_upd_same _ _ _
 generalize (h.upd sid (some (.cells (cs.set k [lv,rv,w9,bU]).flatten.toArray aR))).upd sid (some (.cells (cs.set k [lv,rv,w9,w10]).flatten.toArray aR))=h6 at hk6 hf6 hb6 hr6
 have hl2:(cs.set k [lv,rv,w9,w10]).length=cs.length:=by simp
 have hB6:Rb h6 bid sid av bv nv c n cv (S.modify k (jC R N)) (cs.set k [lv,rv,w9,w10]):=⟨hB.hc,by rw[hl2]; exact hb6,hr6,aSm hB.z4 rfl,by rw[hl2,List.length_modify]; exact hlen,by rw[List.length_modify]; exact hfew,by rw[List.length_modify]; exact hB.pos⟩
 have hA6:=hB.tyk hk6 (by decide) (by decide) _ _ _ hA
 have hd6:aU (del h [bid,sid,aid]) (del h6 [bid,sid,aid]):=hk6.del2 hf (.inl rfl)
 unfold aBI
 have hadd:aP .add (e 7) (.int .i64 1)=some (.int .i64 ((k:Int)+1)):=by rw[e7,dW,fG (by omega) (by omega)]
 refine aB hadd ?_
 refine hQ _ h6 _ (by omega) (hf6.mono (by omega)) hk6 hB6 (fun i x t hx9 ht9=>?_) rfl e4 rfl
 by_cases hik:i=k
 ·subst hik
  rw[List.getElem?_set_self hkl] at hx9
  rw[iK,hs] at ht9
  have hx9:=Option.some.inj hx9
  have ht9:jC R N s=t:=Option.some.inj ht9
  subst hx9; subst ht9
  obtain⟨lv',rv',uv',nv',q1,q2,q3,q4,q5,q6⟩:=hS i _ _ hx hs
  simp only[List.cons.injEq,and_true] at q1
  obtain⟨rfl,rfl,rfl,rfl⟩:=q1
  have t1:dK cI h h6:=hB.tyk hk6 (by decide) (by decide)
  have t2:dK bP h h6:=hB.tyk hk6 (by decide) (by decide)
  have t3:dK bK h h6:=hB.tyk hk6 (by decide) (by decide)
  have t4:dK bS h h6:=hB.tyk hk6 (by decide) (by decide)
  have hro6:=hro.ty t4 t3
  refine⟨lv,rv,w9,w10,rfl,q2.sub hd6,q3.sub hd6,(hB6.delN hA6 (hR.ty t1) (by decide) (by decide) (by decide)).sl,aVs (lo':=lo) (hB6.delN hA6 (hW.ty t2) (by decide) (by decide) (by decide)) ⟨hro6.1,fun i w row hw hrow=>?_⟩,q6⟩
  obtain⟨mcs,a1,a2,a3⟩:=hro6.2 i w row hw hrow
  refine⟨mcs,hB6.delN hA6 a1 (by decide) (by decide) (by decide),⟨a2.1,fun i x m hx hm=>?_⟩,a3⟩
  obtain⟨ov,b1,b2⟩:=a2.2 i x m hx hm
  exact⟨ov,b1,hB6.delN hA6 b2 (by decide) (by decide) (by decide)⟩
 ·rw[List.getElem?_set_ne (Ne.symm hik)] at hx9
  rw[mJ hik] at ht9
  exact eR.sub hd6 _ _ (hS i x t hx9 ht9)
end
section
variable {ro:Ro}{g:GlD}{bid sid aid:Nat}{av bv nv cv:Value}{c:List Nat}{n:Int}{S:List StateD}{cs:List (List Value)}
set_option maxRecDepth 8000 in
set_option maxHeartbeats 2000000 in
theorem aUD {B:List Nat} (hr:dJ g=true) (hcl:∀ x∈c,x < 256) (hBf:lR c n=B) (hBn:n=(B.length:Int)) (hBl:B.length≤256) (hb:∀ b∈B,b < 256) (hm0:Made g B S 0 0) (htl0:∀ (i:Nat) x,cs[i]?=some x→∃ lv rv,x=[lv,rv,bU,bU])
  {h:T Obj} {nx:Nat} {Q:KE} {e0:dF} (hf:Fr h nx) (hB:Rb h bid sid av bv nv c n cv S cs) (hS:RSt ro (del h [bid,sid,aid]) cs S) (hn:ZI ro (del h [bid,sid,aid]) nv (aCe g)) (ha:ZI ro (del h [bid,sid,aid]) av g.first) (hP:gD ro (del h [bid,sid,aid]) bv 9 (oU ro (del h [bid,sid,aid])) g.p) (hA:h.get aid=some (.cells nB.toArray bI))
  (e2:e0 2=ptr aid) (e4:e0 4=ptr bid) (e7:e0 7=.int .i64 0)
  (hQe:(sD g B 256 0 S).1≠0→∀ e' h' nx',nx≤nx'→Fr h' nx'→eI [bid,sid] h h'→h'.get aid=some (.cells nB.toArray bI)→e' 2=ptr aid→e' 3=.int .i64 (sD g B 256 0 S).1→Q .ret e' h' nx')
  (hQ:(sD g B 256 0 S).1=0→∀ e' h' nx' sid' cs',nx≤nx'→Fr h' nx'→eI [bid,sid] h h'→(sid'=sid∨nx≤sid')→Rb h' bid sid' av bv nv c n cv (sD g B 256 0 S).2 cs'→RSt ro (del h' [bid,sid',aid]) cs' (sD g B 256 0 S).2→e' 2=ptr aid→e' 4=ptr bid→Q (.exit 2) e' h' nx') :
  dC (aBC ro) e0 h nx Q:=by
 generalize hZ:sD g B 256 0 S=Z at hQe hQ
 refine bD (fun j e h' nx'=>∃ (k sid':Nat) (cs':List (List Value)) (S':List StateD),k+j=256∧k≤S'.length∧nx≤nx'∧Fr h' nx'∧eI [bid,sid] h h'∧(sid'=sid∨nx≤sid')∧Rb h' bid sid' av bv nv c n cv S' cs'∧RSt ro (del h' [bid,sid',aid]) cs' S'∧Made g B S' k 0∧(∀ (i:Nat) x,k≤i→cs'[i]?=some x→∃ lv rv,x=[lv,rv,bU,bU]) ∧
  e 2=ptr aid∧e 4=ptr bid∧e 7=.int .i64 k∧sD g B j k S'=Z) ?_ (n:=256)
  ⟨0,sid,cs,S,by omega,by omega,by omega,hf,(aU.refl h).keepL,.inl rfl,hB,hS,hm0,fun i x _ hx=>htl0 i x hx,e2,e4,e7,hZ⟩
 rintro j e h' nx' ⟨k,sid',cs',S',hj,hkS,hnx,hf',hkp,hsd,hB',hS',hm,htl,e2',e4',e7',hrz⟩ Q' hq hx
 have hbk:=hB'.blk
 have hfew:=hB'.few
 have hlen:=hB'.len
 have b261:=zQ (av:=av) (bv:=bv) (nv:=nv) (n:=n) (cv:=cv) (sv:=.slice (some (own sid' 4)) cs'.length cs'.length) (ev:=.int .i64 0) hB.hc
 have hdS:=j3 h' [bid,sid',aid]
 have hsl:=hB'.slr hS' hdS
 have hsn:=hsl.len
 unfold aBC
 rw[e4',e7']
 (have zy:=And.intro @bJ (And.intro hbk (And.intro b261 hsn));repeat refine zzCz ?_)
 refine cM (fun hk=>?_) (fun hk=>?_)
 ·have hk:k < S'.length:=by omega
  obtain⟨j,rfl⟩:∃ j',j=j'+1:=⟨j - 1,by omega⟩
  obtain⟨s,hs⟩:∃ s,S'[k]?=some s:=⟨_,List.getElem?_eq_getElem hk⟩
  have hgd:S'.getD k noS=s:=by rw[List.getD_eq_getElem?_getD,hs]; rfl
  have hke:=(List.getElem?_eq_some_iff.1 hs).2
  obtain⟨o1,o2,o3⟩:=hm.base.ok s (List.mem_of_getElem? hs)
  obtain⟨p1,p2⟩:=aIM o3
  have p3:=aQn o3
  obtain⟨m1,m2⟩:=hm.cnt k s hs
  have hd0:aA5 k 0 k s=0:=by unfold aA5; rw[if_neg (by omega),if_pos rfl]
  rw[hd0] at m1 m2
  have hmod:=aU7 hs (List.eq_nil_iff_length_eq_zero.2 m1) (List.eq_nil_iff_length_eq_zero.2 m2)
  have h00:k=0→s.l=[]:=fun hk0=>by
   obtain⟨z,z1,z2⟩:=hm.base.zero
   subst hk0
   rw[hs] at z1; cases z1; exact z2
  rw[aDv,if_pos hk,hgd] at hrz
  obtain⟨y,⟨lv,rv,uv,wv,rfl,y1,y2,y3,y4,y5⟩,w2,w3,w4,w5⟩:=hsl.at hk
  rw[hke] at y2
  have six:=hsl.ix .i64 hk
  have f1:=w4 1
  have l1:=w5 1 rv rfl
  have rl:=y2.len
  have hA':h'.get aid=some (.cells nB.toArray bI):=hB.tyk hkp (by decide) (by decide) _ _ _ hA
  have hsubD:=hkp.del2 (aid:=aid) hf hsd
  (have zy:=And.intro @bJ (And.intro hbk (And.intro b261 (And.intro six (And.intro f1 (And.intro l1 rl)))));repeat refine zzCz ?_)
  refine aHu fun n2 hn2=>?_
  have hMc:eW (s.r.length:Int)=((eW (s.r.length:Int)).toNat:Int):=(Int.toNat_of_nonneg p2).symm
  have hM27:(eW (s.r.length:Int)).toNat≤27:=by omega
  have hspec:=aA2 (n:=(eW (s.r.length:Int)).toNat) (c:=0) hm hk
  have hz0:((0:Nat):Int)=0:=rfl
  rw[hz0] at hspec
  refine aUE (M:=(eW (s.r.length:Int)).toNat) (s:=s) (aid:=aid) hr hcl hBf hBn hBl hb hM27 hs hm.base.ok h00 hm.base.zero (hf'.mono (show nx'≤_ by omega)) hB' hS' (hn.sub hsubD) (ha.sub hsubD) (hP.sub hsubD (oU.sub hsubD)) hA' ?_ ?_ ?_ ?_ ?_ ?_ ?_ (fun hz e9 h4 n4 p1 p2 p3 p4 p5 p6=>?_) fun hz e9 h4 n4 sid4 cs4 S4 R N ws q1 q2 q3 q4 q5 q6 q7 q8 q9 q10 q11 q12 q13=>?_
  ·exact e2'
  ·exact e4'
  ·exact e7'
  ·exact congrArg (Value.int IntKind.i64) hMc
  ·rfl
  ·rfl
  ·rfl
  ·rw[hmod] at hz p6
   rw[if_neg hz] at hrz
   refine kW (hx _ _ _ _ (fun e=>by cases e) ?_)
   have hz1:Z.1=(kV g B k (eW (s.r.length:Int)).toNat 0 S').1:=by rw[← hrz]
   exact hQe (by rw[hz1]; exact hz) _ _ _ (by omega) p2 (hkp.chain2 hf p3 hsd) p4 p5 (by rw[hz1]; exact p6)
  ·rw[hmod] at hz q12
   rw[if_pos hz] at hrz
   obtain⟨c1,c2⟩:=hspec hz
   rw[q12] at hrz c1 c2
   obtain⟨k2,k4,k7⟩:=q13
   have k2:e9 2=ptr aid:=k2.trans e2'
   have k4:e9 4=ptr bid:=k4.trans e4'
   have k7:e9 7=.int .i64 (k:Int):=k7.trans e7'
   have hgrH:=q6.ty (j3 _ _).ty
   have hA4:=hB'.tyk q3 (by decide) (by decide) _ _ _ hA'
   have hS4:=hS'.grow (lo:=n2+4) hA4 (hf'.mono (by omega)) q3 q4 q5 hgrH hlen fun t ht=>(q7 t ht).2.2
   have hgr0:=hgrH
   obtain⟨ds,TT,a1,a2,a3,a4⟩:=hgr0
   have hs4:S4[k]?=some s:=by rw[a2,List.getElem?_append_left hk]; exact hs
   have hkc:k < cs'.length:=by omega
   obtain⟨lv9,rv9,hx9⟩:=htl k _ (Nat.le_refl _) (List.getElem?_eq_getElem hkc)
   have hx4:cs4[k]?=some [lv9,rv9,bU,bU]:=by rw[a1,List.getElem?_append_left hkc,List.getElem?_eq_getElem hkc,hx9]
   refine d3 (cU ?_)
   refine aUG q2 q5 hA4 hS4 hs4 q7 hx4 q8 q9 q10 k4 k7 fun e7 h7 n7 r1 r2 r3 r4 r5 r6 r7 r8=>?_
   have hfs:S4.modify k (jC R N)=S4.modify k (jC R N):=rfl
   obtain⟨s',h3,h4'⟩:=c2 k s hs
   have hr9:s'.r=s.r:=by
    rw[(hm.base.ok s (List.mem_of_getElem? hs)).2.1,(c1.base.ok s' (List.mem_of_getElem? h3)).2.1,h4']
   rw[Nat.zero_add] at c1
   have c3:=Made.next' h3 (by rw[hr9]; exact c1)
   have hk3:=(List.getElem?_eq_some_iff.1 h3).1
   have hkp7:eI [bid,sid] h h7:=(hkp.chain2 hf q3 hsd).chain2 hf r3 (by
    rcases q4 with q4 | q4
    ·rw[q4]; exact hsd
    ·exact .inr (by omega))
   refine hq j _ h7 _ _ (by omega) ⟨k+1,sid4,cs4.set k [lv9,rv9,e9 9,e9 10],S4.modify k (jC R N),by omega,by omega,by omega,r2,hkp7,?_,r4,r5,c3,fun i x hi hx8=>?_,r6.trans k2,r7,r8,hrz⟩ (aU.refl _)
   ·rcases q4 with q4 | q4
    ·rw[q4]; exact hsd
    ·exact .inr (by omega)
   ·rw[List.getElem?_set_ne (by omega),a1] at hx8
    rcases Nat.lt_or_ge i cs'.length with hil | hil
    ·rw[List.getElem?_append_left hil] at hx8
     exact htl i x (by omega) hx8
    ·rw[List.getElem?_append_right hil] at hx8
     have htl9:i - cs'.length < TT.length:=by
      have:=(List.getElem?_eq_some_iff.1 hx8).1
      omega
     obtain⟨lv8,rv8,z1,_⟩:=a4 _ x _ hx8 (List.getElem?_eq_getElem htl9)
     exact⟨lv8,rv8,z1⟩
 ·have hkl:k=S'.length:=by omega
  have hrz:((0:Int),S')=Z:=by
   rw[← hrz]
   cases j with
   | zero=>rfl
   | succ j=>rw[aDv,if_neg (by omega)]
  subst hrz
  exact aE (hx _ _ _ _ (fun e=>by cases e) (hQ rfl _ _ _ sid' cs' (by omega) (hf'.mono (by omega)) hkp hsd hB' hS' e2' e4'))
end
theorem aQb (a b:Value):cX Tryz.prog aO [(0,.agg #[a,b])]=some (.agg (oL a b bU (List.replicate 256 0) 0 bU bU (.int .i64 0)).toArray):=by kernel_rfl
def aLX (g:GlD) (k:Nat):List Int:=(fM k).map (pV g)
theorem aPf (g:GlD) (k:Nat):aLX g (k+1)=aLX g k++[pV g (k:Int)]:=by
 unfold aLX
 rw[tP,List.map_append]; rfl
theorem aRx (g:GlD) (k:Nat):(aLX g k).length=k:=by unfold aLX; rw[List.length_map,wM]
section
variable {ro:Ro}{g:GlD}{bid gid rid:Nat}{av bv:Value}
set_option maxRecDepth 8000 in
set_option maxHeartbeats 2000000 in
theorem aSX {e:dF} (hr:dJ g=true) {h:T Obj}{nx:Nat}{Q:KE} (hf:Fr h nx) (hP:gD ro (del h [bid]) bv 9 (oU ro (del h [bid])) g.p)
  (hb:h.get bid=some (.cells (oL av bv bU (List.replicate 256 0) 0 bU bU (.int .i64 0)).toArray aO)) (hg:h.get gid=some (.cells [av,bv].toArray cF))
  (e1:e 1=ptr gid) (e2:e 2=ptr rid) (e4:e 4=ptr bid) (e5:e 5=bU) (e6:e 6=.int .i64 0)
  (hQ:∀ e' h' nx' sv cv nv,nx≤nx'→Fr h' nx'→eI [bid] h h'→h'.get bid=some (.cells (oL av bv nv (List.replicate 256 0) 0 cv bU (.int .i64 0)).toArray aO)→bL h' nv 1 cI (fK (aLX g g.p.length)) nx→bL h' sv 4 bR (vV (dU g.p)) nx→bL h' cv 2 eP (zA (gE g.p)) nx →
   e' 2=ptr rid→e' 4=ptr bid→e' 5=sv→Q (.exit 0) e' h' nx') :
  dC (aBF ro) e h nx Q:=by
 obtain⟨hgl,hfr,hmay⟩:=i5 hr
 have hbl:=hf.lt' hb
 have hgb:gid≠bid:=by
  rintro rfl
  rw[hg] at hb
  simp only[Option.some.injEq,Obj.cells.injEq] at hb
  exact absurd hb.2.1 (by decide)
 refine bD (fun j e h' nx'=>∃ (k:Nat) (cv nv:Value),k+j=g.p.length∧nx≤nx'∧Fr h' nx'∧eI [bid] h h'∧h'.get bid=some (.cells (oL av bv nv (List.replicate 256 0) 0 cv bU (.int .i64 0)).toArray aO) ∧
  bL h' nv 1 cI (fK (aLX g k)) nx∧bL h' (e 5) 4 bR (vV (dU (g.p.take k))) nx∧bL h' cv 2 eP (zA (gE (g.p.take k))) nx ∧
  e 1=ptr gid∧e 2=ptr rid∧e 4=ptr bid∧e 6=.int .i64 k) ?_ (n:=g.p.length)
  ⟨0,bU,bU,by omega,by omega,hf,(aU.refl h).keepL,hb,bL.nil,by rw[e5]; exact bL.nil,bL.nil,e1,e2,e4,e6⟩
 rintro j e' h' nx' ⟨k,cv,nv,hj,hnx,hf',hkp,hb',hnv,hsv,hcv,f1,f2,f4,f6⟩ Q' hq hx
 unfold aBF
 rw[f1,f4,f6]
 have hsub:aU (del h [bid]) h':=hkp.delS fun _ h=>h
 have hg':h'.get gid=some (.cells [av,bv].toArray cF):=hkp _ _ hg (by simpa using hgb)
 have hP':gD ro h' bv 9 (oU ro h') g.p:=hP.sub hsub (oU.sub hsub)
 have hpl:=hP'.len
 have c1:([av,bv]:List Value)[1]?=some bv:=rfl
 (have zy:=And.intro hg' (And.intro c1 hpl);repeat refine zzCz ?_)
 refine cM (fun hk=>?_) (fun hk=>?_)
 ·have hk:k < g.p.length:=by omega
  obtain⟨x,⟨pv,rfl,y1,y2⟩,x2⟩:=hP'.loadAK hk
  obtain⟨x',⟨pv',rfl,y1',y2'⟩,_,x3,x4,x5⟩:=hP'.at hk
  have hix:=hP'.ix .i64 hk
  have fw0:=x4 0
  have ldS:loadA ro h' 4 (fP 9 bv k 0)=some (qV g.p[k].s):=x2 0 4 (by show 0+4≤9; omega)
  have hat:=aQ6 hk
  have htk:g.p.take (k+1)=g.p.take k++[g.p[k]]:=List.take_succ_eq_append_getElem hk
  have hcd:ctd g (k:Int)=decide (1 < g.p[k].hi):=by unfold ctd; rw[hat]
  have hnum:=aEU (g:=g) k
  have hst:dU (g.p.take (k+1))=dU (g.p.take k)++[g.p[k].s]:=by rw[htk]; unfold dU; rw[List.map_append]; rfl
  have hct:=aMo (g.p.take k) g.p[k]
  rw[← htk] at hct
  have hsl:(dU (g.p.take k)).length≤512:=by unfold dU; rw[List.length_map,List.length_take]; omega
  have hcl:(gE (g.p.take k)).length≤512:=by have:=aEA (g.p.take k); rw[List.length_take] at this; omega
  have hnl:=aRx g k
  have hns:=aPf g k
  have hj7:∀ (e:dF) (h4:T Obj) (n4:Nat) (cv' nv':Value),nx'≤n4→Fr h4 n4→eI [bid] h h4→h4.get bid=some (.cells (oL av bv nv' (List.replicate 256 0) 0 cv' bU (.int .i64 0)).toArray aO) →
    bL h4 nv' 1 cI (fK (aLX g (k+1))) nx→bL h4 (e 5) 4 bR (vV (dU (g.p.take (k+1)))) nx→bL h4 cv' 2 eP (zA (gE (g.p.take (k+1)))) nx →
    e 1=ptr gid→e 2=ptr rid→e 4=ptr bid→e 6=.int .i64 k→wV ro Q' e h4 n4:=by
   intro e h4 n4 cv' nv' hn4 s1 s2 s3 s4 s6 s7 f1 f2 f4 f6
   unfold wV
   rw[f6]
   (repeat refine zzC ?_)
   exact hq (j - 1) _ _ _ _ (by omega) ⟨k+1,cv',nv',by omega,by omega,s1.mono (by omega),s2,s3,s4,s6,s7,f1,f2,f4,rfl⟩ (aU.refl _)
  (have zy:=And.intro hg' (And.intro c1 (And.intro hix (And.intro fw0 ldS)));repeat refine zzCz ?_)
  refine aTS hsv (by omega) hf' (by omega) (by omega) (by omega) fun h4 w q1 q2 q3=>?_
  dsimp only
  rw[← hst] at q1
  have t1:dK aO h' h4:=q2.ty hsv (by decide)
  have t2:dK cI h' h4:=q2.ty hsv (by decide)
  have t3:dK eP h' h4:=q2.ty hsv (by decide)
  have t4:dK cF h' h4:=q2.ty hsv (by decide)
  have hb4:=t1 _ _ _ hb'
  have hg4:=t4 _ _ _ hg'
  have hnv4:=hnv.ty t2
  have hcv4:=hcv.ty t3
  have hk4:eI [bid] h h4:=fun i o hi hn9=>by
   have:=hf.lt' hi
   refine q2 i o (hkp i o hi hn9) fun e=>?_
   have:=(hsv.blk e).1
   omega
  have hP4:gD ro h4 bv 9 (oU ro h4) g.p:=hP.sub (hk4.delS fun _ h=>h) (oU.sub (hk4.delS fun _ h=>h))
  obtain⟨x',⟨pv4,rfl,_,_⟩,_,_,z4,z5⟩:=hP4.at hk
  have fw5:=z4 5
  have fw4:=z4 4
  have l5:=z5 5 _ rfl
  have l4:=z5 4 _ rfl
  have b2:=aO3 (av:=av) (bv:=bv) (nv:=nv) (c:=List.replicate 256 0) (n:=0) (cv:=cv) (sv:=bU) (ev:=.int .i64 0)
  have b260:=aO4 (av:=av) (bv:=bv) (nv:=nv) (c:=List.replicate 256 0) (n:=0) (cv:=cv) (sv:=bU) (ev:=.int .i64 0) List.length_replicate
  have hrl:=zR (av:=av) (bv:=bv) (nv:=nv) (c:=List.replicate 256 0) (n:=0) (cv:=cv) (sv:=bU) (ev:=.int .i64 0) List.length_replicate
  (have zy:=And.intro hg4 (And.intro c1 (And.intro hix (And.intro fw5 l5)));repeat refine zzCz ?_)
  refine jT (fun u1=>?_) (fun u1=>?_)
  ·rw[if_pos u1] at hct
   rw[decide_eq_true u1] at hcd
   have hno:pV g (k:Int)=((gE (g.p.take k)).length:Nat):=by rw[(aDZ hcd).1,hnum]
   rw[hno] at hns
   have hcn:=(hcv4.sl (ro:=ro)).len
   rw[yC] at hcn
   (have zy:=And.intro @bJ (And.intro hb4 (And.intro b2 (And.intro b260 hcn)));repeat refine zzCz ?_)
   refine yZ hnv4 (by omega) q3 (by omega) (by omega) (by omega) fun h5 w5 s1 s2 s3 s4=>?_
   dsimp only
   rw[← hns] at s1
   have hw5:bV w5=true:=s1.ok
   have hb5:=s3.ty (e:=aO) hnv4 (by decide) _ _ _ hb4
   have hg5:=s3.ty (e:=cF) hnv4 (by decide) _ _ _ hg4
   have hcv5:=hcv4.ty (s3.ty (e:=eP) hnv4 (by decide))
   have hsv5:=q1.ty (s3.ty (e:=bR) hnv4 (by decide))
   have hk5:eI [bid] h h5:=fun i o hi hn9=>by
    have:=hf.lt' hi
    refine s3 i o (hk4 i o hi hn9) fun e=>?_
    have:=(hnv4.blk e).1
    omega
   (have zy:=@bJ;repeat refine zzCz ?_)
   refine aB (cE hb5 (by rw[hrl]; omega) hw5 (iD hw5)) ?_
   rw[aLn]
   have hb6:(h5.upd bid (some (.cells (oL av bv w5 (List.replicate 256 0) 0 cv bU (.int .i64 0)).toArray aO))).get bid=_:=T.get_upd_same _ _ _
   have hg6:(h5.upd bid (some (.cells (oL av bv w5 (List.replicate 256 0) 0 cv bU (.int .i64 0)).toArray aO))).get gid=_:=(T.get_upd_ne _ _ hgb).trans hg5
   have hk6:eI [bid] h (h5.upd bid (some (.cells (oL av bv w5 (List.replicate 256 0) 0 cv bU (.int .i64 0)).toArray aO))):=hk5.upd (by simp)
   have hcv6:=hcv5.updNe (o:=some (.cells (oL av bv w5 (List.replicate 256 0) 0 cv bU (.int .i64 0)).toArray aO)) hb5 (by decide)
   have hsv6:=hsv5.updNe (o:=some (.cells (oL av bv w5 (List.replicate 256 0) 0 cv bU (.int .i64 0)).toArray aO)) hb5 (by decide)
   have hnv6:=s1.updNe (o:=some (.cells (oL av bv w5 (List.replicate 256 0) 0 cv bU (.int .i64 0)).toArray aO)) hb5 (by decide)
   have hf6:=s4.upd (o:=some (.cells (oL av bv w5 (List.replicate 256 0) 0 cv bU (.int .i64 0)).toArray aO)) (Nat.le_refl _) (show bid < _ by omega)
   generalize h5.upd bid (some (.cells (oL av bv w5 (List.replicate 256 0) 0 cv bU (.int .i64 0)).toArray aO))=h6 at hb6 hg6 hk6 hcv6 hsv6 hnv6 hf6
   have hP6:gD ro h6 bv 9 (oU ro h6) g.p:=hP.sub (hk6.delS fun _ h=>h) (oU.sub (hk6.delS fun _ h=>h))
   obtain⟨x',⟨pv6,rfl,_,_⟩,_,_,v4,v5⟩:=hP6.at hk
   have l56:=v5 5 _ rfl
   have l46:=v5 4 _ rfl
   have b260':=aO4 (av:=av) (bv:=bv) (nv:=w5) (c:=List.replicate 256 0) (n:=0) (cv:=cv) (sv:=bU) (ev:=.int .i64 0) List.length_replicate
   have hrl':=zR (av:=av) (bv:=bv) (nv:=w5) (c:=List.replicate 256 0) (n:=0) (cv:=cv) (sv:=bU) (ev:=.int .i64 0) List.length_replicate
   (have zy:=And.intro @bJ (And.intro hb6 (And.intro b260' (And.intro hg6 (And.intro c1 (And.intro hix (And.intro fw4 (And.intro fw5 (And.intro l56 l46))))))));repeat refine zzCz ?_)
   refine aB (aOp _ _) ?_
   refine aTT hcv6 (by omega) (hf6.mono (show _≤_ from Nat.le_refl _)) (by omega) (by omega) (by omega) fun h7 w7 r1 r2 r3=>?_
   dsimp only
   rw[← hct] at r1
   have hw7:bV w7=true:=r1.ok
   have hb7:=r2.ty (e:=aO) hcv6 (by decide) _ _ _ hb6
   have hnv7:=hnv6.ty (r2.ty (e:=cI) hcv6 (by decide))
   have hsv7:=hsv6.ty (r2.ty (e:=bR) hcv6 (by decide))
   have hk7:eI [bid] h h7:=fun i o hi hn9=>by
    have:=hf.lt' hi
    refine r2 i o (hk6 i o hi hn9) fun e=>?_
    have:=(hcv6.blk e).1
    omega
   (have zy:=@bJ;repeat refine zzCz ?_)
   refine aB (cE hb7 (by rw[hrl']; omega) hw7 (iD hw7)) ?_
   rw[aNW List.length_replicate]
   exact hj7 _ _ _ w7 w5 (by omega) ((r3.mono (by omega)).upd (Nat.le_refl _) (by omega)) (hk7.upd (by simp)) (T.get_upd_same _ _ _) (hnv7.updNe hb7 (by decide)) (hsv7.updNe hb7 (by decide)) (r1.updNe hb7 (by decide)) f1 f2 f4 f6
  ·rw[if_neg (by omega)] at hct
   rw[decide_eq_false (by omega)] at hcd
   rw[aDY hcd] at hns
   (have zy:=And.intro @bJ (And.intro hb4 b2);repeat refine zzCz ?_)
   refine yZ hnv4 (by omega) q3 (by omega) (by omega) (by omega) fun h5 w5 s1 s2 s3 s4=>?_
   dsimp only
   rw[← hns] at s1
   have hw5:bV w5=true:=s1.ok
   have hb5:=s3.ty (e:=aO) hnv4 (by decide) _ _ _ hb4
   have hcv5:=hcv4.ty (s3.ty (e:=eP) hnv4 (by decide))
   have hsv5:=q1.ty (s3.ty (e:=bR) hnv4 (by decide))
   have hk5:eI [bid] h h5:=fun i o hi hn9=>by
    have:=hf.lt' hi
    refine s3 i o (hk4 i o hi hn9) fun e=>?_
    have:=(hnv4.blk e).1
    omega
   (have zy:=@bJ;repeat refine zzCz ?_)
   refine aB (cE hb5 (by rw[hrl]; omega) hw5 (iD hw5)) ?_
   rw[aLn]
   exact hj7 _ _ _ cv w5 (by omega) ((s4.mono (by omega)).upd (Nat.le_refl _) (by omega)) (hk5.upd (by simp)) (T.get_upd_same _ _ _) (s1.updNe hb5 (by decide)) (hsv5.updNe hb5 (by decide)) (by rw[hct]; exact hcv5.updNe hb5 (by decide)) f1 f2 f4 f6
 ·have hkl:k=g.p.length:=by omega
  subst hkl
  rw[List.take_length] at hsv hcv
  exact aE (hx _ _ _ _ (fun e=>by cases e) (hQ _ _ _ _ cv nv (by omega) (hf'.mono (by omega)) hkp hb' hnv hsv hcv f2 f4 rfl))
end
section
variable {av bv nv:Value}{c c':List Nat}{n n':Int}{cv sv ev:Value}
theorem aPw:(oL av bv nv c n cv sv ev).drop 3=fI c n++[cv,sv,ev]:=by
 show eK c n cv sv++[ev]=_
 unfold eK
 rw[List.append_assoc]; rfl
theorem aPx (hc:c.length=256) (hc':c'.length=256):over (oL av bv nv c n cv sv ev) 3 (fI c' n')=oL av bv nv c' n' cv sv ev:=by
 unfold over
 rw[← List.drop_drop,aPw,dV hc',show 257=(fI c n).length from (dV hc).symm,List.drop_left]
 show [av,bv,nv]++fI c' n'++[cv,sv,ev]=_
 unfold oL eK
 simp
theorem aS0 {h:T Obj}{bid:Nat}{e:TypeId}{f:Nat × Nat} (hc:c.length=256) (hc':c'.length=256) (hg:h.get bid=some (.cells (oL av bv nv c n cv sv ev).toArray e f)):bH 257 h (at_ bid 3 0) (mW c' n')=some (h.upd bid (some (.cells (oL av bv nv c' n' cv sv ev).toArray e f))):=by
 rw[cS,oH,hg]
 have h1:=dV (n:=n') hc'
 have h2:=zR (av:=av) (bv:=bv) (nv:=nv) (n:=n) (cv:=cv) (sv:=sv) (ev:=ev) hc
 rw[if_pos (by rw[ts]; exact h1),cC (by rw[tl,ts,h1,h2]; omega) (by rw[tl]; exact aHU _ _)]
 rw[tl,tl,aPx hc hc']; rfl
theorem aUT {ro:Ro}{h:T Obj}{bid:Nat}{e:TypeId}{f:Nat × Nat} (hc:c.length=256) (hg:h.get bid=some (.cells (oL av bv nv c n cv sv ev).toArray e f)):loadA ro h 259 (at_ bid 3 0)=some (.agg (eK c n cv sv).toArray):=by
 rw[cQ,hg,bO]
 simp only[Option.bind_some,tl]
 rw[if_pos (by rw[zR hc]; omega)]
 have:(oL av bv nv c n cv sv ev).drop 3=eK c n cv sv++[ev]:=rfl
 rw[this,List.take_append_of_le_length (by rw[cV hc]; omega),List.take_of_length_le (by rw[cV hc]; omega)]
end
set_option maxRecDepth 8000 in
set_option maxHeartbeats 4000000 in
theorem aN0 {ro:Ro}{v:Value}{g:GlD}{h:T Obj}{nx:Nat}{K:KV} (hf:Fr h nx) (hg:RG ro h v g)
  (hK:∀ h' nx' x,nx≤nx'→aU h h'→Fr h' nx'→qF ro h' x (ofZ g).2→K (.tuple #[.agg x.toArray,.int .i64 (ofZ g).1]) h' nx'):aN Tryz.prog ro aC9 [v] h nx K:=by
 obtain⟨a,b,rfl,ha,hb⟩:=hg
 apply aMB
 unfold aMA
 refine fV hf (Nat.le_refl _) fun h1 hs1 hf1 g1 _=>?_
 have g1:h1.get nx=some (.cells [a,b].toArray cF):=g1
 refine aB aBX (zO hf1 (Nat.le_refl _) fun h2 hs2 hf2 g2 _=>?_)
 have g2:h2.get (nx+1)=some (.cells nB.toArray bI):=g2
 have g1:=hs2 _ _ g1
 have hs:=hs1.trans hs2
 refine aB (bX (l:=[a,b]) g1 rfl) ?_
 refine aHs (hf2.mono (show nx+1+1≤nx+5 by omega)) ⟨a,b,rfl,ha.sub hs,hb.sub hs (oU.sub hs)⟩ fun n7 hn7=>?_
 cases hr:dJ g with
 | false =>
  have hz:ofZ g=(1,aKU):=by unfold ofZ; rw[hr]; rfl
  rw[hz] at hK
  (repeat refine zzC ?_)
  refine aB aEk ?_
  refine aB (eF (l:=nB) (vs:=nB) g2 rfl nG nG aNs) ?_
  refine aB (bX (l:=nB) (by rw[T.get_upd_same]) nG) ?_
  exact⟨h,hs.new hf (by omega),hK h _ nB (by omega) (aU.refl _) (hf.mono (by omega)) aKV⟩
 | true =>
  have hz:ofZ g=if (sD g (ofB g) 256 0 [noS]).1=0 then (0,ofD g (sD g (ofB g) 256 0 [noS]).2) else ((sD g (ofB g) 256 0 [noS]).1,aKU):=by unfold ofZ; rw[hr]; rfl
  obtain⟨hgl,hfr,hmay⟩:=i5 hr
  have hgs:(dU g.p).length≤1000000:=by unfold dU; rw[List.length_map]; omega
  (repeat refine zzC ?_)
  refine aB (bX (l:=[a,b]) g1 rfl) ?_
  refine aB (aQb _ _) ?_
  refine fV hf2 (show nx+1+1≤n7+3 by omega) fun h7 hs7 hf7 g7 _=>?_
  have g7:h7.get (n7+3)=some (.cells (oL a b bU (List.replicate 256 0) 0 bU bU (.int .i64 0)).toArray aO):=g7
  have g1:=hs7 _ _ g1
  have g2:=hs7 _ _ g2
  have hs:=hs.trans hs7
  refine aSX (gid:=nx) (rid:=nx+1) hr (hf7.mono (show n7+3+1≤n7+7 by omega)) (hb.sub (hs.delN hf (by simp; omega)) (oU.sub (hs.delN hf (by simp; omega)))) g7 g1 ?_ ?_ ?_ ?_ ?_ ?_
  ·rfl
  ·rfl
  ·rfl
  ·rfl
  ·rfl
  intro e' h8 n8 sv cv nv hn8 hf8 hk8 g8 hnv hsv hcv f2 f4 f5
  refine d3 (cU ?_)
  unfold aBG
  rw[f4,f5]
  refine aNY hgs (hf8.mono (show n8≤n8+3 by omega)) hsv.sl fun n9 hn9=>?_
  have hc:=y9 (dU g.p)
  have hcb:=aOu (l:=dU g.p)
  rw[aNd]
  (have zy:=@bJ;repeat refine zzCz ?_)
  refine aB (aS0 List.length_replicate hc g8) ?_
  have hbd:n7+3 < n8:=by omega
  have hf9:=hf8.upd (o:=some (.cells (oL a b nv (cls (dU g.p)) (many (dU g.p):Int) cv bU (.int .i64 0)).toArray aO)) (Nat.le_refl _) hbd
  have g9:(h8.upd (n7+3) (some (.cells (oL a b nv (cls (dU g.p)) (many (dU g.p):Int) cv bU (.int .i64 0)).toArray aO))).get (n7+3)=_:=T.get_upd_same _ _ _
  have hk9:eI [n7+3] h7 (h8.upd (n7+3) (some (.cells (oL a b nv (cls (dU g.p)) (many (dU g.p):Int) cv bU (.int .i64 0)).toArray aO))):=hk8.upd (by simp)
  have hcv9:=hcv.updNe (o:=some (.cells (oL a b nv (cls (dU g.p)) (many (dU g.p):Int) cv bU (.int .i64 0)).toArray aO)) g8 (by decide)
  have hnv9:=hnv.updNe (o:=some (.cells (oL a b nv (cls (dU g.p)) (many (dU g.p):Int) cv bU (.int .i64 0)).toArray aO)) g8 (by decide)
  generalize h8.upd (n7+3) (some (.cells (oL a b nv (cls (dU g.p)) (many (dU g.p):Int) cv bU (.int .i64 0)).toArray aO))=h9 at hf9 g9 hk9 hcv9 hnv9
  refine aB aJK (aB (aEO _ _ _ _ _) (aF ?_))
  have hs11:aU h9 (h9.upd (n9+6) (some (.cells [bU,bU,bU,bU].toArray aR))):=(aU.refl h9).new hf9 (by omega)
  have hf11:Fr (h9.upd (n9+6) (some (.cells [bU,bU,bU,bU].toArray aR))) (n9+6+1):=(hf9.mono (by omega)).upd (Nat.le_refl _) (by omega)
  have gs11:(h9.upd (n9+6) (some (.cells [bU,bU,bU,bU].toArray aR))).get (n9+6)=_:=T.get_upd_same _ _ _
  generalize h9.upd (n9+6) (some (.cells [bU,bU,bU,bU].toArray aR))=h11 at hs11 hf11 gs11 ⊢
  have g11:=hs11 _ _ g9
  have hk11:eI [n7+3] h7 h11:=hk9.trans hs11.keepL
  have hcv11:=hcv9.keepS hs11
  have hnv11:=hnv9.keepS hs11
  (have zy:=@bJ;repeat refine zzCz ?_)
  refine aB (cE g11 (by rw[zR hc]; omega) rfl rfl) ?_
  rw[aGm hc]
  have hf12:=hf11.upd (o:=some (.cells (oL a b nv (cls (dU g.p)) (many (dU g.p):Int) cv (.slice (some (own (n9+6) 4)) 1 1) (.int .i64 0)).toArray aO)) (Nat.le_refl _) (show n7+3 < _ by omega)
  have g12:(h11.upd (n7+3) (some (.cells (oL a b nv (cls (dU g.p)) (many (dU g.p):Int) cv (.slice (some (own (n9+6) 4)) 1 1) (.int .i64 0)).toArray aO))).get (n7+3)=_:=T.get_upd_same _ _ _
  have gs12:(h11.upd (n7+3) (some (.cells (oL a b nv (cls (dU g.p)) (many (dU g.p):Int) cv (.slice (some (own (n9+6) 4)) 1 1) (.int .i64 0)).toArray aO))).get (n9+6)=_:=(T.get_upd_ne _ _ (by omega)).trans gs11
  have hk12:eI [n7+3] h7 (h11.upd (n7+3) (some (.cells (oL a b nv (cls (dU g.p)) (many (dU g.p):Int) cv (.slice (some (own (n9+6) 4)) 1 1) (.int .i64 0)).toArray aO))):=hk11.upd (by simp)
  have hcv12:=hcv11.updNe (o:=some (.cells (oL a b nv (cls (dU g.p)) (many (dU g.p):Int) cv (.slice (some (own (n9+6) 4)) 1 1) (.int .i64 0)).toArray aO)) g11 (by decide)
  have hnv12:=hnv11.updNe (o:=some (.cells (oL a b nv (cls (dU g.p)) (many (dU g.p):Int) cv (.slice (some (own (n9+6) 4)) 1 1) (.int .i64 0)).toArray aO)) g11 (by decide)
  generalize h11.upd (n7+3) (some (.cells (oL a b nv (cls (dU g.p)) (many (dU g.p):Int) cv (.slice (some (own (n9+6) 4)) 1 1) (.int .i64 0)).toArray aO))=h12 at hf12 g12 gs12 hk12 hcv12 hnv12
  have k2:=hk12 _ _ g2 (by simp; omega)
  have hs12:aU h h12:=fun i o hi=>hk12 i o (hs _ _ hi) (by have:=hf.lt' hi; simp; omega)
  have hB12:Rb h12 (n7+3) (n9+6) a b nv (cls (dU g.p)) (many (dU g.p):Int) cv [noS] [[bU,bU,bU,bU]] :=
   ⟨hc,g12,gs12,fun x hx=>by simp at hx; rw[hx]; rfl,rfl,by simp,by simp⟩
  have hsd:aU h (V.del h12 [n7+3,n9+6,nx+1]):=hs12.delN hf (by
   intro i hi
   simp only[List.mem_cons,List.not_mem_nil,or_false] at hi
   omega)
  have hmB:=aGd g
  refine aUD (aid:=nx+1) (B:=ofB g) hr hcb rfl (by rw[hmB]) (by rw[hmB]; exact aJ7 _) aRF (aVD g (ofB g)) (fun i x hx=>?_) (hf12.mono (show n9+6+1≤n9+12 by omega)) hB12 (fun i x t hx ht=>?_) (hB12.delN k2 hnv12 (by decide) (by decide) (by decide)).sl (ha.sub hsd) (hb.sub hsd (oU.sub hsd)) k2 ?_ ?_ ?_ (fun hz9 e9 h13 n13 p1 p2 p3 p4 p5 p6=>?_) fun hz9 e9 h13 n13 sid' cs' p1 p2 p3 p4 p5 p6 p7 p8=>?_
  ·cases i with
   | succ i=>simp at hx
   | zero =>
    simp at hx
    exact⟨bU,bU,hx.symm⟩
  ·cases i with
   | succ i=>simp at hx
   | zero =>
    simp at hx ht
    subst hx; subst ht
    exact⟨bU,bU,bU,bU,rfl,Sl.nil,Sl.nil,Sl.nil,gD.nil,Nat.zero_le _⟩
  ·exact f2
  ·exact f4
  ·rfl
  ·rw[if_neg hz9] at hz
   rw[hz] at hK
   refine kW ?_
   rw[p5,p6]
   refine aB (bX (l:=nB) p4 nG) ?_
   exact⟨h,hsd.trans (p3.delS fun k hk=>by simp only[List.mem_cons,List.not_mem_nil,or_false] at hk ⊢; exact hk.elim .inl fun h=>.inr (.inl h)),hK h _ nB (by omega) (aU.refl _) (hf.mono (by omega)) aKV⟩
  ·rw[if_pos hz9] at hz
   rw[hz] at hK
   refine d3 (cU ?_)
   unfold aBH
   rw[p7,p8]
   have hb13:=p5.blk
   have k13:=hB12.tyk p3 (by decide) (by decide) _ _ _ k2
   have hcv13:=hcv12.ty (hB12.tyk p3 (by decide) (by decide))
   have lda:=aUT (ro:=ro) hc hb13
   (have zy:=And.intro @bJ lda;repeat refine zzCz ?_)
   have hcvok:=hcv13.ok
   refine aB (eF (l:=nB) (vs:=eK (cls (dU g.p)) (many (dU g.p):Int) cv (.slice (some (own sid' 4)) cs'.length cs'.length)) k13 rfl (cV hc) nG (aB0 hcvok rfl)) ?_
   refine aB (bX (l:=eK (cls (dU g.p)) (many (dU g.p):Int) cv (.slice (some (own sid' 4)) cs'.length cs'.length)) (by rw[T.get_upd_same]) (cV hc)) ?_
   refine⟨_,aU.refl _,?_⟩
   have hfin:aU (V.del h13 [n7+3,sid',nx+1]) (h13.upd (nx+1) (some (.cells (eK (cls (dU g.p)) (many (dU g.p):Int) cv (.slice (some (own sid' 4)) cs'.length cs'.length)).toArray bI))):=fun i o hi=>by
    rw[jH] at hi
    split at hi
    ·cases hi
    ·rename_i hn
     rw[T.get_upd_ne _ _ (by rintro rfl; exact hn (by simp))]; exact hi
   have hrs:sid'≠nx+1:=by
    rintro rfl
    have:=p5.row
    rw[k13] at this
    simp only[Option.some.injEq,Obj.cells.injEq] at this
    exact absurd this.2.1 (by decide)
   have hs13:aU h (V.del h13 [n7+3,sid',nx+1]):=hsd.trans (p3.del2 hf12 (by omega))
   refine hK _ _ _ (by omega) (hs13.trans hfin) ((p2.mono (show n13≤n13+6 by omega)).upd (Nat.le_refl _) (by omega)) ⟨cv,_,rfl,hc,hcb,?_,⟨cs',?_,p5.len,fun i x t hx ht=>eR.sub hfin _ _ (p6 i x t hx ht)⟩,?_,?_⟩
   ·exact aUy (hcv13.updNe k13 (by decide))
   ·refine bL.sl (h:=h13.upd (nx+1) _) (lo:=0) (e:=aR) (.inr ⟨sid',Nat.zero_le _,rfl,p5.z4,?_⟩)
    rw[T.get_upd_ne _ _ hrs]; exact p5.row
   ·have:=aEA g.p
    show (gE g.p).length≤aAP
    unfold aAP; omega
   ·have:=p5.few
    show (sD g (ofB g) 256 0 [noS]).2.length≤aAP
    unfold aAP; omega
end V
end Go.Proofs.YtjndkdmkecpllaaGreat
namespace Go.Proofs.YtjndkdmkecpllaaGreat
namespace V
attribute [local irreducible] rR aN aA
end V
end Go.Proofs.YtjndkdmkecpllaaGreat
namespace Go.Proofs.YtjndkdmkecpllaaGreat
namespace V
attribute [local irreducible] aA bF aV dL eJ iM dE
theorem aUl:gG Tryz.prog mH=some .string:=by kernel_rfl
theorem aQM {s:ByteArray}{n:Nat} (hn:n≤s.size):vW Tryz.prog mH (.string s) none (some (.int .i64 (n:Int))) none=some (.string (s.extract 0 n)):=by
 have hb:Nat.ble n s.size=true:=Nat.ble_eq_true_of_le hn
 have hnv:nV (.int .i64 (n:Int))=some n:=by simp[nV]
 unfold vW
 simp only[aUl,mM,hnv,Option.bind,hb]
section
variable {ro:Ro}{h:T Obj}{nx:Nat}{K:KV}
end
end V
end Go.Proofs.YtjndkdmkecpllaaGreat
namespace Go.Proofs.YtjndkdmkecpllaaGreat
namespace V
attribute [local irreducible] rR aN aA
end V
end Go.Proofs.YtjndkdmkecpllaaGreat
namespace Go.Proofs.YtjndkdmkecpllaaGreat
namespace V
attribute [local irreducible] aA bF aV dL eJ iM dE
def qG (rs rs':List oJ):Prop:=rs.map (·.1)=rs'.map (·.1)
theorem qG.at {rs rs':List oJ} (h:qG rs rs') (c:Int):(jR rs c).1=(jR rs' c).1:=by
 have key:∀ l:List oJ,(jR l c).1=(l.map (·.1)).getD c.toNat []:=fun l=>by
  unfold jR
  rw[List.getD_eq_getElem?_getD,List.getD_eq_getElem?_getD,List.getElem?_map]
  cases l[c.toNat]?<;>rfl
 rw[key,key,h]
theorem qG.set {rs rs':List oJ} (h:qG rs rs') (i:Nat) {x y:oJ} (hx:x.1=y.1):qG (rs.set i x) (rs'.set i y):=by
 unfold qG at h ⊢
 rw[List.map_set,List.map_set,h,hx]
theorem qG.dig {rs rs':List oJ} (h:qG rs rs') (C:List (Int × Int)) (c:Int):aEB C rs c=aEB C rs' c:=by
 unfold aEB; rw[h.at c]
theorem qG.code {rs rs':List oJ} (h:qG rs rs') (C:List (Int × Int)):∀ r:List Int,gT C rs r=gT C rs' r
 | []=>rfl
 | c::r=>by unfold gT; rw[h.dig,h.code C r]
theorem qG.clrs {nx:List Int}:∀ {S:List Int}{rs rs':List oJ},qG rs rs'→qG (pS nx S rs) (pS nx S rs')
 | [],_,_,h=>h
 | c::r,rs,rs',h=>by
  unfold pS
  refine qG.clrs ?_
  split
  ·exact h
  ·exact h.set _ rfl
theorem aS6 (n o:Nat) {r r':oJ} (h:r.1=r'.1):(aCi n o r).1=(aCi n o r').1:=by
 unfold aCi
 split
 ·rfl
 ·split
  ·show aLk (xP n r.1)=aLk (xP n r'.1); rw[h]
  ·show xP n r.1=xP n r'.1; rw[h]
theorem qG.ops {C:List (Int × Int)}:∀ {R:List Int}{os:List Nat}{rs rs':List oJ},qG rs rs'→qG (o9 C R os rs) (o9 C R os rs')
 | [],_,_,_,h=>by unfold o9; exact h
 | _::_,[],_,_,h=>by unfold o9; exact h
 | c::r,o::os,rs,rs',h=>by
  unfold o9
  exact qG.ops (h.set _ (aS6 _ _ (h.at c)))
def tB (m m':MacD):Prop:=m.cur=m'.cur∧qG m.rs m'.rs
section
variable {d:AutoD}{m m':MacD}
theorem tB.st (h:tB m m'):gQ d m=gQ d m':=by unfold gQ; rw[h.1]
theorem tB.rule (h:tB m m'):vT d m=vT d m':=by
 unfold vT; rw[h.1,tB.st h,h.2.code]
theorem tB.move (h:tB m m') (b:Nat):oK d m b=oK d m' b:=by
 unfold oK; rw[tB.st h,h.2.code]
theorem tB.on (h:tB m m') (b:Nat):onM d m b=onM d m' b:=by
 unfold onM; rw[h.1,tB.move h]
theorem tB.step (h:tB m m') (b:Nat):tB (kO d m b) (kO d m' b):=by
 unfold kO
 rw[h.1,tB.move h,tB.st h]
 split
 ·exact h
 ·exact⟨rfl,(h.2.clrs).ops⟩
end
section
variable {ro:Ro}{h:T Obj}{nx:Nat}{K:KV}
end
end V
end Go.Proofs.YtjndkdmkecpllaaGreat
namespace Go.Proofs.YtjndkdmkecpllaaGreat
namespace V
attribute [local irreducible] rR aN aA
end V
end Go.Proofs.YtjndkdmkecpllaaGreat